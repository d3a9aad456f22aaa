/-
  RngF (a part of a claim: our own text).
-/
import Derived.Test.YtciomjhdpbiaeaaGreatYETBase
namespace Go.Abs
def az2o:Res->Bool
 | .box _=>true
 |_=>false
def Zzt (m:Mem):Bool:=m.all fun x=>az2o x.2
def tokP (d:Bool)(p:PVal):PVal:=bif d then .agg [p]else .nilI
structure YldS (P:Program) {A:Type} (encX:A->PVal) (o:A->Option Bool)where
 l:Nat
 τ:Tok
 ok:∀x y,o x=some y->YSpec P l 1 [.pure (encX x)] [(0,.tok τ .nilI)] (.pure (.bool !y)) [(0,.tok τ (tokP y (encX x)))]
section
variable (ρ:Env) (F0:Cells) (w0:World) (l D:Nat) (rec:LoopState->Option Code->Loop) (bx:Mem) (memD:PVal->Mem)
variable (hbx:Zzt bx=true) (hmD:∀x,Zzt (memD x)=true/\(memD x).map (·.1)=bx.map (·.1))
end
section
variable {P:Program} {drawOk:List Oper->List Eff->Bool} {A:Type} {encX:A->PVal} {N:Nat}
end
def az3i (id':Nat)(τ:Tok)(bx m:Mem):Mem:=(id',.tok τ .nilI)::(bx.map fun x=>(x.1,Res.gone))++m
section
variable {P:Program} {drawOk:List Oper->List Eff->Bool} {A B:Type} {dB:B->Bool} {xB:B->A} {encX:A->PVal} {N:Nat}
structure RngCall (P:Program) (dB:B->Bool) (xB:B->A) (c:CallS B) (encX:A->PVal) (gf:FuncId) (as:List AVal) (l:Nat) (τ:Tok) (bx m:Mem) (id:Nat) (σ:List (Nat×Nat)) (o:Option B):Prop where
 hP:c.P=P
 hf:c.f=.fn gf
 ho:c.o=o
 args:yzr (.yld l::as) (AVal.renL (ez8 σ c.k id) c.args)
 mem:MSub (az3i (id+64) τ bx m) (Mem.ren (ez8 σ c.k id) c.m)
 ren:∀r,Kza (c.hint σ r) id=true
 tok:∀r,(Mem.ren (ez8 σ c.k id) (c.m' r)).get (id+64)=some (.tok τ (tokP (dB r) (encX (xB r))))
end
section
variable {A B U RR:Type} (P:Program) (gs:List (GuardS P)) (drawOk:List Oper->List Eff->Bool) (fn:Func) (k:Nat) (encX:A->PVal)
variable (bodyT:A->T Bool) (bx:Mem) (memD:PVal->Mem) (σ:List (Nat×Nat)) (dB:B->Bool) (xB:B->A) (cand:YldS P encX (fun x=>(bodyT x).run NN)->CallS B) (tF:T RR) (rD:A->RR) (res:RR->AVal) (m':RR->Mem)
variable (cand:U->YldS P encX (fun x=>(bodyT x).run NN)->CallS B)in
end
section
variable {A B U RR:Type} {P:Program} {gs:List (GuardS P)} {drawOk:List Oper->List Eff->Bool} {fn:Func} {k:Nat} {encX:A->PVal}
 {bodyT:A->T Bool} {bx:Mem} {memD:PVal->Mem} {σ:List (Nat×Nat)} {dB:B->Bool} {xB:B->A} {cand:U->YldS P encX (fun x=>(bodyT x).run NN)->CallS B} {tF:T RR} {rD:A->RR} {res:RR->AVal} {m':RR->Mem}
end
end Go.Abs
