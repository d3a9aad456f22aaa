/-
  Tree (a part of a claim: our own text).
-/
import Derived.Test.YtkbjjlfpbebiaaaGreatDoorYKOb
namespace Go.Abs
inductive Step3 (σ τ R:Type)where
 |next (x:σ)
 |out (y:τ)
 |fin (r:R)
structure CallS (α:Type)where
 P:Program
 f:Tgt
 o:Option α
 k:Nat
 args:List AVal
 m:Mem
 res:α->AVal
 m':α->Mem
 ok:∀y,o=some y->Vzr P f k args m (res y) (m' y)
inductive T:Type->Type 1 where
 |ret {R:Type} (r:R):T R
 |retW {R:Type} (l:List Nat) (r:R):T R
 |grd {R:Type} (p:Prop) [d:Decidable p] (k:T R):T R
 |ok {R:Type} (p:Prop) (h:p) (k:T R):T R
 |conv {R:Type} (i:Nat) (c:Conv) (k:T R):T R
 |br {R:Type} (b:Bool) (t f:T R):T R
 |brP {R:Type} (p:Prop) [d:Decidable p] (t f:T R):T R
 |call {R α:Type} (c:CallS α) (σ:List (Nat×Nat)) (k:α->T R):T R
 |name {R:Type} (i:Nat) (e:Int) (k:Int->T R):T R
 |loop {R σ τ:Type} (I:σ->St) (e:Ex) (J:τ->St) (body:σ->T (Step3 σ τ R)) (x0:σ) (l:List Nat) (k:τ->T R):T R
 |cut {R τ:Type} (d:Nat) (J:τ->St) (body:T (Step3 Unit τ R)) (k:τ->T R):T R
 |unroll {R:Type} (n:Nat) (k:T R):T R
 |clo {R:Type} (i:Nat) (c:Conv) (k:T R):T R
 |split {R:Type} (b:Bool) (t f:T R):T R
 |known {R:Type} (b:Bool) (t:T R):T R
 |lit {R:Type} (i:Nat) (n:Int) (k:T R):T R
 |cas {R:Type} (i:Nat) (e n:Int) (t f:T R):T R
 |both {R:Type} (t f:T R):T R
 |gst {R:Type} (q i h:Nat) (c:Conv) (k:T R):T R
 |stop {R:Type}:T R
def iter {σ τ R:Type}(f:σ->Option (Step3 σ τ R)):Nat->σ->Option (τ ⊕ R)
 |0,_=>none
 |n+1,x=>match f x with
  |some (.next x')=>iter f n x'
  |some (.out y)=>some (.inl y)
  |some (.fin r)=>some (.inr r)
  |none=>none
def andK {τ R:Type}(o:Option (τ ⊕ R))(k:τ->Option R):Option R:=
 match o with
 |some (.inl y)=>k y
 |some (.inr r)=>some r
 |none=>none
def andC {τ R:Type}(o:Option (Step3 Unit τ R))(k:τ->Option R):Option R:=
 match o with
 |some (.out y)=>k y
 |some (.fin r)=>some r
 |_=>none
def grd {R:Type}(p:Prop)[Decidable p](k:Option R):Option R:=if p then k else none
def T.run (N:Nat):{R:Type}->T R->Option R
 |_,.ret r=>some r
 |_,.retW _ r=>some r
 |_,.ok _ _ k=>k.run N
 |_,.conv _ _ k=>k.run N
 |_,@T.grd _ p d k=>@Go.Abs.grd _ p d (k.run N)
 |_,.br b t f=>bif b then t.run N else f.run N
 |_,@T.brP _ p d t f=>bif @decide p d then t.run N else f.run N
 |_,.call c _ k=>c.o.bind fun y=>(k y).run N
 |_,.name _ e k=>(k e).run N
 |_,.loop _ _ _ body x0 _ k=>andK (iter (fun x=>(body x).run N) N x0) fun y=>(k y).run N
 |_,.cut _ _ body k=>andC (body.run N) fun y=>(k y).run N
 |_,.unroll _ k=>k.run N
 |_,.clo _ _ k=>k.run N
 |_,.split b t f=>bif b then t.run N else f.run N
 |_,.known _ t=>t.run N
 |_,.lit _ _ k=>k.run N
 |_,.cas _ e n t f=>bif e==n then t.run N else f.run N
 |_,.both t _=>t.run N
 |_,.gst _ _ _ _ k=>k.run N
 |_,.stop=>none
theorem grd_some {R:Type}{p:Prop}[Decidable p]{k:Option R}{r:R}:grd p k=some r↔p/\k=some r:=by
 unfold grd;split<;>simp_all
def exEq:Ex->Ex->Bool
 | .normal,.normal=>true
 | .ret,.ret=>true
 | .exit a,.exit b=>decide (a=b)
 |_,_=>false
theorem Tzh {a b:Ex}(h:exEq a b=true):a=b:=by
 cases a<;>cases b<;>simp_all [exEq]
def sz6:Ex->Bool
 | .normal=>true
 |_=>false
def Fzw {R:Type}(t:T R)(K:T R->Ob):Ob:=
 match t with
 | .split b t f=>.and (.imp (b=true) (Fzw t K)) (.imp (b=false) (Fzw f K))
 | .stop=>.tru
 |t=>K t
theorem Fzx {R:Type}{N:Nat}{r:R}{K:T R->Ob}:∀ (t:T R),(Fzw t K).holds->t.run N=some r->∃t',(K t').holds/\t'.run N=some r:=by
 intro t
 induction t with
 |split b t f iht ihf=>
  intro h hr
  simp only[Fzw]at h
  simp only[T.run]at hr
  cases b with
  |true=>exact iht (h.1 rfl) hr
  |false=>exact ihf (h.2 rfl) hr
 |stop=>intro _ hr;simp[T.run]at hr
 |_=>intro h hr;exact⟨_,h,hr⟩
def Uzw (o:Oper):Bool:=
 match o.op with
 | .call c=>match c.callee with
   | .value _=>true
   | .invoke _ _=>true
   |_=>false
 |_=>false
def Uzy (o:Oper):Bool:=
 match o.op with
 | .next _ true=>true
 |_=>false
def Vz6 (k:Nat):Hint:=⟨[],k,[],[],.any,[],.none⟩
def Uzx (o:Oper):Bool:=
 match o.op with
 | .makeSlice _ _ _=>true
 | .slice _ _ _ _ _=>true
 | .binOp op _ _ y _=>Hze op y
 |_=>false
def Szx (o:Oper)(n:Nat):Nat:=
 match o.op with
 | .alloc _=>if 1000≤n then n-999 else 0
 | .buildSlice _ _ _=>if n=1000 then 1 else 0
 | .store _ _ _=>if n=998 then 1 else if 1100≤n then n-1098 else 0
 | .load _ _=>if 1100≤n then n-1098 else 0
 | .call c=>match c.callee with
   | .builtin .append=>if n=1002 then 1 else 0
   |_=>0
 |_=>0
def unT {R:Type}(o:Oper)(t:T R):Nat×T R:=
 if Uzx o then(match t with
  | .unroll n t'=>(n,t')
  |t=>(0,t))else(match t with
  | .unroll n t'=>if Szx o n=0 then(0,.unroll n t')else(Szx o n,t')
  |t=>(0,t))
theorem Uzh {R:Type}{N:Nat}(o:Oper)(t:T R):(unT o t).2.run N=t.run N:=by
 unfold unT
 split
 ·split<;>simp[T.run]
 ·split
  ·split<;>simp[T.run]
  ·rfl
def cvT {R:Type}(j:Nat)(t:T R):Conv×T R:=
 match t with
 | .conv i c t'=>if i=j then(c,t')else(.none,.conv i c t')
 |t=>(.none,t)
theorem Tzd {R:Type}{N j:Nat}(t:T R):(cvT j t).2.run N=t.run N:=by
 unfold cvT
 split
 ·split<;>simp[T.run]
 ·rfl
def opH (k:Nat)(c:Conv):Hint:=⟨[],k,[],[],.any,[],c⟩
def Tz8 (c:Conv)(out:Out):Ob:=
 match c with
 | .none=>.tru
 | .val _ p _ _=>(match out.val with
   | .pure x=>.eq x p
   | .clip x=>.eq x p
   |_=>.no)
 | .res _ r _ _=>(match out.wr with
   |(_,x)::_=>.eq x r
   |_=>.no)
def Lzj:Conv->Option Prop
 | .none=>none
 | .val pre _ _ _=>pre
 | .res pre _ _ _=>pre
def preO (a b:Option Prop):Ob:=
 match a,b with
 |none,_=>.tru
 |some p,some q=>.eq p q
 |some _,none=>.no
theorem Hzi {a b:Option Prop}(h:(preO a b).holds)(hb:holds b):holds a:=by
 unfold preO at h
 split at h
 ·trivial
 ·have h:_=_:=h
  subst h;exact hb
 ·exact h.elim
theorem Tz9 {c:Conv}{out:Out}(h:(Tz8 c out).holds)(hp:holds (Lzj c)):Azz c out:=by
 unfold Tz8 at h
 unfold Azz
 split at h
 ·trivial
 ·simp only[Lzj]at hp
  split at h
  ·rename_i hx;rw[hx];exact⟨h,hp⟩
  ·rename_i hx;rw[hx];exact⟨h,hp⟩
  ·exact h.elim
 ·simp only[Lzj]at hp
  split at h
  ·rename_i hx;rw[hx];exact⟨h,hp⟩
  ·exact h.elim
def CallS.hint {α:Type}(c:CallS α)(σ:List (Nat×Nat))(y:α):Hint:=⟨σ,c.k,c.args,c.m,c.res y,c.m' y,.none⟩
section
variable (P:Program) (nt:Nat) (rid:Nat) (ops:List Oper)
def Gz7 (o:Oper)(s:St):Option (Tgt×List AVal):=
 match o.op with
 | .call c=>match c.callee with
   | .value x=>match bzx s x with
     | .func f first caps=>some (.fn f,first++c.args.toList.map (bzx s)++caps)
     | .yld l=>some (.yld l,c.args.toList.map (bzx s))
     |_=>none
   | .invoke x name=>match bzx s x with
     | .iface t a=>match uzb P t name with
       |some f=>some (.fn f,a::c.args.toList.map (bzx s))
       |none=>none
     |_=>none
   |_=>none
 |_=>none
def Uzn {α:Type}(c:CallS α)(σ:List (Nat×Nat))(f:Tgt)(as:List AVal)(id:Nat)(s:St):Ob:=
 .and (Fz9 (bzp s.mem c.args (czg s.mem c.args as).1).1 (AVal.renL (dza σ c.k id) c.args)) (.and (subM s.mem (Mem.ren (dza σ c.k id) c.m)) (.and (.eq c.P P) (.eq c.f f)))
theorem Qz1 {α:Type}{c:CallS α}{σ:List (Nat×Nat)}{f:Tgt}{as:List AVal}{i id:Nat}{o:Oper}{s:St}{y:α}{out:Out}{b:Bool}(hc:Gz7 P o s=some (f,as))(hy:c.o=some y)
 (h:(Uzn P c σ f as id s).holds) (hs:hz2 P (fun _=>some (c.hint σ y)) i o id s=some (out,b)):holds out.obl:=by
 have hsp:=c.ok y hy
 obtain⟨h1,h2,h3,h4⟩:=h
 have h3:c.P=P:=h3
 have h4:c.f=f:=h4
 rw[h3,h4]at hsp
 unfold Gz7 at hc
 unfold hz2 at hs
 split at hc
 ·rename_i cc hop
  rw[hop]at hs
  simp only at hs
  split at hc
  ·rename_i x hx
   rw[hx]at hs
   simp only at hs
   split at hc
   ·rename_i g first caps hfx
    rw[hfx]at hs
    simp only[Option.some.injEq,Prod.mk.injEq]at hc
    obtain⟨rfl,rfl⟩:=hc
    simp only[CallS.hint]at hs
    obtain⟨_,hs⟩:=Option.ite_none_right_eq_some.1 hs
    cases hs;exact⟨jza h1,mzw h2,hsp⟩
   ·rename_i l hfx
    rw[hfx]at hs
    simp only[Option.some.injEq,Prod.mk.injEq]at hc
    obtain⟨rfl,rfl⟩:=hc
    simp only[CallS.hint]at hs
    obtain⟨_,hs⟩:=Option.ite_none_right_eq_some.1 hs
    cases hs;exact⟨jza h1,mzw h2,hsp⟩
   ·cases hc
  ·rename_i x name hx
   rw[hx]at hs
   simp only at hs
   split at hc
   ·rename_i tt a hfx
    rw[hfx]at hs
    split at hc
    ·rename_i g hm
     simp only[Option.some.injEq,Prod.mk.injEq]at hc
     obtain⟨rfl,rfl⟩:=hc
     simp only[CallS.hint,hm]at hs
     obtain⟨_,hs⟩:=Option.ite_none_right_eq_some.1 hs
     cases hs;exact⟨jza h1,mzw h2,hsp⟩
    ·cases hc
   ·cases hc
  ·cases hc
 ·cases hc
section
variable (i:Nat) (o:Oper) (id:Nat) (tr:List Eff) {R:Type} (K:St->List Eff->T R->Ob)
def wzv (s:St)(out:Out)(t:T R):Ob:=if jzb nt o.dst&&tz4 id out then K (fzo s o out) (tr++[rzi ops o id out]) t else .no
def Ezf (s:St)(out:Out)(t:T R):Ob:=
 match t with
 | .name j e k=>if j=rid * 1000+i then(match out.val with
   | .pure (.int kk e')=>.and (.eq e' e) (.all fun z=>wzv nt ops o id tr K s {out with val:=.pure (.int kk z)} (k z))
   |_=>.no)else wzv nt ops o id tr K s out (.name j e k)
 | .lit j e k=>if j=rid * 1000+i then(match out.val with
   | .pure (.int kk e')=>.and (.eq e' e) (wzv nt ops o id tr K s {out with val:=.pure (.int kk e)} k)
   |_=>.no)else wzv nt ops o id tr K s out (.lit j e k)
 | .cas j e n t f=>if j=rid * 1000+i then(match out.val with
   | .pure (.int kk e')=>.and (.eq e' e) (.and (.imp (e=n) (wzv nt ops o id tr K s {out with val:=.pure (.int kk n)} t)) (.imp (¬e=n) (Ezf s out f)))
   |_=>.no)else wzv nt ops o id tr K s out (.cas j e n t f)
 | .stop=>.tru
 |t=>wzv nt ops o id tr K s out t
def Lzp (s:St)(t:T R):Ob:=
 match t with
 | .call c σ k=>match Gz7 P o s with
   |some (f,as)=>.and (Uzn P c σ f as id s) (.all fun y=>.imp (c.o=some y) (match hz2 P (fun _=>some (c.hint σ y)) i o id s with
    |some (out,_)=>Ezf nt rid ops i o id tr K s out (k y)
    |none=>.no))
   |none=>.no
 |_=>.no
def Lzq (s:St)(t:T R):Ob:=
 match t with
 |@T.brP _ p _ t1 t2=>.and (.imp p (match hz2 P (fun _=>some (Vz6 1)) i o id s with
  |some (out,_)=>(match out.obl with
   |some q=>.and (.eq q p) (wzv nt ops o id tr K s out t1)
   |none=>wzv nt ops o id tr K s out t1)
  |none=>.no)) (.imp (¬p) (match hz2 P (fun _=>some (Vz6 0)) i o id s with
  |some (out,_)=>(match out.obl with
   |some q=>.and (.eq q (¬p)) (wzv nt ops o id tr K s out t2)
   |none=>wzv nt ops o id tr K s out t2)
  |none=>.no))
 |_=>.no
def Uz1 (s:St)(m:Nat)(c:Conv)(t:T R):Ob:=
 match hz2 P (fun _=>some (opH m c)) i o id s with
 |some (out,_)=>match szo c out with
  |some out1=>.and (Tz8 c out) (match out.obl with
   |none=>.and (preO (Lzj c) none) (Ezf nt rid ops i o id tr K s out1 t)
   |some q=>match t with
    |@T.grd _ p _ k=>.imp p (.and (.eq q p) (.and (preO (Lzj c) (some p)) (Ezf nt rid ops i o id tr K s out1 k)))
    | .ok p _ k=>.and (.eq q p) (.and (preO (Lzj c) (some p)) (Ezf nt rid ops i o id tr K s out1 k))
    |_=>.no)
  |none=>.no
 |none=>.no
def runO (s:St)(t:T R):Ob:=
 if Uzw o then Lzp P nt rid ops i o id tr K s t
 else if Uzy o then Lzq P nt ops i o id tr K s t
 else Uz1 P nt rid ops i o id tr K s (unT o t).1 (cvT (rid * 1000+i) (unT o t).2).1 (cvT (rid * 1000+i) (unT o t).2).2
def Lzx (s:St)(t:T R):Ob:=if jzb nt o.dst then K (s.putD o.dst (.tup [])) (tr++[⟨o.dst,nzm ops o,id,.tup [],[],[]⟩]) t else .no
def opO (s:St)(t:T R):Ob:=
 match czn ops s o with
 | .run=>runO P nt rid ops i o id tr K s t
 | .skip=>Lzx nt ops o id tr K s t
 | .bad=>.no
 | .ask q b want=>match t with
   | .br b' t1 t2=>.and (.eq b b') (.and (.imp (b'=true) (if want then runO P nt rid ops i o id tr K (s.put q .tt) t1 else Lzx nt ops o id tr K (s.put q .tt) t1)) (.imp (b'=false) (if want then Lzx nt ops o id tr K (s.put q .ff) t2 else runO P nt rid ops i o id tr K (s.put q .ff) t2)))
   | .known true t1=>.and (.eq b true) (if want then runO P nt rid ops i o id tr K (s.put q .tt) t1 else Lzx nt ops o id tr K (s.put q .tt) t1)
   | .known false t1=>.and (.eq b false) (if want then Lzx nt ops o id tr K (s.put q .ff) t1 else runO P nt rid ops i o id tr K (s.put q .ff) t1)
   |_=>.no
end
def Kze {R:Type}:(i:Nat)->List Oper->(id:Nat)->St->List Eff->T R->(St->List Eff->T R->Ob)->Ob
 |_,[],_,s,tr,t,K=>K s tr t
 |i,o::rest,id,s,tr,t,K=>Fzw t fun t=>opO P nt rid ops i o id tr (fun s tr t=>Kze (i+1) rest (id+64) s tr t K) s t
end
def finT {R:Type}(t:T R)(s:St):Option (R×St):=
 match t with
 | .ret r=>some (r,s)
 | .retW l r=>some (r,s.weak l)
 |_=>none
def closeX (m:Mem)(i:Nat):Option (Res×Nat×Res):=
 match m.get i with
 |some (.vecX sz n f e h off k)=>match m.get k with
  |some (.vec sz' n' g _ e')=>some (.vec sz n (czx f h off (.lst sz' n' g)) 0 e,k,.vec sz' n' g n' e')
  |_=>none
 |_=>none
def Ozi:Res->Bool
 | .vec ..=>true
 |_=>false
def Bzf (m:Mem):List AVal->Option (List AVal×Nat×Res)
 |[]=>none
 | .vec k::cs=>match m.get k with
   |some (.vec sz n f _ e)=>some (.pure (.lst sz n f)::cs,k,.vec sz n f n e)
   |_=>none
 |a::cs=>match Bzf m cs with
  |some (cs',k,y)=>some (a::cs',k,y)
  |none=>none
def Nzv (m:Mem)(i:Nat):Option (Res×Nat×Res):=
 match m.get i with
 |some (.box cs)=>match Bzf m cs with
  |some (cs',k,y)=>some (.box cs',k,y)
  |none=>none
 |_=>none
def closeU (m:Mem)(i:Nat)(grow:Bool):Option (Res×Nat×Nat×Nat):=
 match m.get i with
 |some (.vecU sz n f k e off s' e' ((h,kk)::hs))=>match m.get kk with
  |some (.vec s'' n' g 0 e'')=>if s''=s'&&e''=e' then(if grow then some (.vecU sz n (czx f h off (.lst s' n' g)) (k+1) e off s' e' hs,kk,h,k)
   else some (.vecU sz n (czx f h off (.lst s' n' g)) k e off s' e' hs,kk,k,n))else none
  |_=>none
 |_=>none
def Tzx (h:Nat):List (Nat×Nat)->Prop->Prop
 |[],p=>p
 |x::hs,p=>x.1≠h/\Tzx h hs p
def openU (m:Mem)(i h new:Nat):Option (Res×Res×Prop):=
 match m.get i with
 |some (.vecU sz n f k e off s' e' hs)=>match(f h).cells[off]? with
  |some (.lst s'' n' g)=>if s''=s' then some (.vecU sz n f k e off s' e' (hs++[(h,new)]),.vec s' n' g 0 e',Tzx h hs (h<k))else none
  |_=>none
 |_=>none
def grdO {R:Type}(p:Prop)(t:T R)(K:T R->Ob):Ob:=
 match t with
 |@T.grd _ p' _ k=>.imp p' (.and (.eq p p') (K k))
 | .ok p' _ k=>.and (.eq p p') (K k)
 |_=>.no
def cnvU {R:Type}(i:Nat)(c:Conv)(s:St)(t:T R)(K:T R->St->Ob):Ob:=
 match s.mem.get i with
 |some x=>(match c with
  | .res none r r' _=>if Res.lt s.nx r' then .and (.eq x r) (K t {s with mem:=(i,r')::s.mem})else .no
  | .res (some p) r r' _=>if Res.lt s.nx r' then .and (.eq x r) (grdO p t fun t=>K t {s with mem:=(i,r')::s.mem})else .no
  |_=>.no)
 |none=>.no
def Rzk {R:Type}(t:T R)(s:St)(K:T R->St->Ob):Ob:=
 match t with
 | .gst 0 i h _ t'=>match openU s.mem i h s.nx with
   |some (x,y,p)=>grdO p t' fun t=>K t {s with mem:=(i,x)::(s.nx,y)::s.mem,nx:=s.nx+64}
   |none=>.no
 | .gst 3 i _ c t'=>cnvU i c s t' K
 |t=>K t s
def opnO {R:Type}(t:T R)(s:St)(K:T R->St->Ob):Ob:=Rzk t s fun t s=>Rzk t s K
def cloK {R:Type}(i kk:Nat)(x:Res)(c:Conv)(s:St)(t:T R)(K:T R->St->Ob):Ob:=
 match c with
 | .none=>K t {s with mem:=(i,x)::(kk,.gone)::s.mem}
 | .res none r r' _=>if Res.lt s.nx r' then .and (.eq x r) (K t {s with mem:=(i,r')::(kk,.gone)::s.mem})else .no
 |_=>.no
def cloU {R:Type}(q i:Nat)(c:Conv)(s:St)(t:T R)(K:T R->St->Ob):Ob:=
 match closeU s.mem i (q==2)with
 |some (x,kk,a,b)=>if q==2 then grdO (a=b) t fun t=>cloK i kk x c s t K else .and (.eq a b) (cloK i kk x c s t K)
 |none=>.no
def finU {R:Type}(t:T R)(s:St)(K:T R->St->Ob):Ob:=
 match t with
 | .gst 3 i _ c t=>cnvU i c s t K
 | .gst (q+1) i _ c t=>cloU (q+1) i c s t K
 |t=>K t s
def Oz6 {R:Type}(t:T R)(s:St)(K:T R->St->Ob):Ob:=
 match t with
 | .clo i c t=>match c with
   | .none=>match Nzv s.mem i with
     |some (x,k,y)=>Oz6 t {s with mem:=(i,x)::(k,y)::s.mem} K
     |none=>.no
   | .res pre r r' _=>match closeX s.mem i with
     |some (x,k,y)=>if Ozi r' then .and (.eq x r) (.and (preO pre none) (Oz6 t {s with mem:=(i,r')::(k,y)::s.mem} K))else .no
     |none=>.no
   |_=>.no
 |t=>K t s
def finO {R:Type}(t:T R)(s:St)(K:T R->St->Ob):Ob:=finU t s fun t s=>finU t s fun t s=>finU t s fun t s=>Oz6 t s K
def vzv {R:Type}(step:T R->St->(Ex->T R->St->Ob)->Ob):Nat->T R->St->(Ex->T R->St->Ob)->Ob
 |0,_,_,_=>.no
 |k+1,t,s,K=>step t s fun e t s=>match e with
  | .normal=>vzv step k t s K
  |e=>K e t s
section
variable (P:Program) (nt n0:Nat) (drawOk:List Oper->List Eff->Bool)
def okO {σ:Type}(I:σ->St):Ob:=.all fun x=>.and (.eq (I x).ok true) (.eq (decide (n0≤(I x).nx)) true)
def vcT:Code->{R:Type}->T R->St->(Ex->T R->St->Ob)->Ob
 | .skip,_,t,s,K=>K .normal t s
 | .label _,_,t,s,K=>K .normal t s
 | .region rid ops draw,_,t,s,K=>opnO t s fun t s=>match(if draw then none else jz4 ops.toList)with
   |some (l,x)=>Kze P nt rid ops.toList 0 l s.nx s [] t fun s' _ t'=>match bzx s' x with
    | .func f a b=>K .normal t' {s' with df:=.func f a b::s'.df,nx:=s.nx+64 * ops.toList.length}
    |_=>.no
   |none=>Kze P nt rid ops.toList 0 ops.toList s.nx s [] t fun s' tr t'=>
    if !draw||drawOk ops.toList tr then K .normal t' {s' with nx:=s.nx+64 * ops.toList.length}else .no
 | .seq a b,_,t,s,K=>match t with
   | .cut 0 J body k=>.and (okO n0 J) (.and (vcT a body s (fun e t' s'=>finO t' s' fun t' s'=>match finT t' s' with
    |some (.out y,s'')=>if sz6 e then entO n0 s'' (J y)else .no
    |some (.fin r,s'')=>if sz6 e then .no else K e (.ret r) s''
    |_=>.no)) (.all fun y=>vcT b (k y) (J y) K))
   | .cut (d+1) J body k=>vcT a (.cut d J body k) s fun e t s=>match e with
     | .normal=>vcT b t s K
     |e=>K e t s
   |t=>vcT a t s fun e t s=>match e with
    | .normal=>vcT b t s K
    |e=>K e t s
 | .cond c a b,_,t,s,K=>match bzx s c with
   | .tt=>vcT a t s K
   | .ff=>vcT b t s K
   | .anyb=>match t with
     | .both t1 t2=>.and (.all fun N:Nat=>.eq (T.run N t1) (T.run N t2)) (.and (vcT a t1 s K) (vcT b t2 s K))
     |t=>.and (vcT a t s K) (vcT b t s K)
   | .pure (.bool x)=>match t with
     | .br x' t1 t2=>.and (.eq x x') (.and (.imp (x'=true) (vcT a t1 s K)) (.imp (x'=false) (vcT b t2 s K)))
     | .known true t1=>.and (.eq x true) (vcT a t1 s K)
     | .known false t1=>.and (.eq x false) (vcT b t1 s K)
     |_=>.no
   |_=>.no
 | .block id body,_,t,s,K=>vcT body t s fun e t s=>match e with
   | .exit j=>if j=id then K .normal t s else K (.exit j) t s
   |e=>K e t s
 | .loop body,_,t,s,K=>match t with
   | .unroll n t=>vzv (vcT body) n t s K
   | .loop I e J bodyT x0 l k=>.and (okO n0 I) (.and (okO n0 J) (.and (entO n0 (s.weak l) (I x0)) (.and
    (.all fun x=>vcT body (bodyT x) (I x) fun e' t' s'=>finO t' s' fun t' s'=>match finT t' s' with
     |some (.next x',s'')=>if sz6 e' then entO n0 s'' (I x')else .no
     |some (.out y,s'')=>if exEq e' e&& !sz6 e' then entO n0 s'' (J y)else .no
     |some (.fin r,s'')=>if sz6 e' then .no else K e' (.ret r) s''
     |_=>.no) (.all fun y=>Fzw (k y) fun t=>K e t (J y)))))
   |_=>.no
 | .scope body,_,t,s,K=>vcT body t s K
 | .exit id,_,t,s,K=>K (.exit id) t s
 | .ret,_,t,s,K=>K .ret t s
 |_,_,_,_,_=>.no
end
theorem Pz4 {n0:Nat}{σ:Type}{I:σ->St}(h:(okO n0 I).holds)(x:σ):(I x).ok=true/\n0≤(I x).nx:=by
 obtain⟨h1,h2⟩:=h x
 exact⟨h1,of_decide_eq_true h2⟩
theorem Nz1 {X:Cx}{F:Cells}{w:World}{ρ:Env}{a:Act}{s:St}{i k:Nat}{x y r':Res}(hc:closeX s.mem i=some (x,k,y))(hv:Ozi r'=true)(hr:RSub x r')(hs:Sat X F w ρ s a)(ho:s.ok=true):
 ∃F',Sat X F' w ρ {s with mem:=(i,r')::(k,y)::s.mem} a/\({s with mem:=(i,r')::(k,y)::s.mem}:St).ok=true:=by
 unfold closeX at hc
 split at hc
 ·rename_i sz n f e h off k' hi
  split at hc
  ·rename_i sz' n' g sh e' hk
   cases hc
   obtain⟨F',st,hm⟩:=hs.mem.closeX hs.good hi hk
   have hget:∀j q,Mem.get ((i,r')::(k,Res.vec sz' n' g n' e')::s.mem) j=some q->∃q0,Mem.get ((i,Res.vec sz n (czx f h off (.lst sz' n' g)) 0 e)::(k,Res.vec sz' n' g n' e')::s.mem) j=some q0/\RSub q0 q:=by
    intro j q hq
    rw[Mem.get]at hq⊢
    split at hq
    ·rename_i e1;cases hq;rw[if_pos e1];exact⟨_,rfl,hr⟩
    ·rename_i e1;rw[if_neg e1];exact⟨q,hq,RSub.refl q⟩
   refine⟨F',⟨hs.size,fun t=>(hs.fr t).mono' st.sub st.cell,⟨fun j q hq=>?_,fun j q b hq hb=>?_,fun j j' q q' b hq hq' hb hb'=>?_⟩,pzk (fun _=>True) st.sub st.cell (fun _ _=>⟨rfl,rfl⟩) hs.df (fun _ h=>absurd trivial h),st.good hs.good,hs.from0.trans st,hs.env0⟩,?_⟩
   ·obtain⟨q0,q1,q2⟩:=hget j q hq;exact(q2.rel _ _ _ _ (hm.ok _ _ q1)).1
   ·obtain⟨q0,q1,q2⟩:=hget j q hq;exact hm.mine _ _ _ q1 ((q2.rel _ _ _ _ (hm.ok _ _ q1)).2 b hb)
   ·obtain⟨q0,q1,q2⟩:=hget j q hq
    obtain⟨q3,q4,q5⟩:=hget j' q' hq'
    exact hm.disj _ _ _ _ b q1 q4 ((q2.rel _ _ _ _ (hm.ok _ _ q1)).2 b hb) ((q5.rel _ _ _ _ (hm.ok _ _ q4)).2 b hb')
   ·simp only[St.ok,Bool.and_eq_true]at ho⊢
    have hl:Res.lt s.nx r'=true:=by cases r'<;>simp[Ozi]at hv;rfl
    simp only[fz6,Bool.and_eq_true,decide_eq_true_eq]
    exact⟨⟨ho.1.1,⟨hzp ho.1.2 hi,hl⟩,⟨hzp ho.1.2 hk,rfl⟩,ho.1.2⟩,ho.2⟩
  ·cases hc
 ·cases hc
theorem Jz1 {F F':Cells}{w:World}{ρ:Env}{Mine:Nat->Prop}{M:Mem}:∀ {cs cs':List AVal} {k:Nat} {y:Res},Bzf M cs=some (cs',k,y)->
 ∃sz n f sh e,M.get k=some (.vec sz n f sh e)/\y=.vec sz n f n e/\cs'.length=cs.length/\(PRel F' w (.lst sz n f) (ez4 (ρ.vec k))->∀ (j:Nat) (a':AVal),cs'[j]?=some a'->∃a,cs[j]?=some a/\∀v,ARel F' w ρ a v->ARel F' w ρ a' v)/\
  ∀b,AVal.ltL b cs=true->AVal.ltL b cs'=true
 |[],_,_,_,h=>by simp[Bzf]at h
 |a::cs,cs',k,y,h=>by
  have tail:∀ {a:AVal},(match Bzf M cs with|some (cs',k,y)=>some (a::cs',k,y)|none=>none)=some (cs',k,y)->∃sz n f sh e,M.get k=some (.vec sz n f sh e)/\y=.vec sz n f n e/\cs'.length=(a::cs).length/\(PRel F' w (.lst sz n f) (ez4 (ρ.vec k))->∀ (j:Nat) (a':AVal),cs'[j]?=some a'->∃a0,(a::cs)[j]?=some a0/\∀v,ARel F' w ρ a0 v->ARel F' w ρ a' v)/\
   ∀b,AVal.ltL b (a::cs)=true->AVal.ltL b cs'=true:=by
   intro a h
   split at h
   ·rename_i cs1 k1 y1 h1
    cases h
    obtain⟨sz,n,f,sh,e,q1,q2,q3,q4,q5⟩:=Jz1 (F:=F) (F':=F') (w:=w) (ρ:=ρ) (Mine:=Mine) h1
    refine⟨sz,n,f,sh,e,q1,q2,by simp[q3],fun hp j a' ha=>?_,fun b hb=>?_⟩
    ·cases j with
     |zero=>simp at ha;subst ha;exact⟨a,rfl,fun v h=>h⟩
     |succ j=>simp at ha⊢;exact q4 hp j a' ha
    ·simp only[AVal.ltL,Bool.and_eq_true]at hb⊢
     exact⟨hb.1,q5 b hb.2⟩
   ·cases h
  cases a with
  |vec k0=>
   simp only[Bzf]at h
   split at h
   ·rename_i sz n f sh e hk
    cases h
    refine⟨sz,n,f,sh,e,hk,rfl,rfl,fun hp j a' ha=>?_,fun b hb=>?_⟩
    ·cases j with
     |zero=>
      simp at ha;subst ha
      refine⟨_,rfl,fun v hv=>.pure ?_⟩
      have:v=ez4 (ρ.vec k):=by
       cases hv with
       |vnil h=>rw[h];rfl
       |vec h=>rw[h];rfl
      rw[this];exact hp
     |succ j=>simp at ha;exact⟨a',by simpa using ha,fun v h=>h⟩
    ·simp only[AVal.ltL,Bool.and_eq_true]at hb⊢
     exact⟨rfl,hb.2⟩
   ·cases h
  |_=>exact tail (by simpa only[Bzf]using h)
theorem Bzv {b i:Nat}{r:Res}:∀ {m:Mem},fz6 b m=true->m.get i=some r->Res.lt b r=true
 |[],_,h=>by simp[Mem.get]at h
 |(j,q)::m,h,hg=>by
  simp only[fz6,Bool.and_eq_true,decide_eq_true_eq]at h
  rw[Mem.get]at hg
  split at hg
  ·cases hg;exact h.1.2
  ·exact Bzv h.2 hg
theorem Nz0 {X:Cx}{F:Cells}{w:World}{ρ:Env}{a:Act}{s:St}{i k:Nat}{x y:Res}(hc:Nzv s.mem i=some (x,k,y))(hs:Sat X F w ρ s a)(ho:s.ok=true):
 ∃F',Sat X F' w ρ {s with mem:=(i,x)::(k,y)::s.mem} a/\({s with mem:=(i,x)::(k,y)::s.mem}:St).ok=true:=by
 unfold Nzv at hc
 split at hc
 ·rename_i cs hi
  split at hc
  ·rename_i cs' k' y' hf
   cases hc
   have hm0:=hs.mem
   have hg:=hs.good
   obtain⟨sz,n,f,sh,e,q1,rfl,q3,q4,q5⟩:=Jz1 (F:=F) (F':=czu F w ρ s.mem [k]) (w:=w) (ρ:=ρ) (Mine:=X.Mine) hf
   obtain⟨st,hm1⟩:=iz4 (m:=s.mem) hm0 hg (is:=[k]) (fun _ _=>rfl)
   have hsh:bz6 s.mem [k]=[(k,Res.vec sz n f n e)]:=by simp[bz6,q1]
   rw[hsh]at hm1
   have hp:=fze (m:=s.mem) hm0 hg (a:=.vec k) (p:=.lst sz n f) (is:=[k]) (js:=[k]) (by simp[kzb,Ezu,q1]) (fun _ h=>h) (fun _ _=>rfl) (rz8 k)
   have hik:i≠k:=fun e1=>by rw[e1,q1]at hi;cases hi
   have hi1:Mem.get ([(k,Res.vec sz n f n e)]++s.mem) i=some (.box cs):=by simp[Mem.get,Ne.symm hik,hi]
   have hget:∀j q,Mem.get ((i,Res.box cs')::(k,Res.vec sz n f n e)::s.mem) j=some q->(j=i/\q=.box cs')\/(j≠i/\Mem.get ([(k,Res.vec sz n f n e)]++s.mem) j=some q):=by
    intro j q hq
    rw[Mem.get]at hq
    split at hq
    ·rename_i e1;cases hq;exact .inl ⟨e1.symm,rfl⟩
    ·rename_i e1;exact .inr ⟨fun h=>e1 h.symm,hq⟩
   have hown:∀j q,Mem.get ((i,Res.box cs')::(k,Res.vec sz n f n e)::s.mem) j=some q->∃q',Mem.get ([(k,Res.vec sz n f n e)]++s.mem) j=some q'/\∀b,Owns w ρ j q b->Owns w ρ j q' b:=by
    intro j q hq
    rcases hget j q hq with⟨rfl,rfl⟩|⟨-,hq⟩
    ·exact⟨_,hi1,fun b hb=>hb⟩
    ·exact⟨q,hq,fun b hb=>hb⟩
   obtain⟨c,e0,c1,c2,c3,c4⟩:=hm1.ok i _ hi1
   refine⟨_,⟨hs.size,fun t=>(hs.fr t).mono' st.sub st.cell,⟨fun j q hq=>?_,fun j q b hq hb=>?_,fun j j' q q' b hq hq' hb hb'=>?_⟩,pzk (fun _=>True) st.sub st.cell (fun _ _=>⟨rfl,rfl⟩) hs.df (fun _ h=>absurd trivial h),st.good hs.good,hs.from0.trans st,hs.env0⟩,?_⟩
   ·rcases hget j q hq with⟨rfl,rfl⟩|⟨-,hq⟩
    ·refine⟨c,e0,c1,by rw[q3];exact c2,c3,fun jj a' v ha hv=>?_⟩
     obtain⟨a0,a1,a2⟩:=q4 hp jj a' ha
     exact⟨a2 v (c4 jj a0 v a1 hv).1,(c4 jj a0 v a1 hv).2⟩
    ·exact hm1.ok j q hq
   ·obtain⟨q',h1,h2⟩:=hown j q hq
    exact hm1.mine j q' b h1 (h2 b hb)
   ·obtain⟨r1,h1,h2⟩:=hown j q hq
    obtain⟨r2,h3,h4⟩:=hown j' q' hq'
    exact hm1.disj j j' r1 r2 b h1 h3 (h2 b hb) (h4 b hb')
   ·simp only[St.ok,Bool.and_eq_true]at ho⊢
    have hl:Res.lt s.nx (.box cs')=true:=q5 s.nx (Bzv ho.1.2 hi)
    simp only[fz6,Bool.and_eq_true,decide_eq_true_eq]
    exact⟨⟨ho.1.1,⟨hzp ho.1.2 hi,hl⟩,⟨hzp ho.1.2 q1,rfl⟩,ho.1.2⟩,ho.2⟩
  ·cases hc
 ·cases hc
theorem Lz8 {N:Nat}{R:Type}{r:R}{p:Prop}{t:T R}{K:T R->Ob}(h:(grdO p t K).holds)(hr:t.run N=some r):∃t',p/\(K t').holds/\t'.run N=some r:=by
 unfold grdO at h
 split at h
 ·rename_i p' d k
  simp only[T.run]at hr
  obtain⟨hp,hr⟩:=grd_some.1 hr
  obtain⟨h1,h2⟩:=h hp
  have h1:p=p':=h1
  exact⟨k,h1▸hp,h2,hr⟩
 ·rename_i p' hp k
  obtain⟨h1,h2⟩:=h
  have h1:p=p':=h1
  exact⟨k,h1▸hp,h2,by simpa[T.run]using hr⟩
 ·exact h.elim
theorem Mzi {h:Nat}{p:Prop}:∀ {hs:List (Nat×Nat)},Tzx h hs p->jzx hs h=false/\p
 |[],hp=>⟨rfl,hp⟩
 |x::hs,hp=>by
  obtain⟨h1,h2⟩:=Mzi hp.2
  exact⟨by rw[wzw,h1];simp[hp.1],h2⟩
theorem Pz7 {X:Cx}{F:Cells}{w:World}{ρ:Env}{a:Act}{s:St}{i h:Nat}{x y:Res}{p:Prop}(hc:openU s.mem i h s.nx=some (x,y,p))(hp:p)(hs:Sat X F w ρ s a)(ho:s.ok=true)(h0:X.n0≤s.nx):
 ∃ρ',Sat X F w ρ' {s with mem:=(i,x)::(s.nx,y)::s.mem,nx:=s.nx+64} a/\({s with mem:=(i,x)::(s.nx,y)::s.mem,nx:=s.nx+64}:St).ok=true:=by
 unfold openU at hc
 split at hc
 ·rename_i sz n f k e off s' e' hs0 hi
  split at hc
  ·rename_i s'' n' g hcell
   split at hc
   ·rename_i e1
    subst e1
    cases hc
    obtain⟨h1,h2⟩:=Mzi hp
    have ho':=ho
    simp only[St.ok,Bool.and_eq_true]at ho'
    have hnew:s.mem.get s.nx=none:=by
     cases hg:s.mem.get s.nx with
     |none=>rfl
     |some r=>have:=(ezv ho'.1.2 hg).1;omega
    obtain⟨z,hm⟩:=hs.mem.openU hi hcell h2 h1 hnew (fun q r hq=>nzg (Nat.le_refl _) (ezv ho'.1.2 hq).2)
    have hne:∀q,q≠s.nx->(ρ.setVec s.nx z).blk q=ρ.blk q/\(ρ.setVec s.nx z).vec q=ρ.vec q:=fun q hq=>⟨rfl,by simp[Env.setVec,hq]⟩
    refine⟨ρ.setVec s.nx z,⟨hs.size,fun t=>?_,hm,?_,hs.good,hs.from0,fun q hq=>?_⟩,?_⟩
    ·refine(hs.fr t).mono (fun q=>q≠s.nx) (fun _ _ h=>h) (fun _ _ _=>rfl) hne (fun q hq=>?_)
     have:q=s.nx:=Classical.byContradiction fun h=>hq h
     subst this
     exact xzu (Nat.le_refl _) (tzy ho'.1.1 t)
    ·refine pzk (fun q=>q≠s.nx) (fun _ _ h=>h) (fun _ _ _=>rfl) hne hs.df (fun q hq=>?_)
     have:q=s.nx:=Classical.byContradiction fun h=>hq h
     subst this
     exact ozb (Nat.le_refl _) ho'.2
    ·obtain⟨q1,q2⟩:=hs.env0 q hq
     have:q≠s.nx:=by omega
     exact⟨q1,by rw[(hne q this).2];exact q2⟩
    ·simp only[St.ok,Bool.and_eq_true,fz6,decide_eq_true_eq]
     have hl:Res.lt s.nx (.vecU sz n f k e off s'' e' hs0)=true:=(ezv ho'.1.2 hi).2
     refine⟨⟨Bze (by omega) ho'.1.1,⟨by have:=(ezv ho'.1.2 hi).1;omega,?_⟩,⟨by omega,rfl⟩,wzq (by omega) ho'.1.2⟩,mz6 (by omega) ho'.2⟩
     simp only[Res.lt,List.all_append,Bool.and_eq_true,List.all_cons,List.all_nil,Bool.and_true,decide_eq_true_eq]at hl⊢
     refine⟨?_,by omega⟩
     rw[List.all_eq_true]at hl⊢
     intro x hx
     have:=hl x hx
     simp only[decide_eq_true_eq]at this⊢
     omega
   ·cases hc
  ·cases hc
 ·cases hc
theorem Nzx {X:Cx}{N:Nat}{R:Type}{r:R}{w:World}{F:Cells}{ρ:Env}{a:Act}{K:T R->St->Ob}{i:Nat}{c:Conv}{t:T R}{s:St}(h:(cnvU i c s t K).holds)(hr:t.run N=some r)(hs:Sat X F w ρ s a)(ho:s.ok=true)(h0:X.n0≤s.nx):
 ∃t' s',(K t' s').holds/\t'.run N=some r/\Sat X F w ρ s' a/\s'.ok=true/\X.n0≤s'.nx:=by
 unfold cnvU at h
 split at h
 ·rename_i x hi
  have fin:∀r',Res.lt s.nx r'=true->RSub x r'->Sat X F w ρ {s with mem:=(i,r')::s.mem} a/\({s with mem:=(i,r')::s.mem}:St).ok=true:=by
   intro r' hl hr
   have hm:=hs.mem
   have hget:∀j q,Mem.get ((i,r')::s.mem) j=some q->∃q0,Mem.get s.mem j=some q0/\RSub q0 q:=by
    intro j q hq
    rw[Mem.get]at hq
    split at hq
    ·rename_i e1;cases hq;subst e1;exact⟨_,hi,hr⟩
    ·exact⟨q,hq,RSub.refl q⟩
   refine⟨⟨hs.size,hs.fr,⟨fun j q hq=>?_,fun j q b hq hb=>?_,fun j j' q q' b hq hq' hb hb'=>?_⟩,hs.df,hs.good,hs.from0,hs.env0⟩,?_⟩
   ·obtain⟨q0,q1,q2⟩:=hget j q hq;exact(q2.rel _ _ _ _ (hm.ok _ _ q1)).1
   ·obtain⟨q0,q1,q2⟩:=hget j q hq;exact hm.mine _ _ _ q1 ((q2.rel _ _ _ _ (hm.ok _ _ q1)).2 b hb)
   ·obtain⟨q0,q1,q2⟩:=hget j q hq
    obtain⟨q3,q4,q5⟩:=hget j' q' hq'
    exact hm.disj _ _ _ _ b q1 q4 ((q2.rel _ _ _ _ (hm.ok _ _ q1)).2 b hb) ((q5.rel _ _ _ _ (hm.ok _ _ q4)).2 b hb')
   ·simp only[St.ok,Bool.and_eq_true]at ho⊢
    simp only[fz6,Bool.and_eq_true,decide_eq_true_eq]
    exact⟨⟨ho.1.1,⟨hzp ho.1.2 hi,hl⟩,ho.1.2⟩,ho.2⟩
  split at h
  ·rename_i r0 r' hh
   split at h
   ·rename_i hl
    obtain⟨h3,h4⟩:=h
    have h3:x=r0:=h3
    subst h3
    obtain⟨q1,q2⟩:=fin r' hl (hh trivial)
    exact⟨t,_,h4,hr,q1,q2,h0⟩
   ·exact h.elim
  ·rename_i pp r0 r' hh
   split at h
   ·rename_i hl
    obtain⟨h3,h4⟩:=h
    have h3:x=r0:=h3
    subst h3
    obtain⟨t2,hp,hK,hr2⟩:=Lz8 h4 hr
    obtain⟨q1,q2⟩:=fin r' hl (hh hp)
    exact⟨t2,_,hK,hr2,q1,q2,h0⟩
   ·exact h.elim
  ·exact h.elim
 ·exact h.elim
theorem Mzj {X:Cx}{N:Nat}{R:Type}{r:R}{w:World}{F:Cells}{a:Act}{K:T R->St->Ob}{t:T R}{s:St}{ρ:Env}(h:(Rzk t s K).holds)(hr:t.run N=some r)(hs:Sat X F w ρ s a)(ho:s.ok=true)(h0:X.n0≤s.nx):
 ∃t' ρ' s',(K t' s').holds/\t'.run N=some r/\Sat X F w ρ' s' a/\s'.ok=true/\X.n0≤s'.nx:=by
 unfold Rzk at h
 split at h
 ·rename_i i h' c t'
  split at h
  ·rename_i x y p hc
   obtain⟨t2,hp,hK,hr2⟩:=Lz8 h (by simpa[T.run]using hr)
   obtain⟨ρ',hs',ho'⟩:=Pz7 hc hp hs ho h0
   exact⟨t2,ρ',_,hK,hr2,hs',ho',by show X.n0≤s.nx+64;omega⟩
  ·exact h.elim
 ·obtain⟨t2,s2,q⟩:=Nzx h (by simpa[T.run]using hr) hs ho h0
  exact⟨t2,ρ,s2,q⟩
 ·exact⟨t,ρ,s,h,hr,hs,ho,h0⟩
theorem Tzy {X:Cx}{N:Nat}{R:Type}{r:R}{w:World}{F:Cells}{a:Act}{K:T R->St->Ob}{t:T R}{s:St}{ρ:Env}(h:(opnO t s K).holds)(hr:t.run N=some r)(hs:Sat X F w ρ s a)(ho:s.ok=true)(h0:X.n0≤s.nx):
 ∃t' ρ' s',(K t' s').holds/\t'.run N=some r/\Sat X F w ρ' s' a/\s'.ok=true/\X.n0≤s'.nx:=by
 obtain⟨t1,ρ1,s1,h1,r1,q1,q2,q3⟩:=Mzj h hr hs ho h0
 exact Mzj h1 r1 q1 q2 q3
theorem Fzi {X:Cx}{F:Cells}{w:World}{ρ:Env}{a:Act}{s:St}{i kk p q:Nat}{b:Bool}{x r':Res}(hc:closeU s.mem i b=some (x,kk,p,q))(hpq:p=q)(hl:Res.lt s.nx r'=true)(hr:RSub x r')(hs:Sat X F w ρ s a)(ho:s.ok=true):
 Sat X F w ρ {s with mem:=(i,r')::(kk,.gone)::s.mem} a/\({s with mem:=(i,r')::(kk,.gone)::s.mem}:St).ok=true:=by
 have key:MemOk F w ρ X.Mine ((i,x)::(kk,.gone)::s.mem)/\i<s.nx/\kk<s.nx:=by
  have ho':=ho
  simp only[St.ok,Bool.and_eq_true]at ho'
  unfold closeU at hc
  split at hc
  ·rename_i sz n f k e off s' e' h kk' hs0 hi
   split at hc
   ·rename_i s'' n' g e'' hk
    split at hc
    ·rename_i hc1
     simp only[Bool.and_eq_true,decide_eq_true_eq]at hc1
     obtain⟨rfl,rfl⟩:=hc1
     split at hc
     ·cases hc
      exact⟨hs.mem.closeU hi hk (.inr ⟨hpq,rfl⟩),hzp ho'.1.2 hi,hzp ho'.1.2 hk⟩
     ·cases hc
      exact⟨hs.mem.closeU hi hk (.inl ⟨hpq,rfl⟩),hzp ho'.1.2 hi,hzp ho'.1.2 hk⟩
    ·cases hc
   ·cases hc
  ·cases hc
 obtain⟨hm,hi,hk⟩:=key
 have hget:∀j q,Mem.get ((i,r')::(kk,.gone)::s.mem) j=some q->∃q0,Mem.get ((i,x)::(kk,.gone)::s.mem) j=some q0/\RSub q0 q:=by
  intro j q hq
  rw[Mem.get]at hq⊢
  split at hq
  ·rename_i e1;cases hq;rw[if_pos e1];exact⟨_,rfl,hr⟩
  ·rename_i e1;rw[if_neg e1];exact⟨q,hq,RSub.refl q⟩
 refine⟨⟨hs.size,hs.fr,⟨fun j q hq=>?_,fun j q b hq hb=>?_,fun j j' q q' b hq hq' hb hb'=>?_⟩,hs.df,hs.good,hs.from0,hs.env0⟩,?_⟩
 ·obtain⟨q0,q1,q2⟩:=hget j q hq;exact(q2.rel _ _ _ _ (hm.ok _ _ q1)).1
 ·obtain⟨q0,q1,q2⟩:=hget j q hq;exact hm.mine _ _ _ q1 ((q2.rel _ _ _ _ (hm.ok _ _ q1)).2 b hb)
 ·obtain⟨q0,q1,q2⟩:=hget j q hq
  obtain⟨q3,q4,q5⟩:=hget j' q' hq'
  exact hm.disj _ _ _ _ b q1 q4 ((q2.rel _ _ _ _ (hm.ok _ _ q1)).2 b hb) ((q5.rel _ _ _ _ (hm.ok _ _ q4)).2 b hb')
 ·simp only[St.ok,Bool.and_eq_true]at ho⊢
  simp only[fz6,Bool.and_eq_true,decide_eq_true_eq]
  exact⟨⟨ho.1.1,⟨hi,hl⟩,⟨hk,rfl⟩,ho.1.2⟩,ho.2⟩
theorem Nzw {m:Mem}{i kk p q b:Nat}{g:Bool}{x:Res}(hc:closeU m i g=some (x,kk,p,q))(hm:fz6 b m=true):Res.lt b x=true:=by
 unfold closeU at hc
 split at hc
 ·rename_i sz n f k e off s' e' h kk' hs0 hi
  have hl:=Bzv hm hi
  simp only[Res.lt,List.all_cons,Bool.and_eq_true]at hl
  split at hc
  ·split at hc
   ·split at hc<;>cases hc<;>exact hl.2
   ·cases hc
  ·cases hc
 ·cases hc
theorem Tz7 {X:Cx}{N:Nat}{R:Type}{r:R}{w:World}{ρ:Env}{a:Act}{K:T R->St->Ob}{q i:Nat}{c:Conv}{t:T R}{s:St}{F:Cells}(h:(cloU q i c s t K).holds)(hr:t.run N=some r)(hs:Sat X F w ρ s a)(ho:s.ok=true)(h0:X.n0≤s.nx):
 ∃t' s',(K t' s').holds/\t'.run N=some r/\Sat X F w ρ s' a/\s'.ok=true/\X.n0≤s'.nx:=by
 unfold cloU at h
 split at h
 ·rename_i x kk p p' hc
  have fin:∀t:T R,t.run N=some r->p=p'->(cloK i kk x c s t K).holds->∃t' s',(K t' s').holds/\t'.run N=some r/\Sat X F w ρ s' a/\s'.ok=true/\X.n0≤s'.nx:=by
   intro t hr h1 h2
   unfold cloK at h2
   split at h2
   ·have ho':=ho
    simp only[St.ok,Bool.and_eq_true]at ho'
    obtain⟨q1,q2⟩:=Fzi hc h1 (Nzw hc ho'.1.2) (RSub.refl x) hs ho
    exact⟨t,_,h2,hr,q1,q2,h0⟩
   ·rename_i r0 r' hh
    split at h2
    ·rename_i hl
     obtain⟨h3,h4⟩:=h2
     have h3:x=r0:=h3
     subst h3
     obtain⟨q1,q2⟩:=Fzi hc h1 hl (hh trivial) hs ho
     exact⟨t,_,h4,hr,q1,q2,h0⟩
    ·exact h2.elim
   ·exact h2.elim
  split at h
  ·obtain⟨t2,hp,hK,hr2⟩:=Lz8 h hr
   exact fin t2 hr2 hp hK
  ·exact fin t hr h.1 h.2
 ·exact h.elim
theorem Lz6 {X:Cx}{N:Nat}{R:Type}{r:R}{w:World}{ρ:Env}{a:Act}{K:T R->St->Ob}{t:T R}{s:St}{F:Cells}(h:(finU t s K).holds)(hr:t.run N=some r)(hs:Sat X F w ρ s a)(ho:s.ok=true)(h0:X.n0≤s.nx):
 ∃t' s',(K t' s').holds/\t'.run N=some r/\Sat X F w ρ s' a/\s'.ok=true/\X.n0≤s'.nx:=by
 unfold finU at h
 split at h
 ·exact Nzx h (by simpa[T.run]using hr) hs ho h0
 ·exact Tz7 h (by simpa[T.run]using hr) hs ho h0
 ·exact⟨t,s,h,hr,hs,ho,h0⟩
theorem Qz6 {X:Cx}{N:Nat}{R:Type}{r:R}{w:World}{ρ:Env}{a:Act}{K:T R->St->Ob}:∀ (t:T R) {s:St} {F:Cells},(Oz6 t s K).holds->t.run N=some r->Sat X F w ρ s a->s.ok=true->X.n0≤s.nx->
 ∃t' F' s',(K t' s').holds/\t'.run N=some r/\Sat X F' w ρ s' a/\s'.ok=true/\X.n0≤s'.nx:=by
 intro t
 induction t with
 |clo i c k ih=>
  intro s F h hr hs ho h0
  simp only[Oz6]at h
  split at h
  ·split at h
   ·rename_i x kk y hc
    obtain⟨F',hs',ho'⟩:=Nz0 hc hs ho
    exact ih h (by simpa[T.run]using hr) hs' ho' h0
   ·exact h.elim
  ·rename_i pre q q' hh
   split at h
   ·rename_i x kk y hc
    split at h
    ·rename_i hv
     obtain⟨h1,h2,h3⟩:=h
     have h1:x=q:=h1
     subst h1
     obtain⟨F',hs',ho'⟩:=Nz1 hc hv (hh (Hzi h2 trivial)) hs ho
     exact ih h3 (by simpa[T.run]using hr) hs' ho' h0
    ·exact h.elim
   ·exact h.elim
  ·exact h.elim
 |_=>intro s F h hr hs ho h0;exact⟨_,F,s,h,hr,hs,ho,h0⟩
theorem Gzr {X:Cx}{N:Nat}{R:Type}{r:R}{w:World}{ρ:Env}{a:Act}{K:T R->St->Ob}(t:T R){s:St}{F:Cells}(h:(finO t s K).holds)(hr:t.run N=some r)(hs:Sat X F w ρ s a)(ho:s.ok=true)(h0:X.n0≤s.nx):
 ∃t' F' s',(K t' s').holds/\t'.run N=some r/\Sat X F' w ρ s' a/\s'.ok=true/\X.n0≤s'.nx:=by
 obtain⟨t1,s1,h1,r1,q1,q2,q3⟩:=Lz6 h hr hs ho h0
 obtain⟨t2,s2,h2,r2,q4,q5,q6⟩:=Lz6 h1 r1 q1 q2 q3
 obtain⟨t3,s3,h3,r3,q7,q8,q9⟩:=Lz6 h2 r2 q4 q5 q6
 exact Qz6 t3 h3 r3 q7 q8 q9
theorem jz5 {N:Nat}{R:Type}{t:T R}{s s':St}{r r':R}(h:finT t s=some (r',s'))(hr:t.run N=some r):r'=r:=by
 unfold finT at h
 split at h
 ·cases h;simpa[T.run]using hr
 ·cases h;simpa[T.run]using hr
 ·cases h
theorem jz6 {R:Type}{t:T R}{s s':St}{r:R}(h:finT t s=some (r,s')){X:Cx}{F:Cells}{w:World}{ρ:Env}{a:Act}(hs:Sat X F w ρ s a)(ho:s.ok=true)(h0:X.n0≤s.nx):
 Sat X F w ρ s' a/\s'.ok=true/\X.n0≤s'.nx:=by
 unfold finT at h
 split at h
 ·cases h;exact⟨hs,ho,h0⟩
 ·cases h;exact⟨St.weak_sat hs,St.weak_ok ho,h0⟩
 ·cases h
theorem Dzd {P:Program}{nt:Nat}{ops:List Oper}{hint hint':Nat->Option Hint}{K:St->List Eff->Prop}:
 ∀ (rest:List Oper) (i id:Nat) (s:St) (tr:List Eff),(∀j,i≤j->hint j=hint' j)->hz4 P nt ops hint i rest id s tr K->hz4 P nt ops hint' i rest id s tr K
 |[],i,id,s,tr,_,h=>h
 |o::rest,i,id,s,tr,he,h=>by
  have hstep:∀s,ezl P hint' i o id s=ezl P hint i o id s:=fun s=>by
   unfold ezl hz2;rw[he i (Nat.le_refl i)]
  have ih:=fun s tr=>Dzd (P:=P) (nt:=nt) (ops:=ops) (K:=K) rest (i+1) (id+64) s tr (fun j hj=>he j (by omega))
  have run:∀ (s:St),(match ezl P hint i o id s with
   |some (out,_)=>if jzb nt o.dst&&tz4 id out then andO out.obl (hz4 P nt ops hint (i+1) rest (id+64) (fzo s o out) (tr++[rzi ops o id out]) K)else False
   |none=>False)->(match ezl P hint' i o id s with
   |some (out,_)=>if jzb nt o.dst&&tz4 id out then andO out.obl (hz4 P nt ops hint' (i+1) rest (id+64) (fzo s o out) (tr++[rzi ops o id out]) K)else False
   |none=>False):=by
   intro s h
   rw[hstep]
   split at h
   ·split at h
    ·rename_i hc;simp only[hc,if_true];rw[andO_iff]at h⊢;exact⟨h.1,ih _ _ h.2⟩
    ·exact h.elim
   ·exact h.elim
  have skip:∀ (s:St),(if jzb nt o.dst then hz4 P nt ops hint (i+1) rest (id+64) (s.putD o.dst (.tup [])) (tr++[⟨o.dst,nzm ops o,id,.tup [],[],[]⟩]) K else False)->
   (if jzb nt o.dst then hz4 P nt ops hint' (i+1) rest (id+64) (s.putD o.dst (.tup [])) (tr++[⟨o.dst,nzm ops o,id,.tup [],[],[]⟩]) K else False):=by
   intro s h
   split at h
   ·rename_i hc;simp only[hc,if_true];exact ih _ _ h
   ·exact h.elim
  simp only[hz4]at h⊢
  split at h
  ·exact run s h
  ·exact skip s h
  ·exact h.elim
  ·rename_i t b want _
   refine⟨fun hb=>?_,fun hb=>?_⟩
   ·have:=h.1 hb
    cases want
    ·exact skip _ this
    ·exact run _ this
   ·have:=h.2 hb
    cases want
    ·exact run _ this
    ·exact skip _ this
theorem jzr {P:Program}{h:Hint}(hc:h.cv=.none){i:Nat}{o:Oper}{id:Nat}{s:St}:ezl P (fun _=>some h) i o id s=hz2 P (fun _=>some h) i o id s:=by
 unfold ezl
 simp only[cvOf,hc,szo]
 split
 ·rename_i out b e;rw[e];rfl
 ·rename_i e;rw[e]
def Pzy (P:Program)(nt:Nat)(ops:List Oper){R:Type}(N:Nat)(r:R)(i:Nat)(rest:List Oper)(id:Nat)(s:St)(tr:List Eff)(K:St->List Eff->T R->Ob):Prop:=
 ∃hint t',T.run N t'=some r/\hz4 P nt ops hint i rest id s tr (fun s tr=>(K s tr t').holds)
section
variable {P:Program} {nt rid:Nat} {ops:List Oper} {R:Type} {N:Nat} {r:R} {K:St->List Eff->T R->Ob} {rest:List Oper} {i:Nat} {o:Oper} {id:Nat} {tr:List Eff} {K':St->List Eff->T R->Ob}
def Kzj (P:Program)(nt:Nat)(ops:List Oper){R:Type}(N:Nat)(r:R)(K:St->List Eff->T R->Ob)(rest:List Oper)(i:Nat)(o:Oper)(id:Nat)(tr:List Eff)(s:St):Prop:=
 ∃hint t',T.run N t'=some r/\(match ezl P hint i o id s with
  |some (out,_)=>if jzb nt o.dst&&tz4 id out then andO out.obl (hz4 P nt ops hint (i+1) rest (id+64) (fzo s o out) (tr++[rzi ops o id out]) (fun s tr=>(K s tr t').holds))else False
  |none=>False)
variable (ih:∀s tr t,(K' s tr t).holds->T.run N t=some r->Pzy P nt ops N r (i+1) rest (id+64) s tr K)
include ih
theorem qzc {s:St}{h?:Option Hint}{out out0:Out}{b:Bool}(hs:ezl P (fun _=>h?) i o id s=some (out,b))(ho:holds out.obl)(he:out0={out with obl:=out0.obl}){t:T R}
 (hn:(wzv nt ops o id tr K' s out0 t).holds) (hr:t.run N=some r):Kzj P nt ops N r K rest i o id tr s:=by
 have e1:tz4 id out0=tz4 id out:=by rw[he];rfl
 have e2:fzo s o out0=fzo s o out:=by rw[he];rfl
 have e3:rzi ops o id out0=rzi ops o id out:=by rw[he];rfl
 unfold wzv at hn
 split at hn
 ·rename_i hc
  rw[e1]at hc
  rw[e2,e3]at hn
  obtain⟨hint,t',hr',hv⟩:=ih _ _ _ hn hr
  refine⟨fun j=>if j=i then h? else hint j,t',hr',?_⟩
  have hst:ezl P (fun j=>if j=i then h? else hint j) i o id s=ezl P (fun _=>h?) i o id s:=by
   unfold ezl hz2;simp only[if_true]
  rw[hst,hs]
  simp only[hc,if_true]
  rw[andO_iff]
  exact⟨ho,Dzd _ _ _ _ _ (fun j hj=>by rw[if_neg (by omega)]) hv⟩
 ·exact hn.elim
theorem Mzh {s:St}{h?:Option Hint}{out out0:Out}{b:Bool}(hs:ezl P (fun _=>h?) i o id s=some (out,b))(ho:holds out.obl)(he:out0={out with obl:=out0.obl}):∀ {t:T R},
 (Ezf nt rid ops i o id tr K' s out0 t).holds->t.run N=some r->Kzj P nt ops N r K rest i o id tr s:=by
 intro t
 induction t with
 |name j e k=>
  intro hn hr
  simp only[Ezf]at hn
  split at hn
  ·split at hn
   ·rename_i kk e' hv
    obtain⟨h1,hz⟩:=hn
    have h1:e'=e:=h1
    have:=hz e
    simp only at this
    have ho':({out0 with val:=.pure (.int kk e)}:Out)=out0:=by rw[←h1,←hv]
    rw[ho']at this
    exact qzc ih hs ho he this (by simpa[T.run]using hr)
   ·exact hn.elim
  ·exact qzc ih hs ho he hn hr
 |lit j e k=>
  intro hn hr
  simp only[Ezf]at hn
  split at hn
  ·split at hn
   ·rename_i kk e' hv
    obtain⟨h1,hz⟩:=hn
    have h1:e'=e:=h1
    have ho':({out0 with val:=.pure (.int kk e)}:Out)=out0:=by rw[←h1,←hv]
    rw[ho']at hz
    exact qzc ih hs ho he hz (by simpa[T.run]using hr)
   ·exact hn.elim
  ·exact qzc ih hs ho he hn hr
 |cas j e n t f _ ihf=>
  intro hn hr
  simp only[Ezf]at hn
  split at hn
  ·split at hn
   ·rename_i kk e' hv
    obtain⟨h1,h2,h3⟩:=hn
    have h1:e'=e:=h1
    simp only[T.run]at hr
    by_cases en:e=n
    ·have h2:=h2 en
     have ho':({out0 with val:=.pure (.int kk n)}:Out)=out0:=by rw[←en,←h1,←hv]
     rw[ho']at h2
     exact qzc ih hs ho he h2 (by simpa[en]using hr)
    ·exact ihf ih (h3 en) (by rw[show(e==n)=false by simp[en]]at hr;exact hr)
   ·exact hn.elim
  ·exact qzc ih hs ho he hn hr
 |stop=>intro _ hr;simp[T.run]at hr
 |_=>intro hn hr;exact qzc ih hs ho he hn hr
theorem Nze {s:St}{t:T R}(h:(Lzp P nt rid ops i o id tr K' s t).holds)(hr:t.run N=some r):Kzj P nt ops N r K rest i o id tr s:=by
 unfold Lzp at h
 split at h
 ·rename_i α c σ k
  split at h
  ·rename_i f as hc
   obtain⟨h1,h2⟩:=h
   simp only[T.run]at hr
   obtain⟨y,hy,hr⟩:=Option.bind_eq_some_iff.1 hr
   have h2:=h2 y hy
   split at h2
   ·rename_i out b hs
    exact Mzh ih ((jzr rfl).trans hs) (Qz1 P hc hy h1 hs) rfl h2 hr
   ·exact h2.elim
  ·exact h.elim
 ·exact h.elim
theorem Nzf {s:St}{t:T R}(h:(Lzq P nt ops i o id tr K' s t).holds)(hr:t.run N=some r):Kzj P nt ops N r K rest i o id tr s:=by
 unfold Lzq at h
 split at h
 ·rename_i p d t1 t2
  simp only[T.run]at hr
  by_cases hp:p
  ·have h:=h.1 hp
   rw[decide_eq_true hp]at hr
   split at h
   ·rename_i out b hs
    split at h
    ·rename_i q hq
     obtain⟨h1,h2⟩:=h
     have h1:q=p:=h1
     exact qzc ih ((jzr rfl).trans hs) (by rw[hq];show q;rw[h1];exact hp) rfl h2 hr
    ·rename_i hq;exact qzc ih ((jzr rfl).trans hs) (by rw[hq];trivial) rfl h hr
   ·exact h.elim
  ·have h:=h.2 hp
   rw[decide_eq_false hp]at hr
   split at h
   ·rename_i out b hs
    split at h
    ·rename_i q hq
     obtain⟨h1,h2⟩:=h
     have h1:q=¬p:=h1
     exact qzc ih ((jzr rfl).trans hs) (by rw[hq];show q;rw[h1];exact hp) rfl h2 hr
    ·rename_i hq;exact qzc ih ((jzr rfl).trans hs) (by rw[hq];trivial) rfl h hr
   ·exact h.elim
 ·exact h.elim
theorem Rzr {s:St}{m:Nat}{c:Conv}{t:T R}(h:(Uz1 P nt rid ops i o id tr K' s m c t).holds)(hr:t.run N=some r):Kzj P nt ops N r K rest i o id tr s:=by
 unfold Uz1 at h
 split at h
 ·rename_i out b hs
  split at h
  ·rename_i out1 hc
   obtain⟨h1,h2⟩:=h
   have fin:holds out.obl->holds (Lzj c)->∀t:T R,(Ezf nt rid ops i o id tr K' s out1 t).holds->t.run N=some r->Kzj P nt ops N r K rest i o id tr s:=by
    intro ho hp t hn hr
    have hst:ezl P (fun _=>some (opH m c)) i o id s=some ({out1 with obl:=Gza c out},b):=by
     unfold ezl;rw[hs];simp only[cvOf,opH,hc]
    refine Mzh ih hst ?_ rfl hn hr
    have:=Tz9 h1 hp
    cases c with
    |none=>exact ho
    |val pre p q hh=>exact andO_iff.2 ⟨ho,this⟩
    |res pre p q hh=>exact andO_iff.2 ⟨ho,this⟩
   split at h2
   ·rename_i hq;exact fin (by rw[hq];trivial) (Hzi h2.1 trivial) _ h2.2 hr
   ·rename_i q hq
    split at h2
    ·rename_i p d k
     simp only[T.run]at hr
     obtain⟨hp,hr⟩:=grd_some.1 hr
     obtain⟨h3,h4,h5⟩:=h2 hp
     have h3:q=p:=h3
     exact fin (by rw[hq];show q;rw[h3];exact hp) (Hzi h4 hp) _ h5 hr
    ·rename_i p hp k
     simp only[T.run]at hr
     obtain⟨h3,h4,h5⟩:=h2
     have h3:q=p:=h3
     exact fin (by rw[hq];show q;rw[h3];exact hp) (Hzi h4 hp) _ h5 hr
    ·exact h2.elim
  ·exact h.elim
 ·exact h.elim
theorem Czj {s:St}{t:T R}(h:(runO P nt rid ops i o id tr K' s t).holds)(hr:t.run N=some r):Kzj P nt ops N r K rest i o id tr s:=by
 unfold runO at h
 split at h
 ·exact Nze ih h hr
 ·split at h
  ·exact Nzf ih h hr
  ·exact Rzr ih h (by rw[Tzd,Uzh];exact hr)
theorem vzg {s:St}{t:T R}(h:(Lzx nt ops o id tr K' s t).holds)(hr:t.run N=some r):
 ∃hint t',T.run N t'=some r/\(if jzb nt o.dst then hz4 P nt ops hint (i+1) rest (id+64) (s.putD o.dst (.tup [])) (tr++[⟨o.dst,nzm ops o,id,.tup [],[],[]⟩]) (fun s tr=>(K s tr t').holds)else False):=by
 unfold Lzx at h
 split at h
 ·rename_i hc
  obtain⟨hint,t',hr',hv⟩:=ih _ _ t h hr
  exact⟨hint,t',hr',by simp only[hc,if_true];exact hv⟩
 ·exact h.elim
theorem Vz8 {s:St}{t:T R}(h:(opO P nt rid ops i o id tr K' s t).holds)(hr:t.run N=some r):Pzy P nt ops N r i (o::rest) id s tr K:=by
 unfold Pzy
 simp only[hz4]
 unfold opO at h
 generalize czn ops s o=g at h⊢
 cases g with
 |run=>exact Czj ih h hr
 |skip=>exact vzg ih h hr
 |bad=>exact h.elim
 |ask q b want=>
  simp only at h⊢
  split at h
  ·rename_i b' t1 t2
   obtain⟨h0,h1,h2⟩:=h
   have h0:b=b':=h0
   subst h0
   simp only[T.run]at hr
   cases b with
   |true=>
    have h1:=h1 rfl
    cases want with
    |true=>
     obtain⟨hint,t',hr',hv⟩:=Czj ih h1 hr
     exact⟨hint,t',hr',fun _=>hv,fun h=>Bool.noConfusion h⟩
    |false=>
     obtain⟨hint,t',hr',hv⟩:=vzg ih h1 hr
     exact⟨hint,t',hr',fun _=>hv,fun h=>Bool.noConfusion h⟩
   |false=>
    have h2:=h2 rfl
    cases want with
    |true=>
     obtain⟨hint,t',hr',hv⟩:=vzg ih h2 hr
     exact⟨hint,t',hr',fun h=>Bool.noConfusion h,fun _=>hv⟩
    |false=>
     obtain⟨hint,t',hr',hv⟩:=Czj ih h2 hr
     exact⟨hint,t',hr',fun h=>Bool.noConfusion h,fun _=>hv⟩
  ·rename_i t1
   obtain⟨h0,h1⟩:=h
   have h0:b=true:=h0
   subst h0
   simp only[T.run]at hr
   cases want with
   |true=>
    obtain⟨hint,t',hr',hv⟩:=Czj ih h1 hr
    exact⟨hint,t',hr',fun _=>hv,fun h=>Bool.noConfusion h⟩
   |false=>
    obtain⟨hint,t',hr',hv⟩:=vzg ih h1 hr
    exact⟨hint,t',hr',fun _=>hv,fun h=>Bool.noConfusion h⟩
  ·rename_i t1
   obtain⟨h0,h1⟩:=h
   have h0:b=false:=h0
   subst h0
   simp only[T.run]at hr
   cases want with
   |true=>
    obtain⟨hint,t',hr',hv⟩:=vzg ih h1 hr
    exact⟨hint,t',hr',fun h=>Bool.noConfusion h,fun _=>hv⟩
   |false=>
    obtain⟨hint,t',hr',hv⟩:=Czj ih h1 hr
    exact⟨hint,t',hr',fun h=>Bool.noConfusion h,fun _=>hv⟩
  ·exact h.elim
end
theorem Dzc {P:Program}{nt rid:Nat}{ops:List Oper}{R:Type}{N:Nat}{r:R}{K:St->List Eff->T R->Ob}:
 ∀ (rest:List Oper) (i id:Nat) (s:St) (tr:List Eff) (t:T R),(Kze P nt rid ops i rest id s tr t K).holds->t.run N=some r->Pzy P nt ops N r i rest id s tr K
 |[],i,id,s,tr,t,h,hr=>⟨fun _=>none,t,hr,h⟩
 |o::rest,i,id,s,tr,t,h,hr=>by
  simp only[Kze]at h
  obtain⟨t,h,hr⟩:=Fzx t h hr
  exact Vz8 (fun s tr t=>Dzc rest (i+1) (id+64) s tr t) h hr
end Go.Abs
