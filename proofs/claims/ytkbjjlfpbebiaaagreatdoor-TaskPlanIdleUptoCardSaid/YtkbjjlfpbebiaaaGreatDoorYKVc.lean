/-
  Vc (a part of a claim: our own text).
-/
import Derived.Test.YtkbjjlfpbebiaaaGreatDoorYKSoundK
namespace Go.Abs
structure St where
 fr:List (Nat×AVal)
 mem:Mem
 df:List AVal
 nx:Nat
def lz8:List (Nat×AVal)->Nat->AVal
 |[],_=>.any
 |(i,a)::l,t=>if i=t then a else lz8 l t
def St.get (s:St)(t:Nat):AVal:=lz8 s.fr t
def St.put (s:St)(t:Nat)(a:AVal):St:={s with fr:=(t,a)::s.fr}
def St.putD (s:St)(d:Option Nat)(a:AVal):St:=
 match d with
 |some t=>s.put t a
 |none=>s
def bzx (s:St):Operand->AVal
 | .tmp t=>s.get t
 | .const v=>Izp v
 | .func f=>.func f [] []
 | .global g=>match gTab g with
   |some (k,l)=>.ref (.agg (l.map (.int k)))
   |none=>.any
mutual
def AVal.lt (n:Nat):AVal->Bool
 | .agg cs| .tup cs=>AVal.ltL n cs
 | .vec i| .ptr i _| .eptr i _ _ _| .map i| .bsl i _| .view i _ _ _=>decide (i<n)
 | .iface _ a=>AVal.lt n a
 | .func _ a b=>AVal.ltL n a&&AVal.ltL n b
 | .any| .pure _| .tt| .ff| .ref _| .anyb| .yld _| .clip _| .nilp=>true
def AVal.ltL (n:Nat):List AVal->Bool
 |[]=>true
 |a::l=>AVal.lt n a&&AVal.ltL n l
end
def Res.lt (n:Nat):Res->Bool
 | .box cs=>AVal.ltL n cs
 | .vecX _ _ _ _ _ _ i=>decide (i<n)
 | .vecU _ _ _ _ _ _ _ _ hs=>hs.all fun x=>decide (x.2<n)
 |_=>true
def fz6 (n:Nat):Mem->Bool
 |[]=>true
 |(i,r)::m=>decide (i<n)&&Res.lt n r&&fz6 n m
def frLt (n:Nat):List (Nat×AVal)->Bool
 |[]=>true
 |(_,a)::l=>AVal.lt n a&&frLt n l
def St.ok (s:St):Bool:=frLt s.nx s.fr&&fz6 s.nx s.mem&&AVal.ltL s.nx s.df
def szb (σ:List (Nat×Nat))(i:Nat):Option Nat:=
 match σ with
 |[]=>none
 |(a,b)::r=>if a=i then some b else szb r i
def dza (σ:List (Nat×Nat))(k id:Nat)(j:Nat):Nat:=
 if k≤j/\j<k+64 then id+(j-k)else match szb σ j with
  |some b=>b
  |none=>id+64+j
mutual
def AVal.ren (σ:Nat->Nat):AVal->AVal
 | .agg cs=>.agg (AVal.renL σ cs)
 | .tup cs=>.tup (AVal.renL σ cs)
 | .vec i=>.vec (σ i)
 | .ptr i o=>.ptr (σ i) o
 | .eptr i a b c=>.eptr (σ i) a b c
 | .map i=>.map (σ i)
 | .bsl i n=>.bsl (σ i) n
 | .view i a b c=>.view (σ i) a b c
 | .iface t a=>.iface t (AVal.ren σ a)
 | .func f a b=>.func f (AVal.renL σ a) (AVal.renL σ b)
 | .any=>.any
 | .pure p=>.pure p
 | .tt=>.tt
 | .ff=>.ff
 | .ref p=>.ref p
 | .anyb=>.anyb
 | .nilp=>.nilp
 | .clip p=>.clip p
 | .yld l=>.yld l
def AVal.renL (σ:Nat->Nat):List AVal->List AVal
 |[]=>[]
 |a::l=>AVal.ren σ a::AVal.renL σ l
end
def Res.ren (σ:Nat->Nat):Res->Res
 | .box cs=>.box (AVal.renL σ cs)
 | .vecX a b c d e f i=>.vecX a b c d e f (σ i)
 | .vecU sz n f k e off s' e' hs=>.vecU sz n f k e off s' e' (hs.map fun x=>(x.1,σ x.2))
 |r=>r
def Mem.ren (σ:Nat->Nat):Mem->Mem
 |[]=>[]
 |(i,r)::m=>(σ i,Res.ren σ r)::Mem.ren σ m
def Fzz (P:Program)(f:FuncId):Prop:=
 ∃fn,P.funcs[f]?=some fn/\(fn.name== "runtime.NumGoroutine")=false/\fn.body.isNone=false
def szi (F:Cells)(w:World)(ρ:Env)(as:List AVal)(vs:Array Value):Prop:=
 as.length=vs.size/\∀ (j:Nat) (a:AVal) (v:Value),as[j]?=some a->vs[j]?=some v->ARel F w ρ a v
structure Spec (P:Program) (f:FuncId) (k:Nat) (args:List AVal) (m:Mem) (res:AVal) (m':Mem):Prop where
 callable:Fzz P f
 calls:∀ (F:Cells) (w:World) (ρ:Env) (Mine:Nat->Prop) (vs:Array Value),MemOk F w ρ Mine m->Good F w Mine->szi F w ρ args vs->
  Calls P f vs w fun e w'=>∃v F' ρ',e=.returned v/\Step Mine F w F' w'/\czm k ρ ρ'/\ARel F' w' ρ' res v/\MemOk F' w' ρ' Mine m'
structure YSpec (P:Program) (l:Nat) (k:Nat) (args:List AVal) (m:Mem) (res:AVal) (m':Mem):Prop where
 calls:∀ (F:Cells) (w:World) (ρ:Env) (Mine:Nat->Prop) (vs:Array Value),MemOk F w ρ Mine m->Good F w Mine->szi F w ρ args vs->
  YieldAt Fence.wide 0 P l vs w fun e w'=>∃v F' ρ',e=.returned v/\Step Mine F w F' w'/\czm k ρ ρ'/\ARel F' w' ρ' res v/\MemOk F' w' ρ' Mine m'
inductive Tgt where
 |fn (f:FuncId)
 |yld (l:Nat)
def Vzr (P:Program):Tgt->Nat->List AVal->Mem->AVal->Mem->Prop
 | .fn f=>Spec P f
 | .yld l=>YSpec P l
structure ASub (a b:AVal):Prop where
 rel:∀ (F:Cells) (w:World) (ρ:Env) (v:Value),ARel F w ρ a v->ARel F w ρ b v
def rzb:List AVal->List AVal->Prop
 |[],[]=>True
 |a::l,b::l'=>ASub a b/\rzb l l'
 |_,_=>False
structure RSub (r r':Res):Prop where
 rel:∀ (F:Cells) (w:World) (ρ:Env) (id:Nat),ResOk F w ρ id r->ResOk F w ρ id r'/\∀b,Owns w ρ id r' b->Owns w ρ id r b
inductive Conv where
 |none
 |val (pre:Option Prop) (p q:PVal) (h:holds pre->PSub p q)
 |res (pre:Option Prop) (r r':Res) (h:holds pre->RSub r r')
structure Hint where
 σ:List (Nat×Nat)
 k:Nat
 args:List AVal
 m:Mem
 res:AVal
 m':Mem
 cv:Conv
def xzv:Option Hint->Bool
 |some h=>h.k==1
 |none=>false
def Tzv:Option Hint->Bool
 |some h=>h.k==2
 |none=>false
def Nza:Option Hint->Nat
 |some h=>h.k
 |none=>0
def cvOf:Option Hint->Conv
 |some h=>h.cv
 |none=>.none
def szo (c:Conv)(out:Out):Option Out:=
 match c with
 | .none=>some out
 | .val _ _ q _=>match out.val with
   | .pure _=>some {out with val:=.pure q}
   | .clip _=>some {out with val:=.clip q}
   |_=>none
 | .res _ _ r' _=>match out.wr with
   |(j,_)::l=>some {out with wr:=(j,r')::l}
   |_=>none
def Azz (c:Conv)(out:Out):Prop:=
 match c with
 | .none=>True
 | .val pre p _ _=>(match out.val with
   | .pure x=>x=p
   | .clip x=>x=p
   |_=>False)/\holds pre
 | .res pre r _ _=>(match out.wr with
   |(_,x)::_=>x=r
   |_=>False)/\holds pre
def Gza (c:Conv)(out:Out):Option Prop:=
 match c with
 | .none=>out.obl
 |c=>some (andO out.obl (Azz c out))
def MSub (m:Mem):Mem->Prop
 |[]=>True
 |(i,r)::l=>(match m.get i with|some r0=>RSub r0 r|none=>False)/\MSub m l
def Vz0:AVal->Bool
 | .vec _=>true
 |_=>false
def Vz4:AVal->Bool
 | .vec _=>true
 | .agg cs=>cs.any Vz0
 |_=>false
def Pzb (m:Mem):AVal->Option (AVal×List Nat)
 | .iface t a=>match kzb m a with
   |some (p,is)=>some (.iface t (.pure p),is)
   |none=>none
 |a=>match kzb m a with
  |some (p,is)=>some (.pure p,is)
  |none=>none
def bzp (m:Mem):List AVal->List AVal->List AVal×List Nat
 |_,[]=>([],[])
 |ex,a::l=>if Vz4 (ex.headD .any)then(a::(bzp m ex.tail l).1,(bzp m ex.tail l).2)else match Pzb m a with
  |some (p,is)=>(p::(bzp m ex.tail l).1,is++(bzp m ex.tail l).2)
  |none=>(a::(bzp m ex.tail l).1,(bzp m ex.tail l).2)
def czg (m:Mem):List AVal->List AVal->List AVal×List Nat
 |_,[]=>([],[])
 |ex,a::l=>match ex.headD .any,a with
  | .view _ sz _ _,.vec id=>match m.get id with
    |some (.vec sz' n _ _ _)=>if sz'=sz then(.view id sz 0 n::(czg m ex.tail l).1,id::(czg m ex.tail l).2)else(a::(czg m ex.tail l).1,(czg m ex.tail l).2)
    |_=>(a::(czg m ex.tail l).1,(czg m ex.tail l).2)
  |_,_=>(a::(czg m ex.tail l).1,(czg m ex.tail l).2)
def Uze:AVal->AVal->Bool
 | .vec i,.vec j=>i==j
 | .ptr i o,.ptr j p=>i==j&&o==p
 |_,_=>false
def Mzt:List AVal->List AVal->Bool
 |[],[]=>true
 |a::l,b::l'=>Uze a b&&Mzt l l'
 |_,_=>false
def gz2 (m mr:Mem):Mem->Mem
 |[]=>[]
 |(i,r)::l=>match r,m.get i with
  | .box cs,some (.box ds)=>if Mzt cs ds&&(mr.any fun x=>x.1==i)&&(l.all fun x=>x.1 !=i)then gz2 m mr l else(i,.box cs)::gz2 m mr l
  |r,_=>(i,r)::gz2 m mr l
structure Eff where
 dst:Option Nat
 uses:List Nat
 id:Nat
 val:AVal
 rd:List Nat
 wr:Mem
inductive Guard where
 |run|skip|bad
 |ask (t:Nat) (b:Bool) (want:Bool)
def czn (ops:List Oper)(s:St)(o:Oper):Guard:=
 match o.guard with
 |none=>.run
 |some (j,want)=>match ops[j]? with
  |some oj=>match oj.dst with
   |some t=>match s.get t with
    | .tt=>if want then .run else .skip
    | .ff=>if want then .skip else .run
    | .pure (.bool b)=>.ask t b want
    | .tup []=>.skip
    |_=>.bad
   |none=>.bad
  |none=>.bad
def Vz9 (o:Op):List Nat:=o.operands.toList.filterMap fun| .tmp t=>some t|_=>none
def Hz1 (ops:List Oper)(o:Oper):List Nat:=
 match o.guard with
 |none=>[]
 |some (j,_)=>match ops[j]? with
  |some oj=>oj.dst.toList
  |none=>[]
def nzm (ops:List Oper)(o:Oper):List Nat:=Vz9 o.op++Hz1 ops o
def jzb (nt:Nat):Option Nat->Bool
 |none=>true
 |some d=>decide (d<nt)
def Cza (h:Hint)(id:Nat):Bool:=
    h.σ.all (fun x=> !(id≤x.2&&decide (x.2<id+64)))&&
    h.σ.all (fun x=>h.σ.all fun y=>x.2 !=y.2||x.1==y.1)&&
    h.m.all (fun x=> !(h.k≤x.1&&decide (x.1<h.k+64))&&h.σ.any fun y=>y.1==x.1)&&
    h.m'.all (fun x=>(h.k≤x.1&&decide (x.1<h.k+64))||h.σ.any fun y=>y.1==x.1)&&
    h.m.all (fun x=>h.m'.any fun y=>y.1==x.1)
section
variable (P:Program) (nt:Nat) (ops:List Oper) (hint:Nat->Option Hint)
def lenV (m:Mem):AVal->Option (Nat×List Nat)
 | .vec j=>match m.get j with
   |some (.vec _ n _ _ _)=>some (n,[j])
   |_=>none
 | .view j _ _ _=>match m.get j with
   |some (.vec _ n _ _ _)=>some (n,[j])
   |_=>none
 |_=>none
def Hze (op:BinOp)(y:Operand):Bool:=
 match op,y with
 | .eql,.const (.slice none 0 0)=>true
 |_,_=>false
def Tzl:Builtin->Bool
 | .append=>true
 |_=>false
def Szr (c:Call)(id:Nat)(env:Operand->AVal)(m:Mem):Option Out:=
 match c.args.toList with
 |[s,x]=>if c.argTypes.size=2 then Bz5 P c.argTypes id s (env s) (env x) m else none
 |_=>none
def hz2 (i:Nat)(o:Oper)(id:Nat)(s:St):Option (Out×Bool):=
 match o.op with
 | .call c=>match c.callee with
   | .builtin b=>if xzv (hint i)&&Tzl b then(Szr P c id (bzx s) s.mem).map (·,false)else(tzr P b c.args.toList c.argTypes id (bzx s) s.mem).map (·,false)
   | .value x=>match bzx s x,hint i with
     | .func f first caps,some h=>
       let lv:=czg s.mem h.args (first++c.args.toList.map (bzx s)++caps)
       let as:=bzp s.mem h.args lv.1
       let τ:=dza h.σ h.k id
       let mr:=Mem.ren τ h.m
       if as.2.all (fun j=>mr.all fun x=>x.1 !=j)&&Cza h id then
        some (⟨AVal.ren τ h.res,mr.map (·.1)++as.2++lv.2,gz2 s.mem mr (Mem.ren τ h.m')++bz6 s.mem as.2,
         some (rzb as.1 (AVal.renL τ h.args)/\MSub s.mem mr/\Spec P f h.k h.args h.m h.res h.m')⟩,true)
       else none
     | .yld l,some h=>
       let lv:=czg s.mem h.args (c.args.toList.map (bzx s))
       let as:=bzp s.mem h.args lv.1
       let τ:=dza h.σ h.k id
       let mr:=Mem.ren τ h.m
       if as.2.all (fun j=>mr.all fun x=>x.1 !=j)&&Cza h id then
        some (⟨AVal.ren τ h.res,mr.map (·.1)++as.2++lv.2,gz2 s.mem mr (Mem.ren τ h.m')++bz6 s.mem as.2,
         some (rzb as.1 (AVal.renL τ h.args)/\MSub s.mem mr/\YSpec P l h.k h.args h.m h.res h.m')⟩,true)
       else none
     |_,_=>none
   | .invoke x name=>match bzx s x,hint i with
     | .iface t a,some h=>match uzb P t name with
       |some f=>
        let lv:=czg s.mem h.args (a::c.args.toList.map (bzx s))
        let as:=bzp s.mem h.args lv.1
        let τ:=dza h.σ h.k id
        let mr:=Mem.ren τ h.m
        if as.2.all (fun j=>mr.all fun x=>x.1 !=j)&&Cza h id then
         some (⟨AVal.ren τ h.res,mr.map (·.1)++as.2++lv.2,gz2 s.mem mr (Mem.ren τ h.m')++bz6 s.mem as.2,
          some (rzb as.1 (AVal.renL τ h.args)/\MSub s.mem mr/\Spec P f h.k h.args h.m h.res h.m')⟩,true)
        else none
       |none=>none
     |_,_=>none
 | .next x true=>match bzx s x,hint i with
   | .ptr j 0,some h=>match s.mem.get j with
     |some (.iter str pos)=>if h.k=1 then
      some (⟨.tup [.tt,.pure (.int .i64 pos),.pure (.int .i32 (Utf8.decode str pos).1)],[j],[(j,.iter str (pos+(Utf8.decode str pos).2))],some (pos<str.size)⟩,false)
      else some (⟨.tup [.ff],[j],[],some (¬pos<str.size)⟩,false)
     |_=>none
   |_,_=>none
 | .binOp op t x y ty=>if Hze op y then(match bzx s x,P.underlying t with
  | .pure (.lst _ n _),some (.slice _)=>(if xzv (hint i)then some (⟨.anyb,[],[],some (n=0)⟩,false)else some (⟨.ff,[],[],some (0<n)⟩,false))
  |a,some (.slice _)=>(match lenV s.mem a with
   |some (n,is)=>(if xzv (hint i)then some (⟨.anyb,is,[],some (n=0)⟩,false)else some (⟨.ff,is,[],some (0<n)⟩,false))
   |none=>none)
  |_,_=>none)else(evOp P (.binOp op t x y ty) id (bzx s) s.mem).map (·,false)
 | .makeSlice t l c=>if xzv (hint i)then(qz1 P t id (bzx s l) (bzx s c)).map (·,false)
   else(nzu P t id (bzx s l) (bzx s c)).map (·,false)
 | .store t a v=>if xzv (hint i)then(szt P t (bzx s a) (bzx s v) s.mem).map (·,false)else if 2≤Nza (hint i)then(Gzq P t (Nza (hint i)-2) (bzx s a) (bzx s v) s.mem).map (·,false)else(evOp P (.store t a v) id (bzx s) s.mem).map (·,false)
 | .load t a=>if 2≤Nza (hint i)then(Lz2 P t (Nza (hint i)-2) (bzx s a) s.mem).map (·,false)else(evOp P (.load t a) id (bzx s) s.mem).map (·,false)
 | .alloc t=>if xzv (hint i)then(Gzd P t id).map (·,false)else if 2≤Nza (hint i)then(Gzc P (Nza (hint i)-2) t id).map (·,false)else(evOp P (.alloc t) id (bzx s) s.mem).map (·,false)
 | .slice t x lo hi mx=>if xzv (hint i)then(tzs P t (bzx s x) (lo.map (bzx s)) (hi.map (bzx s)) (mx.map (bzx s)) s.mem).map (·,false)
   else if Tzv (hint i)then(Gzl P t (bzx s x) (lo.map (bzx s)) (hi.map (bzx s)) (mx.map (bzx s)) s.mem).map (·,false)
   else(evOp P (.slice t x lo hi mx) id (bzx s) s.mem).map (·,false)
 | .buildSlice t n ps=>if xzv (hint i)then(nzt P t n id (bzx s) s.mem ps.toList).map (·,false)else(evOp P (.buildSlice t n ps) id (bzx s) s.mem).map (·,false)
 |op=>(evOp P op id (bzx s) s.mem).map (·,false)
def ezl (i:Nat)(o:Oper)(id:Nat)(s:St):Option (Out×Bool):=
 match hz2 P hint i o id s with
 |some (out,b)=>match szo (cvOf (hint i)) out with
  |some out'=>some ({out' with obl:=Gza (cvOf (hint i)) out},b)
  |none=>none
 |none=>none
def tz4 (id:Nat)(out:Out):Bool:=AVal.lt (id+64) out.val&&fz6 (id+64) out.wr
def fzo (s:St)(o:Oper)(out:Out):St:={(s.putD o.dst out.val)with mem:=out.wr++s.mem}
def rzi (o:Oper)(id:Nat)(out:Out):Eff:=⟨o.dst,nzm ops o,id,out.val,out.rd,out.wr⟩
def hz4:(i:Nat)->List Oper->(id:Nat)->St->List Eff->(St->List Eff->Prop)->Prop
 |_,[],_,s,tr,K=>K s tr
 |i,o::rest,id,s,tr,K=>
  let run:St->Prop:=fun s=>match ezl P hint i o id s with
   |some (out,_)=>if jzb nt o.dst&&tz4 id out then andO out.obl (hz4 (i+1) rest (id+64) (fzo s o out) (tr++[rzi ops o id out]) K)else False
   |none=>False
  let skip:St->Prop:=fun s=>if jzb nt o.dst then hz4 (i+1) rest (id+64) (s.putD o.dst (.tup [])) (tr++[⟨o.dst,nzm ops o,id,.tup [],[],[]⟩]) K else False
  match czn ops s o with
  | .run=>run s
  | .skip=>skip s
  | .bad=>False
  | .ask t b want=>(b=true->if want then run (s.put t .tt)else skip (s.put t .tt))/\(b=false->if want then skip (s.put t .ff)else run (s.put t .ff))
end
theorem andO_iff {o:Option Prop}{p:Prop}:andO o p↔holds o/\p:=by
 cases o<;>simp[andO,holds]
end Go.Abs
