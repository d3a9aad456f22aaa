import Derived.Test.YtagmfmidaochlaaGreatDoorZISoundK
open Bool renaming true->C,false->D
open Option renaming some->A,none->B
open Go renaming Program->qn
namespace Go.Abs
structure St where
 fr:List (Nat×ac)
 mem:Mem
 df:List ac
 nx:Nat
def di:List (Nat×ac)->Nat->ac
 |[],_=>.any
 |(i,a)::l,t=>if i=t then a else di l t
def St.get (s:St)(t:Nat):ac:=di s.fr t
def St.put (s:St)(t:Nat)(a:ac):St:={s with fr:=(t,a)::s.fr}
def St.putD (s:St)(d:Option Nat)(a:ac):St:=
 match d with
 |some t=>s.put t a
 |none=>s
def aL (s:St):Operand->ac
 | .tmp t=>s.get t
 | .const v=>oI v
 | .func f=>.func f [] []
 | .global g=>match gTab g with
   |some (k,l)=>.ref (.agg (l.map (.int k)))
   |none=>.any
mutual
def ac.lt (n:Nat):ac->Bool
 | .agg c| .tup c=>ac.ltL n c
 | .vec i| .ptr i _| .eptr i _ _ _| .map i| .bsl i _| .view i _ _ _=>decide (i<n)
 | .iface _ a=>ac.lt n a
 | .func _ a b=>ac.ltL n a&&ac.ltL n b
 | .any| .pure _| .tt| .ff| .ref _| .anyb| .yld _| .clip _| .nilp=>C
def ac.ltL (n:Nat):List ac->Bool
 |[]=>C
 |a::l=>ac.lt n a&&ac.ltL n l
end
def Res.lt (n:Nat):Res->Bool
 | .box b=>ac.ltL n b
 | .vecX _ _ _ _ _ _ i=>decide (i<n)
 | .vecU _ _ _ _ _ _ _ _ a=>a.all λx=>decide (x.2<n)
 |_=>C
def b6 (n:Nat):Mem->Bool
 |[]=>C
 |(i,r)::m=>decide (i<n)&&Res.lt n r&&b6 n m
def frLt (n:Nat):List (Nat×ac)->Bool
 |[]=>C
 |(_,a)::l=>ac.lt n a&&frLt n l
def St.ok (s:St):Bool:=frLt s.nx s.fr&&b6 s.nx s.mem&&ac.ltL s.nx s.df
def gB (σ:List (Nat×Nat))(i:Nat):Option Nat:=
 match σ with
 |[]=>B
 |(a,b)::r=>if a=i then A b else gB r i
def bn (σ:List (Nat×Nat))(k id j:Nat):Nat:=
 if k<=j/\j<k+64 then id+(j-k)else match gB σ j with
  |some b=>b
  |none=>id+64+j
mutual
def ac.ren (σ:Nat->Nat):ac->ac
 | .agg d=>.agg (ac.renL σ d)
 | .tup d=>.tup (ac.renL σ d)
 | .vec i=>.vec (σ i)
 | .ptr i o=>.ptr (σ i) o
 | .eptr i a b c=>.eptr (σ i) a b c
 | .map i=>.map (σ i)
 | .bsl i n=>.bsl (σ i) n
 | .view i a b c=>.view (σ i) a b c
 | .iface t a=>.iface t (ac.ren σ a)
 | .func f a b=>.func f (ac.renL σ a) (ac.renL σ b)
 | .any=>.any
 | .pure p=>.pure p
 | .tt=>.tt
 | .ff=>.ff
 | .ref p=>.ref p
 | .anyb=>.anyb
 | .nilp=>.nilp
 | .clip p=>.clip p
 | .yld l=>.yld l
def ac.renL (σ:Nat->Nat):List ac->List ac
 |[]=>[]
 |a::l=>ac.ren σ a::ac.renL σ l
end
def Res.ren (σ:Nat->Nat):Res->Res
 | .box h=>.box (ac.renL σ h)
 | .vecX a b c d e f i=>.vecX a b c d e f (σ i)
 | .vecU o n f k e m l j g=>.vecU o n f k e m l j (g.map λx=>(x.1,σ x.2))
 |r=>r
def Mem.ren (σ:Nat->Nat):Mem->Mem
 |[]=>[]
 |(i,r)::m=>(σ i,Res.ren σ r)::Mem.ren σ m
def Ef (P:qn)(f:FuncId):Prop:=
 ∃fn,P.funcs[f]?=A fn/\(fn.name== "runtime.NumGoroutine")=D/\fn.body.isNone=D
def eh (F:Cells)(w:World)(ρ:Env)(b:List ac)(c:Array Value):Prop:=
 b.length=c.size/\∀ (j:Nat) (a:ac) (v:Value),b[j]?=A a->c[j]?=A v->ak F w ρ a v
structure eD (P:qn) (f:FuncId) (k:Nat) (args:List ac) (m:Mem) (res:ac) (m':Mem):Prop where
 callable:Ef P f
 calls:∀ (F:Cells) (w:World) (ρ:Env) (Mine:Nat->Prop) (vs:Array Value),aG F w ρ Mine m->bM F w Mine->eh F w ρ args vs->
  Calls P f vs w λe w'=>∃v F' ρ',e=.returned v/\Step Mine F w F' w'/\cA k ρ ρ'/\ak F' w' ρ' res v/\aG F' w' ρ' Mine m'
structure YSpec (P:qn) (l:Nat) (k:Nat) (args:List ac) (m:Mem) (res:ac) (m':Mem):Prop where
 calls:∀ (F:Cells) (w:World) (ρ:Env) (Mine:Nat->Prop) (vs:Array Value),aG F w ρ Mine m->bM F w Mine->eh F w ρ args vs->
  YieldAt Fence.wide 0 P l vs w λe w'=>∃v F' ρ',e=.returned v/\Step Mine F w F' w'/\cA k ρ ρ'/\ak F' w' ρ' res v/\aG F' w' ρ' Mine m'
inductive ov where
 |fn (f:FuncId)
 |yld (l:Nat)
def ajb (P:qn):ov->Nat->List ac->Mem->ac->Mem->Prop
 | .fn f=>eD P f
 | .yld l=>YSpec P l
structure bR (a b:ac):Prop where
 rel:∀ (F:Cells) (w:World) (ρ:Env) (v:Value),ak F w ρ a v->ak F w ρ b v
def ei:List ac->List ac->Prop
 |[],[]=>True
 |a::l,b::c=>bR a b/\ei l c
 |_,_=>False
structure RSub (r r':Res):Prop where
 rel:∀ (F:Cells) (w:World) (ρ:Env) (id:Nat),cH F w ρ id r->cH F w ρ id r'/\∀b,aE w ρ id r' b->aE w ρ id r b
inductive Conv where
 |none
 |val (pre:Option Prop) (p q:ae) (h:holds pre->PSub p q)
 |res (pre:Option Prop) (r r':Res) (h:holds pre->RSub r r')
structure Hint where
 σ:List (Nat×Nat)
 k:Nat
 args:List ac
 m:Mem
 res:ac
 m':Mem
 cv:Conv
def i6:Option Hint->Bool
 |some h=>h.k==1
 |none=>D
def ahi:Option Hint->Bool
 |some h=>h.k==2
 |none=>D
def na:Option Hint->Nat
 |some h=>h.k
 |none=>0
def cvOf:Option Hint->Conv
 |some h=>h.cv
 |none=>.none
def lj (c:Conv)(out:Out):Option Out:=
 match c with
 | .none=>A out
 | .val _ _ q _=>match out.val with
   | .pure _=>A {out with val:=.pure q}
   | .clip _=>A {out with val:=.clip q}
   |_=>B
 | .res _ _ a _=>match out.wr with
   |(j,_)::l=>A {out with wr:=(j,a)::l}
   |_=>B
def ot (c:Conv)(out:Out):Prop:=
 match c with
 | .none=>True
 | .val a p _ _=>(match out.val with
   | .pure x=>x=p
   | .clip x=>x=p
   |_=>False)/\holds a
 | .res a r _ _=>(match out.wr with
   |(_,x)::_=>x=r
   |_=>False)/\holds a
def sP (c:Conv)(out:Out):Option Prop:=
 match c with
 | .none=>out.obl
 |c=>A (gc out.obl (ot c out))
def ej (m:Mem):Mem->Prop
 |[]=>True
 |(i,r)::l=>(match m.get i with|some a=>RSub a r|none=>False)/\ej m l
def ait:ac->Bool
 | .vec _=>C
 |_=>D
def UI:ac->Bool
 | .vec _=>C
 | .agg a=>a.any ait
 |_=>D
def TB (m:Mem):ac->Option (ac×List Nat)
 | .iface t a=>match fZ m a with
   |some (p,is)=>A (.iface t (.pure p),is)
   |none=>B
 |a=>match fZ m a with
  |some (p,is)=>A (.pure p,is)
  |none=>B
def bP (m:Mem):List ac->List ac->List ac×List Nat
 |_,[]=>([],[])
 |b,a::l=>if UI (b.headD .any)then(a::(bP m b.tail l).1,(bP m b.tail l).2)else match TB m a with
  |some (p,is)=>(p::(bP m b.tail l).1,is++(bP m b.tail l).2)
  |none=>(a::(bP m b.tail l).1,(bP m b.tail l).2)
def b7 (m:Mem):List ac->List ac->List ac×List Nat
 |_,[]=>([],[])
 |b,a::l=>match b.headD .any,a with
  | .view _ d _ _,.vec id=>match m.get id with
    |some (.vec c n _ _ _)=>if c=d then(.view id d 0 n::(b7 m b.tail l).1,id::(b7 m b.tail l).2)else(a::(b7 m b.tail l).1,(b7 m b.tail l).2)
    |_=>(a::(b7 m b.tail l).1,(b7 m b.tail l).2)
  |_,_=>(a::(b7 m b.tail l).1,(b7 m b.tail l).2)
def Ge:ac->ac->Bool
 | .vec i,.vec j=>i==j
 | .ptr i o,.ptr j p=>i==j&&o==p
 |_,_=>D
def tn:List ac->List ac->Bool
 |[],[]=>C
 |a::l,b::c=>Ge a b&&tn l c
 |_,_=>D
def fv (m a:Mem):Mem->Mem
 |[]=>[]
 |(i,r)::l=>match r,m.get i with
  | .box b,A (.box c)=>if tn b c&&(a.any λx=>x.1==i)&&(l.all λx=>x.1 !=i)then fv m a l else(i,.box b)::fv m a l
  |r,_=>(i,r)::fv m a l
structure aP where
 dst:Option Nat
 uses:List Nat
 id:Nat
 val:ac
 rd:List Nat
 wr:Mem
inductive WD where
 |run|skip|bad
 |ask (t:Nat) (b:Bool) (want:Bool)
def cB (ops:List Oper)(s:St)(o:Oper):WD:=
 match o.guard with
 |none=>.run
 |some (j,a)=>match ops[j]? with
  |some c=>match c.dst with
   |some t=>match s.get t with
    | .tt=>if a then .run else .skip
    | .ff=>if a then .skip else .run
    | .pure (.bool b)=>.ask t b a
    | .tup []=>.skip
    |_=>.bad
   |none=>.bad
  |none=>.bad
def aiJ (o:Op):List Nat:=o.operands.toList.filterMap λ| .tmp t=>A t|_=>B
def EM (ops:List Oper)(o:Oper):List Nat:=
 match o.guard with
 |none=>[]
 |some (j,_)=>match ops[j]? with
  |some a=>a.dst.toList
  |none=>[]
def fb (ops:List Oper)(o:Oper):List Nat:=aiJ o.op++EM ops o
def cY (nt:Nat):Option Nat->Bool
 |none=>C
 |some d=>decide (d<nt)
def ga (h:Hint)(id:Nat):Bool:=
    h.σ.all (λx=> !(id<=x.2&&decide (x.2<id+64)))&&
    h.σ.all (λx=>h.σ.all λy=>x.2 !=y.2||x.1==y.1)&&
    h.m.all (λx=> !(h.k<=x.1&&decide (x.1<h.k+64))&&h.σ.any λy=>y.1==x.1)&&
    h.m'.all (λx=>(h.k<=x.1&&decide (x.1<h.k+64))||h.σ.any λy=>y.1==x.1)&&
    h.m.all (λx=>h.m'.any λy=>y.1==x.1)
section
variable (P:qn) (nt:Nat) (ops:List Oper) (hint:Nat->Option Hint)
def lenV (m:Mem):ac->Option (Nat×List Nat)
 | .vec j=>match m.get j with
   |some (.vec _ n _ _ _)=>A (n,[j])
   |_=>B
 | .view j _ _ _=>match m.get j with
   |some (.vec _ n _ _ _)=>A (n,[j])
   |_=>B
 |_=>B
def sU (a:BinOp)(y:Operand):Bool:=
 match a,y with
 | .eql,.const (.slice B 0 0)=>C
 |_,_=>D
def F8:Builtin->Bool
 | .append=>C
 |_=>D
def T3 (c:Call)(id:Nat)(a:Operand->ac)(m:Mem):Option Out:=
 match c.args.toList with
 |[s,x]=>if c.argTypes.size=2 then Rf P c.argTypes id s (a s) (a x) m else B
 |_=>B
def eL (i:Nat)(o:Oper)(id:Nat)(s:St):Option (Out×Bool):=
 match o.op with
 | .call c=>match c.callee with
   | .builtin b=>if i6 (hint i)&&F8 b then(T3 P c id (aL s) s.mem).map (·,D)else(rZ P b c.args.toList c.argTypes id (aL s) s.mem).map (·,D)
   | .value x=>match aL s x,hint i with
     | .func f r w,A h=>
       let q:=b7 s.mem h.args (r++c.args.toList.map (aL s)++w);let e:=bP s.mem h.args q.1;let τ:=bn h.σ h.k id;let d:=Mem.ren τ h.m
       if e.2.all (λj=>d.all λx=>x.1 !=j)&&ga h id then
        A (⟨ac.ren τ h.res,d.map (·.1)++e.2++q.2,fv s.mem d (Mem.ren τ h.m')++bG s.mem e.2,
         A (ei e.1 (ac.renL τ h.args)/\ej s.mem d/\eD P f h.k h.args h.m h.res h.m')⟩,C)
       else B
     | .yld l,A h=>
       let q:=b7 s.mem h.args (c.args.toList.map (aL s));let e:=bP s.mem h.args q.1;let τ:=bn h.σ h.k id;let d:=Mem.ren τ h.m
       if e.2.all (λj=>d.all λx=>x.1 !=j)&&ga h id then
        A (⟨ac.ren τ h.res,d.map (·.1)++e.2++q.2,fv s.mem d (Mem.ren τ h.m')++bG s.mem e.2,
         A (ei e.1 (ac.renL τ h.args)/\ej s.mem d/\YSpec P l h.k h.args h.m h.res h.m')⟩,C)
       else B
     |_,_=>B
   | .invoke x u=>match aL s x,hint i with
     | .iface t a,A h=>match og P t u with
       |some f=>
        let q:=b7 s.mem h.args (a::c.args.toList.map (aL s));let e:=bP s.mem h.args q.1;let τ:=bn h.σ h.k id;let d:=Mem.ren τ h.m
        if e.2.all (λj=>d.all λx=>x.1 !=j)&&ga h id then
         A (⟨ac.ren τ h.res,d.map (·.1)++e.2++q.2,fv s.mem d (Mem.ren τ h.m')++bG s.mem e.2,
          A (ei e.1 (ac.renL τ h.args)/\ej s.mem d/\eD P f h.k h.args h.m h.res h.m')⟩,C)
        else B
       |none=>B
     |_,_=>B
 | .next x C=>match aL s x,hint i with
   | .ptr j 0,A h=>match s.mem.get j with
     |some (.iter p g)=>if h.k=1 then
      A (⟨.tup [.tt,.pure (.int .i64 g),.pure (.int .i32 (Utf8.decode p g).1)],[j],[(j,.iter p (g+(Utf8.decode p g).2))],A (g<p.size)⟩,D)
      else A (⟨.tup [.ff],[j],[],A (¬g<p.size)⟩,D)
     |_=>B
   |_,_=>B
 | .binOp z t x y I=>if sU z y then(match aL s x,P.underlying t with
  | .pure (.lst _ n _),A (.slice _)=>(if i6 (hint i)then A (⟨.anyb,[],[],A (n=0)⟩,D)else A (⟨.ff,[],[],A (0<n)⟩,D))
  |a,A (.slice _)=>(match lenV s.mem a with
   |some (n,is)=>(if i6 (hint i)then A (⟨.anyb,is,[],A (n=0)⟩,D)else A (⟨.ff,is,[],A (0<n)⟩,D))
   |none=>B)
  |_,_=>B)else(evOp P (.binOp z t x y I) id (aL s) s.mem).map (·,D)
 | .makeSlice t l c=>if i6 (hint i)then(AO P t id (aL s l) (aL s c)).map (·,D)
   else(rF P t id (aL s l) (aL s c)).map (·,D)
 | .store t a v=>if i6 (hint i)then(ll P t (aL s a) (aL s v) s.mem).map (·,D)else if 2<=na (hint i)then(EE P t (na (hint i)-2) (aL s a) (aL s v) s.mem).map (·,D)else(evOp P (.store t a v) id (aL s) s.mem).map (·,D)
 | .load t a=>if 2<=na (hint i)then(Fe P t (na (hint i)-2) (aL s a) s.mem).map (·,D)else(evOp P (.load t a) id (aL s) s.mem).map (·,D)
 | .alloc t=>if i6 (hint i)then(Ep P t id).map (·,D)else if 2<=na (hint i)then(Se P (na (hint i)-2) t id).map (·,D)else(evOp P (.alloc t) id (aL s) s.mem).map (·,D)
 | .slice t x F E G=>if i6 (hint i)then(Ey P t (aL s x) (F.map (aL s)) (E.map (aL s)) (G.map (aL s)) s.mem).map (·,D)
   else if ahi (hint i)then(Ez P t (aL s x) (F.map (aL s)) (E.map (aL s)) (G.map (aL s)) s.mem).map (·,D)
   else(evOp P (.slice t x F E G) id (aL s) s.mem).map (·,D)
 | .buildSlice t n H=>if i6 (hint i)then(OE P t n id (aL s) s.mem H.toList).map (·,D)else(evOp P (.buildSlice t n H) id (aL s) s.mem).map (·,D)
 |z=>(evOp P z id (aL s) s.mem).map (·,D)
def cU (i:Nat)(o:Oper)(id:Nat)(s:St):Option (Out×Bool):=
 match eL P hint i o id s with
 |some (out,b)=>match lj (cvOf (hint i)) out with
  |some a=>A ({a with obl:=sP (cvOf (hint i)) out},b)
  |none=>B
 |none=>B
def eC (id:Nat)(out:Out):Bool:=ac.lt (id+64) out.val&&b6 (id+64) out.wr
def dr (s:St)(o:Oper)(out:Out):St:={(s.putD o.dst out.val)with mem:=out.wr++s.mem}
def ez (o:Oper)(id:Nat)(out:Out):aP:=⟨o.dst,fb ops o,id,out.val,out.rd,out.wr⟩
def cG:(i:Nat)->List Oper->(id:Nat)->St->List aP->(St->List aP->Prop)->Prop
 |_,[],_,s,f,K=>K s f
 |i,o::d,id,s,f,K=>
  let e:St->Prop:=λs=>match cU P hint i o id s with
   |some (out,_)=>if cY nt o.dst&&eC id out then gc out.obl (cG (i+1) d (id+64) (dr s o out) (f++[ez ops o id out]) K)else False
   |none=>False
  let a:St->Prop:=λs=>if cY nt o.dst then cG (i+1) d (id+64) (s.putD o.dst (.tup [])) (f++[⟨o.dst,fb ops o,id,.tup [],[],[]⟩]) K else False
  match cB ops s o with
  | .run=>e s
  | .skip=>a s
  | .bad=>False
  | .ask t b c=>(b=true->if c then e (s.put t .tt)else a (s.put t .tt))/\(b=false->if c then a (s.put t .ff)else e (s.put t .ff))
end
theorem andO_iff {o:Option Prop}{p:Prop}:gc o p↔holds o/\p:=by cases o<;>simp[gc,holds]
end Go.Abs
