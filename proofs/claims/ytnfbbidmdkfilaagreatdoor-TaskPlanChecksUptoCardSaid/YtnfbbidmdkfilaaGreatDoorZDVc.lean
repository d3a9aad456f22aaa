import Derived.Test.YtnfbbidmdkfilaaGreatDoorZDSoundK
open Go renaming Program->qo
namespace Go.Abs
structure St where
 fr:List (Nat×AVal)
 mem:Mem
 df:List AVal
 nx:Nat
def rzz:List (Nat×AVal)->Nat->AVal
 |[],_=>.any
 |(i,a)::l,t=>if i=t then a else rzz l t
def St.get (s:St)(t:Nat):AVal:=rzz s.fr t
def St.put (s:St)(t:Nat)(a:AVal):St:={s with fr:=(t,a)::s.fr}
def St.putD (s:St)(d:Option Nat)(a:AVal):St:=
 match d with
 |some t=>s.put t a
 |none=>s
def bzz (s:St):Operand->AVal
 | .tmp t=>s.get t
 | .const v=>az0x v
 | .func f=>.func f [] []
 | .global g=>match gTab g with
   |some (k,l)=>.ref (.agg (l.map (.int k)))
   |none=>.any
mutual
def AVal.lt (n:Nat):AVal->Bool
 | .agg c| .tup c=>AVal.ltL n c
 | .vec i| .ptr i _| .eptr i _ _ _| .map i| .bsl i _| .view i _ _ _=>decide (i<n)
 | .iface _ a=>AVal.lt n a
 | .func _ a b=>AVal.ltL n a&&AVal.ltL n b
 | .any| .pure _| .tt| .ff| .ref _| .anyb| .yld _| .clip _| .nilp=>true
def AVal.ltL (n:Nat):List AVal->Bool
 |[]=>true
 |a::l=>AVal.lt n a&&AVal.ltL n l
end
def Res.lt (n:Nat):Res->Bool
 | .box b=>AVal.ltL n b
 | .vecX _ _ _ _ _ _ i=>decide (i<n)
 | .vecU _ _ _ _ _ _ _ _ a=>a.all λx=>decide (x.2<n)
 |_=>true
def hzt (n:Nat):Mem->Bool
 |[]=>true
 |(i,r)::m=>decide (i<n)&&Res.lt n r&&hzt n m
def frLt (n:Nat):List (Nat×AVal)->Bool
 |[]=>true
 |(_,a)::l=>AVal.lt n a&&frLt n l
def St.ok (s:St):Bool:=frLt s.nx s.fr&&hzt s.nx s.mem&&AVal.ltL s.nx s.df
def Hzn (σ:List (Nat×Nat))(i:Nat):Option Nat:=
 match σ with
 |[]=>none
 |(a,b)::r=>if a=i then some b else Hzn r i
def ezc (σ:List (Nat×Nat))(k id:Nat)(j:Nat):Nat:=
 if k<=j/\j<k+64 then id+(j-k)else match Hzn σ j with
  |some b=>b
  |none=>id+64+j
mutual
def AVal.ren (σ:Nat->Nat):AVal->AVal
 | .agg d=>.agg (AVal.renL σ d)
 | .tup d=>.tup (AVal.renL σ d)
 | .vec i=>.vec (σ i)
 | .ptr i o=>.ptr (σ i) o
 | .eptr i a b c=>.eptr (σ i) a b c
 | .map i=>.map (σ i)
 | .bsl i n=>.bsl (σ i) n
 | .view i a b c=>.view (σ i) a b c
 | .iface t a=>.iface t (AVal.ren σ a)
 | .func f a b=>.func f (AVal.renL σ a) (AVal.renL σ b)
 | .any=>.any
 | .pure p=>.pure p
 | .tt=>.tt
 | .ff=>.ff
 | .ref p=>.ref p
 | .anyb=>.anyb
 | .nilp=>.nilp
 | .clip p=>.clip p
 | .yld l=>.yld l
def AVal.renL (σ:Nat->Nat):List AVal->List AVal
 |[]=>[]
 |a::l=>AVal.ren σ a::AVal.renL σ l
end
def Res.ren (σ:Nat->Nat):Res->Res
 | .box h=>.box (AVal.renL σ h)
 | .vecX a b c d e f i=>.vecX a b c d e f (σ i)
 | .vecU sz n f k e off l j g=>.vecU sz n f k e off l j (g.map λx=>(x.1,σ x.2))
 |r=>r
def Mem.ren (σ:Nat->Nat):Mem->Mem
 |[]=>[]
 |(i,r)::m=>(σ i,Res.ren σ r)::Mem.ren σ m
def Xz2 (P:qo)(f:FuncId):Prop:=
 ∃fn,P.funcs[f]?=some fn/\(fn.name== "runtime.NumGoroutine")=false/\fn.body.isNone=false
def Hzu (F:Cells)(w:World)(ρ:Env)(b:List AVal)(vs:Array Value):Prop:=
 b.length=vs.size/\∀ (j:Nat) (a:AVal) (v:Value),b[j]?=some a->vs[j]?=some v->ARel F w ρ a v
structure Spec (P:qo) (f:FuncId) (k:Nat) (args:List AVal) (m:Mem) (res:AVal) (m':Mem):Prop where
 callable:Xz2 P f
 calls:∀ (F:Cells) (w:World) (ρ:Env) (Mine:Nat->Prop) (vs:Array Value),MemOk F w ρ Mine m->Good F w Mine->Hzu F w ρ args vs->
  Calls P f vs w λe w'=>∃v F' ρ',e=.returned v/\Step Mine F w F' w'/\dz4 k ρ ρ'/\ARel F' w' ρ' res v/\MemOk F' w' ρ' Mine m'
structure YSpec (P:qo) (l:Nat) (k:Nat) (args:List AVal) (m:Mem) (res:AVal) (m':Mem):Prop where
 calls:∀ (F:Cells) (w:World) (ρ:Env) (Mine:Nat->Prop) (vs:Array Value),MemOk F w ρ Mine m->Good F w Mine->Hzu F w ρ args vs->
  YieldAt Fence.wide 0 P l vs w λe w'=>∃v F' ρ',e=.returned v/\Step Mine F w F' w'/\dz4 k ρ ρ'/\ARel F' w' ρ' res v/\MemOk F' w' ρ' Mine m'
inductive Tgt where
 |fn (f:FuncId)
 |yld (l:Nat)
def azpv (P:qo):Tgt->Nat->List AVal->Mem->AVal->Mem->Prop
 | .fn f=>Spec P f
 | .yld l=>YSpec P l
structure ASub (a b:AVal):Prop where
 rel:∀ (F:Cells) (w:World) (ρ:Env) (v:Value),ARel F w ρ a v->ARel F w ρ b v
def Gza:List AVal->List AVal->Prop
 |[],[]=>True
 |a::l,b::c=>ASub a b/\Gza l c
 |_,_=>False
structure RSub (r r':Res):Prop where
 rel:∀ (F:Cells) (w:World) (ρ:Env) (id:Nat),ResOk F w ρ id r->ResOk F w ρ id r'/\∀b,Owns w ρ id r' b->Owns w ρ id r b
inductive Conv where
 |none
 |val (pre:Option Prop) (p q:PVal) (h:holds pre->PSub p q)
 |res (pre:Option Prop) (r r':Res) (h:holds pre->RSub r r')
structure Hint where
 σ:List (Nat×Nat)
 k:Nat
 args:List AVal
 m:Mem
 res:AVal
 m':Mem
 cv:Conv
def Oz9:Option Hint->Bool
 |some h=>h.k==1
 |none=>false
def azlx:Option Hint->Bool
 |some h=>h.k==2
 |none=>false
def az90:Option Hint->Nat
 |some h=>h.k
 |none=>0
def cvOf:Option Hint->Conv
 |some h=>h.cv
 |none=>.none
def Iz3 (c:Conv)(out:Out):Option Out:=
 match c with
 | .none=>some out
 | .val _ _ q _=>match out.val with
   | .pure _=>some {out with val:=.pure q}
   | .clip _=>some {out with val:=.clip q}
   |_=>none
 | .res _ _ a _=>match out.wr with
   |(j,_)::l=>some {out with wr:=(j,a)::l}
   |_=>none
def Rzb (c:Conv)(out:Out):Prop:=
 match c with
 | .none=>True
 | .val a p _ _=>(match out.val with
   | .pure x=>x=p
   | .clip x=>x=p
   |_=>False)/\holds a
 | .res a r _ _=>(match out.wr with
   |(_,x)::_=>x=r
   |_=>False)/\holds a
def Xzh (c:Conv)(out:Out):Option Prop:=
 match c with
 | .none=>out.obl
 |c=>some (andO out.obl (Rzb c out))
def MSub (m:Mem):Mem->Prop
 |[]=>True
 |(i,r)::l=>(match m.get i with|some a=>RSub a r|none=>False)/\MSub m l
def azom:AVal->Bool
 | .vec _=>true
 |_=>false
def azov:AVal->Bool
 | .vec _=>true
 | .agg a=>a.any azom
 |_=>false
def azdx (m:Mem):AVal->Option (AVal×List Nat)
 | .iface t a=>match Cz7 m a with
   |some (p,is)=>some (.iface t (.pure p),is)
   |none=>none
 |a=>match Cz7 m a with
  |some (p,is)=>some (.pure p,is)
  |none=>none
def bzh (m:Mem):List AVal->List AVal->List AVal×List Nat
 |_,[]=>([],[])
 |b,a::l=>if azov (b.headD .any)then(a::(bzh m b.tail l).1,(bzh m b.tail l).2)else match azdx m a with
  |some (p,is)=>(p::(bzh m b.tail l).1,is++(bzh m b.tail l).2)
  |none=>(a::(bzh m b.tail l).1,(bzh m b.tail l).2)
def dz1 (m:Mem):List AVal->List AVal->List AVal×List Nat
 |_,[]=>([],[])
 |b,a::l=>match b.headD .any,a with
  | .view _ sz _ _,.vec id=>match m.get id with
    |some (.vec c n _ _ _)=>if c=sz then(.view id sz 0 n::(dz1 m b.tail l).1,id::(dz1 m b.tail l).2)else(a::(dz1 m b.tail l).1,(dz1 m b.tail l).2)
    |_=>(a::(dz1 m b.tail l).1,(dz1 m b.tail l).2)
  |_,_=>(a::(dz1 m b.tail l).1,(dz1 m b.tail l).2)
def azna:AVal->AVal->Bool
 | .vec i,.vec j=>i==j
 | .ptr i o,.ptr j p=>i==j&&o==p
 |_,_=>false
def az81:List AVal->List AVal->Bool
 |[],[]=>true
 |a::l,b::c=>azna a b&&az81 l c
 |_,_=>false
def izf (m a:Mem):Mem->Mem
 |[]=>[]
 |(i,r)::l=>match r,m.get i with
  | .box b,some (.box ds)=>if az81 b ds&&(a.any λx=>x.1==i)&&(l.all λx=>x.1 !=i)then izf m a l else(i,.box b)::izf m a l
  |r,_=>(i,r)::izf m a l
structure Eff where
 dst:Option Nat
 uses:List Nat
 id:Nat
 val:AVal
 rd:List Nat
 wr:Mem
inductive Guard where
 |run|skip|bad
 |ask (t:Nat) (b:Bool) (want:Bool)
def dzi (ops:List Oper)(s:St)(o:Oper):Guard:=
 match o.guard with
 |none=>.run
 |some (j,a)=>match ops[j]? with
  |some c=>match c.dst with
   |some t=>match s.get t with
    | .tt=>if a then .run else .skip
    | .ff=>if a then .skip else .run
    | .pure (.bool b)=>.ask t b a
    | .tup []=>.skip
    |_=>.bad
   |none=>.bad
  |none=>.bad
def azp4 (o:Op):List Nat:=o.operands.toList.filterMap λ| .tmp t=>some t|_=>none
def Yzd (ops:List Oper)(o:Oper):List Nat:=
 match o.guard with
 |none=>[]
 |some (j,_)=>match ops[j]? with
  |some a=>a.dst.toList
  |none=>[]
def yzk (ops:List Oper)(o:Oper):List Nat:=azp4 o.op++Yzd ops o
def oza (nt:Nat):Option Nat->Bool
 |none=>true
 |some d=>decide (d<nt)
def Tzf (h:Hint)(id:Nat):Bool:=
    h.σ.all (λx=> !(id<=x.2&&decide (x.2<id+64)))&&
    h.σ.all (λx=>h.σ.all λy=>x.2 !=y.2||x.1==y.1)&&
    h.m.all (λx=> !(h.k<=x.1&&decide (x.1<h.k+64))&&h.σ.any λy=>y.1==x.1)&&
    h.m'.all (λx=>(h.k<=x.1&&decide (x.1<h.k+64))||h.σ.any λy=>y.1==x.1)&&
    h.m.all (λx=>h.m'.any λy=>y.1==x.1)
section
variable (P:qo) (nt:Nat) (ops:List Oper) (hint:Nat->Option Hint)
def lenV (m:Mem):AVal->Option (Nat×List Nat)
 | .vec j=>match m.get j with
   |some (.vec _ n _ _ _)=>some (n,[j])
   |_=>none
 | .view j _ _ _=>match m.get j with
   |some (.vec _ n _ _ _)=>some (n,[j])
   |_=>none
 |_=>none
def Yzt (a:BinOp)(y:Operand):Bool:=
 match a,y with
 | .eql,.const (.slice none 0 0)=>true
 |_,_=>false
def azli:Builtin->Bool
 | .append=>true
 |_=>false
def azjg (c:Call)(id:Nat)(env:Operand->AVal)(m:Mem):Option Out:=
 match c.args.toList with
 |[s,x]=>if c.argTypes.size=2 then az16 P c.argTypes id s (env s) (env x) m else none
 |_=>none
def kz4 (i:Nat)(o:Oper)(id:Nat)(s:St):Option (Out×Bool):=
 match o.op with
 | .call c=>match c.callee with
   | .builtin b=>if Oz9 (hint i)&&azli b then(azjg P c id (bzz s) s.mem).map (·,false)else(Jzv P b c.args.toList c.argTypes id (bzz s) s.mem).map (·,false)
   | .value x=>match bzz s x,hint i with
     | .func f r w,some h=>
       let q:=dz1 s.mem h.args (r++c.args.toList.map (bzz s)++w);let e:=bzh s.mem h.args q.1;let τ:=ezc h.σ h.k id;let d:=Mem.ren τ h.m
       if e.2.all (λj=>d.all λx=>x.1 !=j)&&Tzf h id then
        some (⟨AVal.ren τ h.res,d.map (·.1)++e.2++q.2,izf s.mem d (Mem.ren τ h.m')++bzk s.mem e.2,
         some (Gza e.1 (AVal.renL τ h.args)/\MSub s.mem d/\Spec P f h.k h.args h.m h.res h.m')⟩,true)
       else none
     | .yld l,some h=>
       let q:=dz1 s.mem h.args (c.args.toList.map (bzz s));let e:=bzh s.mem h.args q.1;let τ:=ezc h.σ h.k id;let d:=Mem.ren τ h.m
       if e.2.all (λj=>d.all λx=>x.1 !=j)&&Tzf h id then
        some (⟨AVal.ren τ h.res,d.map (·.1)++e.2++q.2,izf s.mem d (Mem.ren τ h.m')++bzk s.mem e.2,
         some (Gza e.1 (AVal.renL τ h.args)/\MSub s.mem d/\YSpec P l h.k h.args h.m h.res h.m')⟩,true)
       else none
     |_,_=>none
   | .invoke x u=>match bzz s x,hint i with
     | .iface t a,some h=>match Kza P t u with
       |some f=>
        let q:=dz1 s.mem h.args (a::c.args.toList.map (bzz s));let e:=bzh s.mem h.args q.1;let τ:=ezc h.σ h.k id;let d:=Mem.ren τ h.m
        if e.2.all (λj=>d.all λx=>x.1 !=j)&&Tzf h id then
         some (⟨AVal.ren τ h.res,d.map (·.1)++e.2++q.2,izf s.mem d (Mem.ren τ h.m')++bzk s.mem e.2,
          some (Gza e.1 (AVal.renL τ h.args)/\MSub s.mem d/\Spec P f h.k h.args h.m h.res h.m')⟩,true)
        else none
       |none=>none
     |_,_=>none
 | .next x true=>match bzz s x,hint i with
   | .ptr j 0,some h=>match s.mem.get j with
     |some (.iter p g)=>if h.k=1 then
      some (⟨.tup [.tt,.pure (.int .i64 g),.pure (.int .i32 (Utf8.decode p g).1)],[j],[(j,.iter p (g+(Utf8.decode p g).2))],some (g<p.size)⟩,false)
      else some (⟨.tup [.ff],[j],[],some (¬g<p.size)⟩,false)
     |_=>none
   |_,_=>none
 | .binOp z t x y ty=>if Yzt z y then(match bzz s x,P.underlying t with
  | .pure (.lst _ n _),some (.slice _)=>(if Oz9 (hint i)then some (⟨.anyb,[],[],some (n=0)⟩,false)else some (⟨.ff,[],[],some (0<n)⟩,false))
  |a,some (.slice _)=>(match lenV s.mem a with
   |some (n,is)=>(if Oz9 (hint i)then some (⟨.anyb,is,[],some (n=0)⟩,false)else some (⟨.ff,is,[],some (0<n)⟩,false))
   |none=>none)
  |_,_=>none)else(evOp P (.binOp z t x y ty) id (bzz s) s.mem).map (·,false)
 | .makeSlice t l c=>if Oz9 (hint i)then(Dze P t id (bzz s l) (bzz s c)).map (·,false)
   else(zz7 P t id (bzz s l) (bzz s c)).map (·,false)
 | .store t a v=>if Oz9 (hint i)then(Iz9 P t (bzz s a) (bzz s v) s.mem).map (·,false)else if 2<=az90 (hint i)then(Xzy P t (az90 (hint i)-2) (bzz s a) (bzz s v) s.mem).map (·,false)else(evOp P (.store t a v) id (bzz s) s.mem).map (·,false)
 | .load t a=>if 2<=az90 (hint i)then(az4n P t (az90 (hint i)-2) (bzz s a) s.mem).map (·,false)else(evOp P (.load t a) id (bzz s) s.mem).map (·,false)
 | .alloc t=>if Oz9 (hint i)then(Xzl P t id).map (·,false)else if 2<=az90 (hint i)then(az6u P (az90 (hint i)-2) t id).map (·,false)else(evOp P (.alloc t) id (bzz s) s.mem).map (·,false)
 | .slice t x lo hi mx=>if Oz9 (hint i)then(Xzs P t (bzz s x) (lo.map (bzz s)) (hi.map (bzz s)) (mx.map (bzz s)) s.mem).map (·,false)
   else if azlx (hint i)then(Xzt P t (bzz s x) (lo.map (bzz s)) (hi.map (bzz s)) (mx.map (bzz s)) s.mem).map (·,false)
   else(evOp P (.slice t x lo hi mx) id (bzz s) s.mem).map (·,false)
 | .buildSlice t n ps=>if Oz9 (hint i)then(Jzu P t n id (bzz s) s.mem ps.toList).map (·,false)else(evOp P (.buildSlice t n ps) id (bzz s) s.mem).map (·,false)
 |z=>(evOp P z id (bzz s) s.mem).map (·,false)
def gzv (i:Nat)(o:Oper)(id:Nat)(s:St):Option (Out×Bool):=
 match kz4 P hint i o id s with
 |some (out,b)=>match Iz3 (cvOf (hint i)) out with
  |some a=>some ({a with obl:=Xzh (cvOf (hint i)) out},b)
  |none=>none
 |none=>none
def Izi (id:Nat)(out:Out):Bool:=AVal.lt (id+64) out.val&&hzt (id+64) out.wr
def izt (s:St)(o:Oper)(out:Out):St:={(s.putD o.dst out.val)with mem:=out.wr++s.mem}
def Iz5 (o:Oper)(id:Nat)(out:Out):Eff:=⟨o.dst,yzk ops o,id,out.val,out.rd,out.wr⟩
def kz5:(i:Nat)->List Oper->(id:Nat)->St->List Eff->(St->List Eff->Prop)->Prop
 |_,[],_,s,tr,K=>K s tr
 |i,o::d,id,s,tr,K=>
  let e:St->Prop:=λs=>match gzv P hint i o id s with
   |some (out,_)=>if oza nt o.dst&&Izi id out then andO out.obl (kz5 (i+1) d (id+64) (izt s o out) (tr++[Iz5 ops o id out]) K)else False
   |none=>False
  let a:St->Prop:=λs=>if oza nt o.dst then kz5 (i+1) d (id+64) (s.putD o.dst (.tup [])) (tr++[⟨o.dst,yzk ops o,id,.tup [],[],[]⟩]) K else False
  match dzi ops s o with
  | .run=>e s
  | .skip=>a s
  | .bad=>False
  | .ask t b c=>(b=true->if c then e (s.put t .tt)else a (s.put t .tt))/\(b=false->if c then a (s.put t .ff)else e (s.put t .ff))
end
theorem andO_iff {o:Option Prop}{p:Prop}:andO o p↔holds o/\p:=by
 cases o<;>simp[andO,holds]
end Go.Abs
