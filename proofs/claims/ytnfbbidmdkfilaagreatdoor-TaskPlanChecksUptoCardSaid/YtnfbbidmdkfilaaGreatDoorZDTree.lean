import Derived.Test.YtnfbbidmdkfilaaGreatDoorZDOb
open Bool renaming and_eq_true->qm
open Classical renaming byContradiction->xd
open Go renaming World->qn,Program->qo
open Nat renaming le_refl->qk
open Option renaming ite_none_right_eq_some->zZ
namespace Go.Abs
inductive Step3 (σ τ R:Type)where
 |next (x:σ)
 |out (y:τ)
 |fin (r:R)
structure CallS (α:Type)where
 P:qo
 f:Tgt
 o:Option α
 k:Nat
 args:List AVal
 m:Mem
 res:α->AVal
 m':α->Mem
 ok:∀y,o=some y->azpv P f k args m (res y) (m' y)
inductive T:Type->Type 1 where
 |ret {R:Type} (r:R):T R
 |retW {R:Type} (l:List Nat) (r:R):T R
 |grd {R:Type} (p:Prop) [d:Decidable p] (k:T R):T R
 |ok {R:Type} (p:Prop) (h:p) (k:T R):T R
 |conv {R:Type} (i:Nat) (c:Conv) (k:T R):T R
 |br {R:Type} (b:Bool) (t f:T R):T R
 |brP {R:Type} (p:Prop) [d:Decidable p] (t f:T R):T R
 |call {R α:Type} (c:CallS α) (σ:List (Nat×Nat)) (k:α->T R):T R
 |name {R:Type} (i:Nat) (e:Int) (k:Int->T R):T R
 |loop {R σ τ:Type} (I:St->σ->St) (e:Ex) (J:St->τ->St) (body:σ->T (Step3 σ τ R)) (x0:σ) (l:List Nat) (k:τ->T R):T R
 |cut {R τ:Type} (d:Nat) (J:St->τ->St) (body:T (Step3 Unit τ R)) (k:τ->T R):T R
 |unroll {R:Type} (n:Nat) (k:T R):T R
 |clo {R:Type} (i:Nat) (c:Conv) (k:T R):T R
 |split {R:Type} (b:Bool) (t f:T R):T R
 |known {R:Type} (b:Bool) (t:T R):T R
 |lit {R:Type} (i:Nat) (n:Int) (k:T R):T R
 |cas {R:Type} (i:Nat) (e n:Int) (t f:T R):T R
 |both {R:Type} (t f:T R):T R
 |gst {R:Type} (q i h:Nat) (c:Conv) (k:T R):T R
 |stop {R:Type}:T R
def pkF (s:St):List Nat->List (Nat×AVal)
 |[]=>[]
 |t::l=>(t,s.get t)::pkF s l
def pkM (m:Mem):List Nat->Mem
 |[]=>[]
 |i::l=>match m.get i with
  |some r=>(i,r)::pkM m l
  |none=>pkM m l
abbrev pk (s:St)(l m:List Nat)(d:List (Nat×AVal))(e:Mem):St:=⟨d++pkF s l,e++pkM s.mem m,s.df,s.nx+64⟩
def iter {σ τ R:Type}(f:σ->Option (Step3 σ τ R)):Nat->σ->Option (τ ⊕ R)
 |0,_=>none
 |n+1,x=>match f x with
  |some (.next a)=>iter f n a
  |some (.out y)=>some (.inl y)
  |some (.fin r)=>some (.inr r)
  |none=>none
def andK {τ R:Type}(o:Option (τ ⊕ R))(k:τ->Option R):Option R:=
 match o with
 |some (.inl y)=>k y
 |some (.inr r)=>some r
 |none=>none
def andC {τ R:Type}(o:Option (Step3 Unit τ R))(k:τ->Option R):Option R:=
 match o with
 |some (.out y)=>k y
 |some (.fin r)=>some r
 |_=>none
def grd {R:Type}(p:Prop)[Decidable p](k:Option R):Option R:=if p then k else none
def T.run (N:Nat):{R:Type}->T R->Option R
 |_,.ret r=>some r
 |_,.retW _ r=>some r
 |_,.ok _ _ k=>k.run N
 |_,.conv _ _ k=>k.run N
 |_,@T.grd _ p d k=>@Go.Abs.grd _ p d (k.run N)
 |_,.br b t f=>bif b then t.run N else f.run N
 |_,@T.brP _ p d t f=>bif @decide p d then t.run N else f.run N
 |_,.call c _ k=>c.o.bind λy=>(k y).run N
 |_,.name _ e k=>(k e).run N
 |_,.loop _ _ _ a g _ k=>andK (iter (λx=>(a x).run N) N g) λy=>(k y).run N
 |_,.cut _ _ a k=>andC (a.run N) λy=>(k y).run N
 |_,.unroll _ k=>k.run N
 |_,.clo _ _ k=>k.run N
 |_,.split b t f=>bif b then t.run N else f.run N
 |_,.known _ t=>t.run N
 |_,.lit _ _ k=>k.run N
 |_,.cas _ e n t f=>bif e==n then t.run N else f.run N
 |_,.both t _=>t.run N
 |_,.gst _ _ _ _ k=>k.run N
 |_,.stop=>none
theorem grd_some {R:Type}{p:Prop}[Decidable p]{k:Option R}{r:R}:grd p k=some r↔p/\k=some r:=by
 grind[grd]
theorem azh {R:Type}{p:Prop}[Decidable p]{k:Option R}(h:p):grd p k=k:=by unfold grd;grind
def exEq:Ex->Ex->Bool
 | .normal,.normal=>true
 | .ret,.ret=>true
 | .exit a,.exit b=>decide (a=b)
 |_,_=>false
theorem azlb {a b:Ex}(h:exEq a b=true):a=b:=by
 cases a<;>cases b<;>simp_all [exEq]
def Hz3:Ex->Bool
 | .normal=>true
 |_=>false
def az3l {R:Type}(t:T R)(K:T R->Ob):Ob:=
 match t with
 | .split b t f=>.and (.imp (b=true) (az3l t K)) (.imp (b=false) (az3l f K))
 | .stop=>.tru
 |t=>K t
theorem Wzy {R:Type}{N:Nat}{r:R}{K:T R->Ob}:∀ (t:T R),(az3l t K).holds->t.run N=some r->∃e,(K e).holds/\e.run N=some r:=by
 intro t;induction t with
 |split b t f d c=>
  intro h a;cases b with
  |true=>exact d (h.1 rfl) a
  |false=>exact c (h.2 rfl) a
 |stop=>grind[T.run]
 |_=>intro h a;exact⟨_,h,a⟩
def azoi (o:Oper):Bool:=
 match o.op with
 | .call c=>match c.callee with
   | .value _=>true
   | .invoke _ _=>true
   |_=>false
 |_=>false
def azok (o:Oper):Bool:=
 match o.op with
 | .next _ true=>true
 |_=>false
def azp2 (k:Nat):Hint:=⟨[],k,[],[],.any,[],.none⟩
def azoj (o:Oper):Bool:=
 match o.op with
 | .makeSlice _ _ _=>true
 | .slice _ _ _ _ _=>true
 | .binOp a _ _ y _=>Yzt a y
 |_=>false
def azjq (o:Oper)(n:Nat):Nat:=
 match o.op with
 | .alloc _=>if 1000<=n then n-999 else 0
 | .buildSlice _ _ _=>if n=1000 then 1 else 0
 | .store _ _ _=>if n=998 then 1 else if 1100<=n then n-1098 else 0
 | .load _ _=>if 1100<=n then n-1098 else 0
 | .call c=>match c.callee with
   | .builtin .append=>if n=1002 then 1 else 0
   |_=>0
 |_=>0
def unT {R:Type}(o:Oper)(t:T R):Nat×T R:=
 if azoj o then(match t with
  | .unroll n a=>(n,a)
  |t=>(0,t))else(match t with
  | .unroll n a=>if azjq o n=0 then(0,.unroll n a)else(azjq o n,a)
  |t=>(0,t))
theorem aznk {R:Type}{N:Nat}(o:Oper)(t:T R):(unT o t).2.run N=t.run N:=by
 unfold unT
 grind[T.run]
def cvT {R:Type}(j:Nat)(t:T R):Conv×T R:=
 match t with
 | .conv i c a=>if i=j then(c,a)else(.none,.conv i c a)
 |t=>(.none,t)
theorem azl9 {R:Type}{N j:Nat}(t:T R):(cvT j t).2.run N=t.run N:=by
 unfold cvT
 grind[T.run]
def opH (k:Nat)(c:Conv):Hint:=⟨[],k,[],[],.any,[],c⟩
def azl5 (c:Conv)(out:Out):Ob:=
 match c with
 | .none=>.tru
 | .val _ p _ _=>(match out.val with
   | .pure x=>.eq x p
   | .clip x=>.eq x p
   |_=>.no)
 | .res _ r _ _=>(match out.wr with
   |(_,x)::_=>.eq x r
   |_=>.no)
def azdq:Conv->Option Prop
 | .none=>none
 | .val a _ _ _=>a
 | .res a _ _ _=>a
def preO (a b:Option Prop):Ob:=
 match a,b with
 |none,_=>.tru
 |some p,some q=>.eq p q
 |some _,none=>.no
theorem Yzy {a b:Option Prop}(h:(preO a b).holds)(c:holds b):holds a:=by
 unfold preO at h;split at h
 ·trivial
 ·have h:_=_:=h
  simp_all
 ·exact h.elim
theorem azl6 {c:Conv}{out:Out}(h:(azl5 c out).holds)(b:holds (azdq c)):Rzb c out:=by
 unfold azl5 at h;unfold Rzb;split at h
 ·trivial
 ·split at h
  ·rename_i a;rw[a];exact⟨h,b⟩
  ·rename_i a;rw[a];exact⟨h,b⟩
  ·exact h.elim
 ·split at h
  ·rename_i a;rw[a];exact⟨h,b⟩
  ·exact h.elim
def CallS.hint {a:Type}(c:CallS a)(σ:List (Nat×Nat))(y:a):Hint:=⟨σ,c.k,c.args,c.m,c.res y,c.m' y,.none⟩
section
variable (P:qo) (nt:Nat) (rid:Nat) (ops:List Oper)
def Xzd (o:Oper)(s:St):Option (Tgt×List AVal):=
 match o.op with
 | .call c=>match c.callee with
   | .value x=>match bzz s x with
     | .func f b d=>some (.fn f,b++c.args.toList.map (bzz s)++d)
     | .yld l=>some (.yld l,c.args.toList.map (bzz s))
     |_=>none
   | .invoke x e=>match bzz s x with
     | .iface t a=>match Kza P t e with
       |some f=>some (.fn f,a::c.args.toList.map (bzz s))
       |none=>none
     |_=>none
   |_=>none
 |_=>none
def azo2 {a:Type}(c:CallS a)(σ:List (Nat×Nat))(f:Tgt)(b:List AVal)(id:Nat)(s:St):Ob:=
 .and (Vzr (bzh s.mem c.args (dz1 s.mem c.args b).1).1 (AVal.renL (ezc σ c.k id) c.args)) (.and (subM s.mem (Mem.ren (ezc σ c.k id) c.m)) (.and (.eq c.P P) (.eq c.f f)))
theorem azfo {t:Type}{c:CallS t}{σ:List (Nat×Nat)}{f:Tgt}{u:List AVal}{i id:Nat}{o:Oper}{s:St}{y:t}{out:Out}{b:Bool}(j:Xzd P o s=some (f,u))(z:c.o=some y)
 (h:(azo2 P c σ f u id s).holds) (d:kz4 P (λ_=>some (c.hint σ y)) i o id s=some (out,b)):holds out.obl:=by
 have k:=c.ok y z;obtain⟨q,m,C,B⟩:=h;rw[C,B]at k;unfold Xzd at j;unfold kz4 at d;split at j
 ·rename_i E n;rw[n]at d;simp only at d;split at j
  ·rename_i x r;rw[r]at d;simp only at d;split at j
   ·rename_i g p w e;rw[e]at d;obtain⟨rfl,rfl⟩:=j;obtain⟨_,d⟩:=zZ.1 d;cases d;exact⟨oz9 q,xzh m,k⟩
   ·rename_i l e;rw[e]at d;obtain⟨rfl,rfl⟩:=j;obtain⟨_,d⟩:=zZ.1 d;cases d;exact⟨oz9 q,xzh m,k⟩
   simp_all
  ·rename_i x v r;rw[r]at d;simp only at d;split at j
   ·rename_i D a e;rw[e]at d;split at j
    ·rename_i g A;obtain⟨rfl,rfl⟩:=j;simp only[CallS.hint,A]at d;obtain⟨_,d⟩:=zZ.1 d;cases d;exact⟨oz9 q,xzh m,k⟩
    simp_all
   simp_all
  simp_all
 simp_all
section
variable (i:Nat) (o:Oper) (id:Nat) (tr:List Eff) {R:Type} (K:St->List Eff->T R->Ob)
def Mzx (s:St)(out:Out)(t:T R):Ob:=if oza nt o.dst&&Izi id out then K (izt s o out) (tr++[Iz5 ops o id out]) t else .no
def Uzw (s:St)(out:Out)(t:T R):Ob:=
 match t with
 | .name j e k=>if j=rid * 1000+i then(match out.val with
   | .pure (.int kk b)=>.and (.eq b e) (.all λz=>Mzx nt ops o id tr K s {out with val:=.pure (.int kk z)} (k z))
   |_=>.no)else Mzx nt ops o id tr K s out (.name j e k)
 | .lit j e k=>if j=rid * 1000+i then(match out.val with
   | .pure (.int kk b)=>.and (.eq b e) (Mzx nt ops o id tr K s {out with val:=.pure (.int kk e)} k)
   |_=>.no)else Mzx nt ops o id tr K s out (.lit j e k)
 | .cas j e n t f=>if j=rid * 1000+i then(match out.val with
   | .pure (.int kk b)=>.and (.eq b e) (.and (.imp (e=n) (Mzx nt ops o id tr K s {out with val:=.pure (.int kk n)} t)) (.imp (¬e=n) (Uzw s out f)))
   |_=>.no)else Mzx nt ops o id tr K s out (.cas j e n t f)
 | .stop=>.tru
 |t=>Mzx nt ops o id tr K s out t
def az5s (s:St)(t:T R):Ob:=
 match t with
 | .call c σ k=>match Xzd P o s with
   |some (f,as)=>.and (azo2 P c σ f as id s) (.all λy=>.imp (c.o=some y) (match kz4 P (λ_=>some (c.hint σ y)) i o id s with
    |some (out,_)=>Uzw nt rid ops i o id tr K s out (k y)
    |none=>.no))
   |none=>.no
 |_=>.no
def az5t (s:St)(t:T R):Ob:=
 match t with
 |@T.brP _ p _ a b=>.and (.imp p (match kz4 P (λ_=>some (azp2 1)) i o id s with
  |some (out,_)=>(match out.obl with
   |some q=>.and (.eq q p) (Mzx nt ops o id tr K s out a)
   |none=>Mzx nt ops o id tr K s out a)
  |none=>.no)) (.imp (¬p) (match kz4 P (λ_=>some (azp2 0)) i o id s with
  |some (out,_)=>(match out.obl with
   |some q=>.and (.eq q (¬p)) (Mzx nt ops o id tr K s out b)
   |none=>Mzx nt ops o id tr K s out b)
  |none=>.no))
 |_=>.no
def azmx (s:St)(m:Nat)(c:Conv)(t:T R):Ob:=
 match kz4 P (λ_=>some (opH m c)) i o id s with
 |some (out,_)=>match Iz3 c out with
  |some a=>.and (azl5 c out) (match out.obl with
   |none=>.and (preO (azdq c) none) (Uzw nt rid ops i o id tr K s a t)
   |some q=>match t with
    |@T.grd _ p _ k=>.imp p (.and (.eq q p) (.and (preO (azdq c) (some p)) (Uzw nt rid ops i o id tr K s a k)))
    | .ok p _ k=>.and (.eq q p) (.and (preO (azdq c) (some p)) (Uzw nt rid ops i o id tr K s a k))
    |_=>.no)
  |none=>.no
 |none=>.no
def runO (s:St)(t:T R):Ob:=
 if azoi o then az5s P nt rid ops i o id tr K s t
 else if azok o then az5t P nt ops i o id tr K s t
 else azmx P nt rid ops i o id tr K s (unT o t).1 (cvT (rid * 1000+i) (unT o t).2).1 (cvT (rid * 1000+i) (unT o t).2).2
def az61 (s:St)(t:T R):Ob:=if oza nt o.dst then K (s.putD o.dst (.tup [])) (tr++[⟨o.dst,yzk ops o,id,.tup [],[],[]⟩]) t else .no
def opO (s:St)(t:T R):Ob:=
 match dzi ops s o with
 | .run=>runO P nt rid ops i o id tr K s t
 | .skip=>az61 nt ops o id tr K s t
 | .bad=>.no
 | .ask q b a=>match t with
   | .br e d f=>.and (.eq b e) (.and (.imp (e=true) (if a then runO P nt rid ops i o id tr K (s.put q .tt) d else az61 nt ops o id tr K (s.put q .tt) d)) (.imp (e=false) (if a then az61 nt ops o id tr K (s.put q .ff) f else runO P nt rid ops i o id tr K (s.put q .ff) f)))
   | .known true d=>.and (.eq b true) (if a then runO P nt rid ops i o id tr K (s.put q .tt) d else az61 nt ops o id tr K (s.put q .tt) d)
   | .known false d=>.and (.eq b false) (if a then az61 nt ops o id tr K (s.put q .ff) d else runO P nt rid ops i o id tr K (s.put q .ff) d)
   |_=>.no
end
def az87 {R:Type}:(i:Nat)->List Oper->(id:Nat)->St->List Eff->T R->(St->List Eff->T R->Ob)->Ob
 |_,[],_,s,tr,t,K=>K s tr t
 |i,o::a,id,s,tr,t,K=>az3l t λt=>opO P nt rid ops i o id tr (λs tr t=>az87 (i+1) a (id+64) s tr t K) s t
end
def finT {R:Type}(t:T R)(s:St):Option (R×St):=
 match t with
 | .ret r=>some (r,s)
 | .retW l r=>some (r,s.weak l)
 |_=>none
def closeX (_:Mem)(_:Nat):Option (Res×Nat×Res):=none
def azjo:Res->Bool
 | .vec ..=>true
 |_=>false
def Wzb (m:Mem):List AVal->Option (List AVal×Nat×Res)
 |[]=>none
 | .vec k::b=>match m.get k with
   |some (.vec sz n f _ e)=>some (.pure (.lst sz n f)::b,k,.vec sz n f n e)
   |_=>none
 |a::b=>match Wzb m b with
  |some (c,k,y)=>some (a::c,k,y)
  |none=>none
def azj9 (_:Mem)(_:Nat):Option (Res×Nat×Res):=none
def closeU (m:Mem)(i:Nat)(b:Bool):Option (Res×Nat×Nat×Nat):=
 match m.get i with
 |some (.vecU sz n f k e off a j ((h,kk)::o))=>match m.get kk with
  |some (.vec d l g 0 c)=>if d=a&&c=j then(if b then some (.vecU sz n (hz0 f h off (.lst a l g)) (k+1) e off a j o,kk,h,k)
   else some (.vecU sz n (hz0 f h off (.lst a l g)) k e off a j o,kk,k,n))else none
  |_=>none
 |_=>none
def azm0 (h:Nat):List (Nat×Nat)->Prop->Prop
 |[],p=>p
 |x::a,p=>x.1≠h/\azm0 h a p
def openU (m:Mem)(i h a:Nat):Option (Res×Res×Prop):=
 match m.get i with
 |some (.vecU sz n f k e off c d j)=>match(f h).cells[off]? with
  |some (.lst b l g)=>if b=c then some (.vecU sz n f k e off c d (j++[(h,a)]),.vec c l g 0 d,azm0 h j (h<k))else none
  |_=>none
 |_=>none
def grdO {R:Type}(p:Prop)(t:T R)(K:T R->Ob):Ob:=
 match t with
 |@T.grd _ a _ k=>.imp a (.and (.eq p a) (K k))
 | .ok a _ k=>.and (.eq p a) (K k)
 |_=>.no
def cnvU {R:Type}(i:Nat)(c:Conv)(s:St)(t:T R)(K:T R->St->Ob):Ob:=
 match s.mem.get i with
 |some x=>(match c with
  | .res none r a _=>if Res.lt s.nx a then .and (.eq x r) (K t {s with mem:=(i,a)::s.mem})else .no
  | .res (some p) r a _=>if Res.lt s.nx a then .and (.eq x r) (grdO p t λt=>K t {s with mem:=(i,a)::s.mem})else .no
  |_=>.no)
 |none=>.no
def azhm {R:Type}(t:T R)(s:St)(K:T R->St->Ob):Ob:=
 match t with
 | .gst 0 i h _ a=>match openU s.mem i h s.nx with
   |some (x,y,p)=>grdO p a λt=>K t {s with mem:=(i,x)::(s.nx,y)::s.mem,nx:=s.nx+64}
   |none=>.no
 | .gst 3 i _ c a=>cnvU i c s a K
 |t=>K t s
def opnO {R:Type}(t:T R)(s:St)(K:T R->St->Ob):Ob:=azhm t s λt s=>azhm t s K
def cloK {R:Type}(i kk:Nat)(x:Res)(c:Conv)(s:St)(t:T R)(K:T R->St->Ob):Ob:=
 match c with
 | .none=>K t {s with mem:=(i,x)::(kk,.gone)::s.mem}
 | .res none r a _=>if Res.lt s.nx a then .and (.eq x r) (K t {s with mem:=(i,a)::(kk,.gone)::s.mem})else .no
 |_=>.no
def cloU {R:Type}(q i:Nat)(c:Conv)(s:St)(t:T R)(K:T R->St->Ob):Ob:=
 match closeU s.mem i (q==2)with
 |some (x,kk,a,b)=>if q==2 then grdO (a=b) t λt=>cloK i kk x c s t K else .and (.eq a b) (cloK i kk x c s t K)
 |none=>.no
def finU {R:Type}(t:T R)(s:St)(K:T R->St->Ob):Ob:=
 match t with
 | .gst 3 i _ c t=>cnvU i c s t K
 | .gst (q+1) i _ c t=>cloU (q+1) i c s t K
 |t=>K t s
def azbk {R:Type}(t:T R)(s:St)(K:T R->St->Ob):Ob:=
 match t with
 | .clo i c t=>match c with
   | .none=>match azj9 s.mem i with
     |some (x,k,y)=>azbk t {s with mem:=(i,x)::(k,y)::s.mem} K
     |none=>.no
   | .res a r b _=>match closeX s.mem i with
     |some (x,k,y)=>if azjo b then .and (.eq x r) (.and (preO a none) (azbk t {s with mem:=(i,b)::(k,y)::s.mem} K))else .no
     |none=>.no
   |_=>.no
 |t=>K t s
def finO {R:Type}(t:T R)(s:St)(K:T R->St->Ob):Ob:=finU t s λt s=>finU t s λt s=>finU t s λt s=>azbk t s K
def Mz3 {R:Type}(a:T R->St->(Ex->T R->St->Ob)->Ob):Nat->T R->St->(Ex->T R->St->Ob)->Ob
 |0,_,_,_=>.no
 |k+1,t,s,K=>a t s λe t s=>match e with
  | .normal=>Mz3 a k t s K
  |e=>K e t s
section
variable (P:qo) (nt n0:Nat) (drawOk:List Oper->List Eff->Bool)
def okO {σ:Type}(I:σ->St):Ob:=.all λx=>.and (.eq (I x).ok true) (.eq (decide (n0<=(I x).nx)) true)
def vcT:Code->{R:Type}->T R->St->(Ex->T R->St->Ob)->Ob
 | .skip,_,t,s,K=>K .normal t s
 | .label _,_,t,s,K=>K .normal t s
 | .region v ops o,_,t,s,K=>opnO t s λt s=>match(if o then none else nzq ops.toList)with
   |some (l,x)=>az87 P nt v ops.toList 0 l s.nx s [] t λi _ m=>match bzz i x with
    | .func f a b=>K .normal m {i with df:=.func f a b::i.df,nx:=s.nx+64 * ops.toList.length}
    |_=>.no
   |none=>az87 P nt v ops.toList 0 ops.toList s.nx s [] t λi tr m=>
    if !o||drawOk ops.toList tr then K .normal m {i with nx:=s.nx+64 * ops.toList.length}else .no
 | .seq a b,_,t,s,K=>match t with
   | .cut 0 J body k=>.and (okO n0 (J s)) (.and (vcT a body s (λe t' s'=>finO t' s' λt' s'=>match finT t' s' with
    |some (.out y,s'')=>if Hz3 e then entO n0 s'' (J s y)else .no
    |some (.fin r,s'')=>if Hz3 e then .no else K e (.ret r) s''
    |_=>.no)) (.all λy=>vcT b (k y) (J s y) K))
   | .cut (d+1) J body k=>vcT a (.cut d J body k) s λe t s=>match e with
     | .normal=>vcT b t s K
     |e=>K e t s
   |t=>vcT a t s λe t s=>match e with
    | .normal=>vcT b t s K
    |e=>K e t s
 | .cond c a b,_,t,s,K=>match bzz s c with
   | .tt=>vcT a t s K
   | .ff=>vcT b t s K
   | .anyb=>match t with
     | .both p z=>.and (.all λN:Nat=>.eq (T.run N p) (T.run N z)) (.and (vcT a p s K) (vcT b z s K))
     |t=>.and (vcT a t s K) (vcT b t s K)
   | .pure (.bool x)=>match t with
     | .br w p z=>.and (.eq x w) (.and (.imp (w=true) (vcT a p s K)) (.imp (w=false) (vcT b z s K)))
     | .known true p=>.and (.eq x true) (vcT a p s K)
     | .known false p=>.and (.eq x false) (vcT b p s K)
     |_=>.no
   |_=>.no
 | .block id g,_,t,s,K=>vcT g t s λe t s=>match e with
   | .exit j=>if j=id then K .normal t s else K (.exit j) t s
   |e=>K e t s
 | .loop body,_,t,s,K=>match t with
   | .unroll n t=>Mz3 (vcT body) n t s K
   | .loop I e J bodyT x0 l k=>.and (okO n0 (I s)) (.and (okO n0 (J s)) (.and (entO n0 (s.weak l) (I s x0)) (.and
    (.all λx=>vcT body (bodyT x) (I s x) λe' t' s'=>finO t' s' λt' s'=>match finT t' s' with
     |some (.next x',s'')=>if Hz3 e' then entO n0 s'' (I s x')else .no
     |some (.out y,s'')=>if exEq e' e&& !Hz3 e' then entO n0 s'' (J s y)else .no
     |some (.fin r,s'')=>if Hz3 e' then .no else K e' (.ret r) s''
     |_=>.no) (.all λy=>az3l (k y) λt=>K e t (J s y)))))
   |_=>.no
 | .scope g,_,t,s,K=>vcT g t s K
 | .exit id,_,t,s,K=>K (.exit id) t s
 | .ret,_,t,s,K=>K .ret t s
 |_,_,_,_,_=>.no
end
theorem azd3 {a:Nat}{σ:Type}{I:σ->St}(h:(okO a I).holds)(x:σ):(I x).ok=true/\a<=(I x).nx:=by
 obtain⟨b,c⟩:=h x;exact⟨b,of_decide_eq_true c⟩
theorem az8l {X:Cx}{F:Cells}{w:qn}{ρ:Env}{a:Act}{s:St}{i k:Nat}{x y o:Res}(C:closeX s.mem i=some (x,k,y))(_:azjo o=true)(_:RSub x o)(_:Sat X F w ρ s a)(_:s.ok=true):
 ∃F',Sat X F' w ρ {s with mem:=(i,o)::(k,y)::s.mem} a/\({s with mem:=(i,o)::(k,y)::s.mem}:St).ok=true:=by cases (show none=some _ from C)
theorem azbo {F F':Cells}{w:qn}{ρ:Env}{Mine:Nat->Prop}{M:Mem}:∀ {d c:List AVal} {k:Nat} {y:Res},Wzb M d=some (c,k,y)->
 ∃sz n f sh e,M.get k=some (.vec sz n f sh e)/\y=.vec sz n f n e/\c.length=d.length/\(PRel F' w (.lst sz n f) (gzs (ρ.vec k))->∀ (j:Nat) (g:AVal),c[j]?=some g->∃a,d[j]?=some a/\∀v,ARel F' w ρ a v->ARel F' w ρ g v)/\
  ∀b,AVal.ltL b d=true->AVal.ltL b c=true
 |[],_,_,_,h=>by simp[Wzb]at h
 |a::d,c,k,y,h=>by
  have tail:∀ {a:AVal},(match Wzb M d with|some (c,k,y)=>some (a::c,k,y)|none=>none)=some (c,k,y)->∃sz n f sh e,M.get k=some (.vec sz n f sh e)/\y=.vec sz n f n e/\c.length=(a::d).length/\(PRel F' w (.lst sz n f) (gzs (ρ.vec k))->∀ (j:Nat) (g:AVal),c[j]?=some g->∃m,(a::d)[j]?=some m/\∀v,ARel F' w ρ m v->ARel F' w ρ g v)/\
   ∀b,AVal.ltL b (a::d)=true->AVal.ltL b c=true:=by
   intro a h;split at h
   ·rename_i u z D q;cases h;obtain⟨sz,n,f,sh,e,r,s,x,B,A⟩:=azbo (F:=F) (F':=F') (w:=w) (ρ:=ρ) (Mine:=Mine) q;refine⟨sz,n,f,sh,e,r,s,jt,λo j g l=>?_,λb i=>?_⟩;all_goals grind[AVal.ltL]
   grind
  cases a with
  |vec C=>
   simp only[Wzb]at h;split at h
   ·rename_i sz n f sh e p;cases h;refine⟨sz,n,f,sh,e,p,rfl,rfl,λo j g l=>?_,λb i=>?_⟩
    ·cases j with
     |zero=>
      simp at l;subst l;refine⟨_,rfl,λv t=>.pure ?_⟩;have:v=gzs (ρ.vec k):=by
       cases t with
       |vnil h=>rw[h];rfl
       |vec h=>rw[h];rfl
      simp_all
     |succ j=>simp_all
    ·simp only[AVal.ltL,qm]at i⊢;exact⟨rfl,i.2⟩
   grind
  |_=>exact tail (by simpa only[Wzb]using h)
theorem az1p {b i:Nat}{r:Res}:∀ {m:Mem},hzt b m=true->m.get i=some r->Res.lt b r=true
 |[],_,h=>by simp[Mem.get]at h
 |(j,q)::m,h,a=>by
  simp only[hzt,qm,qf]at h;rw[Mem.get]at a;split at a
  ·cases a;exact h.1.2
  ·exact az1p h.2 a
theorem az8k {X:Cx}{F:Cells}{w:qn}{ρ:Env}{a:Act}{s:St}{i k:Nat}{x y:Res}(G:azj9 s.mem i=some (x,k,y))(_:Sat X F w ρ s a)(_:s.ok=true):
 ∃F',Sat X F' w ρ {s with mem:=(i,x)::(k,y)::s.mem} a/\({s with mem:=(i,x)::(k,y)::s.mem}:St).ok=true:=by cases (show none=some _ from G)
theorem az4y {N:Nat}{R:Type}{r:R}{p:Prop}{t:T R}{K:T R->Ob}(h:(grdO p t K).holds)(e:t.run N=some r):∃f,p/\(K f).holds/\f.run N=some r:=by
 unfold grdO at h;split at h
 ·rename_i b d k;obtain⟨c,e⟩:=grd_some.1 e;obtain⟨a,g⟩:=h c;have a:p=b:=a
  grind
 ·rename_i b c k;obtain⟨a,g⟩:=h;have a:p=b:=a
  grind[T.run]
 ·exact h.elim
theorem az7g {h:Nat}{p:Prop}:∀ {b:List (Nat×Nat)},azm0 h b p->sz8 b h=false/\p
 |[],a=>⟨rfl,a⟩
 |x::b,a=>by
  obtain⟨d,c⟩:=az7g a.2;exact⟨by rw[Mzy,d];simp[a.1],c⟩
theorem azde {X:Cx}{F:Cells}{w:qn}{ρ:Env}{a:Act}{s:St}{i h:Nat}{x y:Res}{p:Prop}(l:openU s.mem i h s.nx=some (x,y,p))(I:p)(d:Sat X F w ρ s a)(J:s.ok=true)(P:X.n0<=s.nx):
 ∃ρ',Sat X F w ρ' {s with mem:=(i,x)::(s.nx,y)::s.mem,nx:=s.nx+64} a/\({s with mem:=(i,x)::(s.nx,y)::s.mem,nx:=s.nx+64}:St).ok=true:=by
 unfold openU at l;split at l
 ·rename_i sz n f k e off K B v hi;split at l
  ·rename_i A M g j;split at l
   ·rename_i H;subst H;cases l;obtain⟨C,G⟩:=az7g I;have b:=J;simp only[St.ok,qm]at b;have u:s.mem.get s.nx=none:=by
     cases E:s.mem.get s.nx with
     |none=>rfl
     |some r=>have:=(gzn b.1.2 E).1;omega
    obtain⟨z,D⟩:=d.mem.openU hi j G C u (λq r c=>yz8 (qk _) (gzn b.1.2 c).2);have o:∀q,q≠s.nx->(ρ.setVec s.nx z).blk q=ρ.blk q/\(ρ.setVec s.nx z).vec q=ρ.vec q:=λq c=>⟨rfl,by simp[Env.setVec,c]⟩
    refine⟨ρ.setVec s.nx z,⟨d.size,λt=>?_,D,?_,d.good,d.from0,λq c=>?_⟩,?_⟩
    ·refine(d.fr t).mono (λq=>q≠s.nx) (λ_ _ h=>h) (λ_ _ _=>rfl) o (λq c=>?_);have:q=s.nx:=xd λh=>c h
     subst this;exact Oz8 (qk _) (Jzz b.1.1 t)
    ·refine Mz7 (λq=>q≠s.nx) (λ_ _ h=>h) (λ_ _ _=>rfl) o d.df (λq c=>?_);have:q=s.nx:=xd λh=>c h
     subst this;exact zzt (qk _) b.2
    ·obtain⟨O,N⟩:=d.env0 q c
     grind
    ·simp only[St.ok,qm,hzt,qf];have L:Res.lt s.nx (.vecU sz n f k e off A B v)=true:=(gzn b.1.2 hi).2;refine⟨⟨Rzt qa b.1.1,⟨by have:=(gzn b.1.2 hi).1;omega,?_⟩,⟨qa,rfl⟩,Mzv qa b.1.2⟩,uzj qa b.2⟩
     grind[Res.lt]
   simp_all
  simp_all
 simp_all
theorem azay {X:Cx}{N:Nat}{R:Type}{r:R}{w:qn}{F:Cells}{ρ:Env}{a:Act}{K:T R->St->Ob}{i:Nat}{c:Conv}{t:T R}{s:St}(h:(cnvU i c s t K).holds)(C:t.run N=some r)(g:Sat X F w ρ s a)(W:s.ok=true)(P:X.n0<=s.nx):
 ∃D p,(K D p).holds/\D.run N=some r/\Sat X F w ρ p a/\p.ok=true/\X.n0<=p.nx:=by
 unfold cnvU at h;split at h
 ·rename_i x hi;have o:∀e,Res.lt s.nx e=true->RSub x e->Sat X F w ρ {s with mem:=(i,e)::s.mem} a/\({s with mem:=(i,e)::s.mem}:St).ok=true:=by
   intro e u C;have l:=g.mem;have d:∀j q,Mem.get ((i,e)::s.mem) j=some q->∃n,Mem.get s.mem j=some n/\RSub n q:=by
    grind[Mem.get,RSub.refl]
   refine⟨⟨g.size,g.fr,⟨λj q m=>?_,λj q b m A=>?_,λj H q J b m z A B=>?_⟩,g.df,g.good,g.from0,g.env0⟩,?_⟩
   ·obtain⟨n,f,k⟩:=d j q m;exact(k.rel _ _ _ _ (l.ok _ _ f)).1
   ·obtain⟨n,f,k⟩:=d j q m;exact l.mine _ _ _ f ((k.rel _ _ _ _ (l.ok _ _ f)).2 b A)
   ·obtain⟨n,f,k⟩:=d j q m;obtain⟨S,E,I⟩:=d H J z;exact l.disj _ _ _ _ b f E ((k.rel _ _ _ _ (l.ok _ _ f)).2 b A) ((I.rel _ _ _ _ (l.ok _ _ E)).2 b B)
   grind[St.ok,hzt,Az0]
  split at h
  ·rename_i O e v;split at h
   ·rename_i u;obtain⟨y,G⟩:=h;subst y;obtain⟨f,k⟩:=o e u (v trivial)
    grind
   ·exact h.elim
  ·rename_i Q O e v;split at h
   ·rename_i u;obtain⟨y,G⟩:=h;subst y;obtain⟨V,M,U,L⟩:=az4y G C;obtain⟨f,k⟩:=o e u (v M)
    grind
   ·exact h.elim
  ·exact h.elim
 ·exact h.elim
theorem az7i {X:Cx}{N:Nat}{R:Type}{r:R}{w:qn}{F:Cells}{a:Act}{K:T R->St->Ob}{t:T R}{s:St}{ρ:Env}(h:(azhm t s K).holds)(d:t.run N=some r)(g:Sat X F w ρ s a)(j:s.ok=true)(f:X.n0<=s.nx):
 ∃c ρ' b,(K c b).holds/\c.run N=some r/\Sat X F w ρ' b a/\b.ok=true/\X.n0<=b.nx:=by
 unfold azhm at h;split at h
 ·split at h
  ·obtain⟨e,l,k,i⟩:=az4y h (by simpa[T.run]using d)
   grind[azde]
  ·exact h.elim
 ·obtain⟨e,m,q⟩:=azay h (by simpa[T.run]using d) g j f
  grind
 grind
theorem azm3 {X:Cx}{N:Nat}{R:Type}{r:R}{w:qn}{F:Cells}{a:Act}{K:T R->St->Ob}{t:T R}{s:St}{ρ:Env}(h:(opnO t s K).holds)(e:t.run N=some r)(d:Sat X F w ρ s a)(j:s.ok=true)(i:X.n0<=s.nx):
 ∃c ρ' b,(K c b).holds/\c.run N=some r/\Sat X F w ρ' b a/\b.ok=true/\X.n0<=b.nx:=by
 obtain⟨p,l,o,n,k,f,m,g⟩:=az7i h e d j i;exact az7i n k f m g
theorem Wz4 {X:Cx}{F:Cells}{w:qn}{ρ:Env}{a:Act}{s:St}{i kk p q:Nat}{b:Bool}{x v:Res}(o:closeU s.mem i b=some (x,kk,p,q))(A:p=q)(K:Res.lt s.nx v=true)(V:RSub x v)(l:Sat X F w ρ s a)(z:s.ok=true):
 Sat X F w ρ {s with mem:=(i,v)::(kk,.gone)::s.mem} a/\({s with mem:=(i,v)::(kk,.gone)::s.mem}:St).ok=true:=by
 have H:MemOk F w ρ X.Mine ((i,x)::(kk,.gone)::s.mem)/\i<s.nx/\kk<s.nx:=by
  have d:=z;simp only[St.ok,qm]at d;unfold closeU at o;split at o
  ·rename_i sz n f k e off R T h N M hi;split at o
   ·rename_i L U g J t;split at o
    ·rename_i B;simp only[qm,qf]at B;obtain⟨rfl,rfl⟩:=B;split at o
     ·cases o;exact⟨l.mem.closeU hi t (.inr ⟨A,rfl⟩),Az0 d.1.2 hi,Az0 d.1.2 t⟩
     ·cases o;exact⟨l.mem.closeU hi t (.inl ⟨A,rfl⟩),Az0 d.1.2 hi,Az0 d.1.2 t⟩
    simp_all
   simp_all
  simp_all
 obtain⟨r,hi,t⟩:=H;have c:∀j q,Mem.get ((i,v)::(kk,.gone)::s.mem) j=some q->∃u,Mem.get ((i,x)::(kk,.gone)::s.mem) j=some u/\RSub u q:=by
  grind[Mem.get,RSub.refl]
 refine⟨⟨l.size,l.fr,⟨λj q y=>?_,λj q b y E=>?_,λj P q O b y G E D=>?_⟩,l.df,l.good,l.from0,l.env0⟩,?_⟩
 ·obtain⟨u,m,C⟩:=c j q y;exact(C.rel _ _ _ _ (r.ok _ _ m)).1
 ·obtain⟨u,m,C⟩:=c j q y;exact r.mine _ _ _ m ((C.rel _ _ _ _ (r.ok _ _ m)).2 b E)
 ·obtain⟨u,m,C⟩:=c j q y;obtain⟨S,I,Q⟩:=c P O G;exact r.disj _ _ _ _ b m I ((C.rel _ _ _ _ (r.ok _ _ m)).2 b E) ((Q.rel _ _ _ _ (r.ok _ _ I)).2 b D)
 ·simp only[St.ok,qm]at z⊢;simp only[hzt,qm,qf];exact⟨⟨z.1.1,⟨hi,K⟩,⟨t,rfl⟩,z.1.2⟩,z.2⟩
theorem azau {m:Mem}{i kk p q b:Nat}{g:Bool}{x:Res}(a:closeU m i g=some (x,kk,p,q))(j:hzt b m=true):Res.lt b x=true:=by
 unfold closeU at a;split at a
 ·rename_i sz n f k e off l r h c d hi;have o:=az1p j hi
  grind[Res.lt]
 simp_all
theorem azl3 {X:Cx}{N:Nat}{R:Type}{r:R}{w:qn}{ρ:Env}{a:Act}{K:T R->St->Ob}{q i:Nat}{c:Conv}{t:T R}{s:St}{F:Cells}(h:(cloU q i c s t K).holds)(g:t.run N=some r)(n:Sat X F w ρ s a)(v:s.ok=true)(D:X.n0<=s.nx):
 ∃e b,(K e b).holds/\e.run N=some r/\Sat X F w ρ b a/\b.ok=true/\X.n0<=b.nx:=by
 unfold cloU at h;split at h
 ·rename_i x kk p j k;have f:∀t:T R,t.run N=some r->p=j->(cloK i kk x c s t K).holds->∃e b,(K e b).holds/\e.run N=some r/\Sat X F w ρ b a/\b.ok=true/\X.n0<=b.nx:=by
   intro t g u d;unfold cloK at d;split at d
   ·grind[St.ok,Wz4,azau,RSub.refl]
   ·rename_i A y l;split at d
    ·rename_i o;obtain⟨m,C⟩:=d;subst m;obtain⟨B,z⟩:=Wz4 k u o (l trivial) n v
     grind
    ·exact d.elim
   ·exact d.elim
  split at h
  ·grind[az4y]
  ·exact f t g h.1 h.2
 ·exact h.elim
theorem az4s {X:Cx}{N:Nat}{R:Type}{r:R}{w:qn}{ρ:Env}{a:Act}{K:T R->St->Ob}{t:T R}{s:St}{F:Cells}(h:(finU t s K).holds)(d:t.run N=some r)(g:Sat X F w ρ s a)(c:s.ok=true)(e:X.n0<=s.nx):
 ∃f b,(K f b).holds/\f.run N=some r/\Sat X F w ρ b a/\b.ok=true/\X.n0<=b.nx:=by
 unfold finU at h;split at h
 ·exact azay h (by simpa[T.run]using d) g c e
 ·exact azl3 h (by simpa[T.run]using d) g c e
 grind
theorem azg4 {X:Cx}{N:Nat}{R:Type}{r:R}{w:qn}{ρ:Env}{a:Act}{K:T R->St->Ob}:∀ (t:T R) {s:St} {F:Cells},(azbk t s K).holds->t.run N=some r->Sat X F w ρ s a->s.ok=true->X.n0<=s.nx->
 ∃j F' b,(K j b).holds/\j.run N=some r/\Sat X F' w ρ b a/\b.ok=true/\X.n0<=b.nx:=by
 intro t;induction t with
 |clo i c k B=>
  intro s F h g e d f;simp only[azbk]at h;split at h
  ·split at h
   ·grind[az8k,T.run]
   ·exact h.elim
  ·rename_i v q C n;split at h
   ·rename_i x kk y o;split at h
    ·rename_i u;obtain⟨z,m,A⟩:=h;subst z;obtain⟨F',p,l⟩:=az8l o u (n (Yzy m trivial)) e d
     grind[T.run]
    ·exact h.elim
   ·exact h.elim
  ·exact h.elim
 |_=>intro s F h g e d f;exact⟨_,F,s,h,g,e,d,f⟩
theorem Yz2 {X:Cx}{N:Nat}{R:Type}{r:R}{w:qn}{ρ:Env}{a:Act}{K:T R->St->Ob}(t:T R){s:St}{F:Cells}(h:(finO t s K).holds)(p:t.run N=some r)(q:Sat X F w ρ s a)(n:s.ok=true)(m:X.n0<=s.nx):
 ∃c F' b,(K c b).holds/\c.run N=some r/\Sat X F' w ρ b a/\b.ok=true/\X.n0<=b.nx:=by
 obtain⟨E,D,l,i,y,A,x⟩:=az4s h p q n m;obtain⟨C,G,u,e,f,j,B⟩:=az4s l i y A x;obtain⟨d,H,o,z,v,g,k⟩:=az4s u e f j B;exact azg4 d o z v g k
theorem nzv {N:Nat}{R:Type}{t:T R}{s b:St}{r a:R}(h:finT t s=some (a,b))(c:t.run N=some r):a=r:=by
 unfold finT at h
 grind[T.run]
theorem nzw {R:Type}{t:T R}{s b:St}{r:R}(h:finT t s=some (r,b)){X:Cx}{F:Cells}{w:qn}{ρ:Env}{a:Act}(e:Sat X F w ρ s a)(c:s.ok=true)(d:X.n0<=s.nx):
 Sat X F w ρ b a/\b.ok=true/\X.n0<=b.nx:=by
 unfold finT at h;split at h
 ·simp_all
 ·cases h;exact⟨St.weak_sat e,St.weak_ok c,d⟩
 grind
theorem Uz4 {P:qo}{nt:Nat}{ops:List Oper}{hint a:Nat->Option Hint}{K:St->List Eff->Prop}:
 ∀ (c:List Oper) (i id:Nat) (s:St) (tr:List Eff),(∀j,i<=j->hint j=a j)->kz5 P nt ops hint i c id s tr K->kz5 P nt ops a i c id s tr K
 |[],i,id,s,tr,_,h=>h
 |o::c,i,id,s,tr,p,h=>by
  have k:∀s,gzv P a i o id s=gzv P hint i o id s:=λs=>by
   unfold gzv kz4;rw[p i (qk i)]
  have n:=λs tr=>Uz4 (P:=P) (nt:=nt) (ops:=ops) (K:=K) c (i+1) (id+64) s tr (λj q=>p j qa)
  have g:∀ (s:St),(match gzv P hint i o id s with
   |some (out,_)=>if oza nt o.dst&&Izi id out then andO out.obl (kz5 P nt ops hint (i+1) c (id+64) (izt s o out) (tr++[Iz5 ops o id out]) K)else False
   |none=>False)->(match gzv P a i o id s with
   |some (out,_)=>if oza nt o.dst&&Izi id out then andO out.obl (kz5 P nt ops a (i+1) c (id+64) (izt s o out) (tr++[Iz5 ops o id out]) K)else False
   |none=>False):=by
   intro s h;rw[k];split at h
   ·split at h
    ·rename_i m;simp only[m,if_true];rw[andO_iff]at h⊢;exact⟨h.1,n _ _ h.2⟩
    ·exact h.elim
   ·exact h.elim
  have e:∀ (s:St),(if oza nt o.dst then kz5 P nt ops hint (i+1) c (id+64) (s.putD o.dst (.tup [])) (tr++[⟨o.dst,yzk ops o,id,.tup [],[],[]⟩]) K else False)->
   (if oza nt o.dst then kz5 P nt ops a (i+1) c (id+64) (s.putD o.dst (.tup [])) (tr++[⟨o.dst,yzk ops o,id,.tup [],[],[]⟩]) K else False):=by
   intro s h;split at h
   ·rename_i m;simp only[m,if_true];exact n _ _ h
   ·exact h.elim
  simp only[kz5]at h⊢;split at h
  ·exact g s h
  ·exact e s h
  ·exact h.elim
  ·rename_i t b f _;refine⟨λl=>?_,λl=>?_⟩
   ·have:=h.1 l;cases f
    ·exact e _ this
    ·exact g _ this
   ·have:=h.2 l;cases f
    ·exact g _ this
    ·exact e _ this
theorem ozt {P:qo}{h:Hint}(a:h.cv=.none){i:Nat}{o:Oper}{id:Nat}{s:St}:gzv P (λ_=>some h) i o id s=kz4 P (λ_=>some h) i o id s:=by
 unfold gzv;simp only[cvOf,a,Iz3];split
 ·rename_i out b e;rw[e];rfl
 simp_all
def azfb (P:qo)(nt:Nat)(ops:List Oper){R:Type}(N:Nat)(r:R)(i:Nat)(a:List Oper)(id:Nat)(s:St)(tr:List Eff)(K:St->List Eff->T R->Ob):Prop:=
 ∃hint b,T.run N b=some r/\kz5 P nt ops hint i a id s tr (λs tr=>(K s tr b).holds)
section
variable {P:qo} {nt rid:Nat} {ops:List Oper} {R:Type} {N:Nat} {r:R} {K:St->List Eff->T R->Ob} {rest:List Oper} {i:Nat} {o:Oper} {id:Nat} {tr:List Eff} {K':St->List Eff->T R->Ob}
def az3w (P:qo)(nt:Nat)(ops:List Oper){R:Type}(N:Nat)(r:R)(K:St->List Eff->T R->Ob)(a:List Oper)(i:Nat)(o:Oper)(id:Nat)(tr:List Eff)(s:St):Prop:=
 ∃hint b,T.run N b=some r/\(match gzv P hint i o id s with
  |some (out,_)=>if oza nt o.dst&&Izi id out then andO out.obl (kz5 P nt ops hint (i+1) a (id+64) (izt s o out) (tr++[Iz5 ops o id out]) (λs tr=>(K s tr b).holds))else False
  |none=>False)
variable (ih:∀s tr t,(K' s tr t).holds->T.run N t=some r->azfb P nt ops N r (i+1) rest (id+64) s tr K)
include ih
theorem Dzv {s:St}{g:Option Hint}{out a:Out}{b:Bool}(w:gzv P (λ_=>g) i o id s=some (out,b))(v:holds out.obl)(e:a={out with obl:=a.obl}){t:T R}
 (c:(Mzx nt ops o id tr K' s a t).holds) (k:t.run N=some r):az3w P nt ops N r K rest i o id tr s:=by
 have l:Izi id a=Izi id out:=by rw[e];rfl
 have m:izt s o a=izt s o out:=by rw[e];rfl
 have u:Iz5 ops o id a=Iz5 ops o id out:=by rw[e];rfl
 unfold Mzx at c;split at c
 ·obtain⟨hint,h,d,n⟩:=ih _ _ _ c k;refine⟨λj=>if j=i then g else hint j,h,d,?_⟩
  grind[gzv,kz4,andO_iff,Uz4]
 ·exact c.elim
theorem az7f {s:St}{E:Option Hint}{out a:Out}{b:Bool}(p:gzv P (λ_=>E) i o id s=some (out,b))(u:holds out.obl)(m:a={out with obl:=a.obl}):∀ {t:T R},
 (Uzw nt rid ops i o id tr K' s a t).holds->t.run N=some r->az3w P nt ops N r K rest i o id tr s:=by
 intro t;induction t with
 |name j e k=>
  intro c g;simp only[Uzw]at c;split at c
  ·split at c
   ·rename_i kk v B;obtain⟨l,x⟩:=c;have l:v=e:=l;have:=x e;simp only at this;have d:({a with val:=.pure (.int kk e)}:Out)=a:=by grind
    rw[d]at this;exact Dzv ih p u m this (by simpa[T.run]using g)
   ·exact c.elim
  ·exact Dzv ih p u m c g
 |lit j e k=>
  intro c g;simp only[Uzw]at c;split at c
  ·split at c
   ·rename_i kk v B;obtain⟨l,x⟩:=c;have l:v=e:=l;have d:({a with val:=.pure (.int kk e)}:Out)=a:=by grind
    rw[d]at x;exact Dzv ih p u m x (by simpa[T.run]using g)
   ·exact c.elim
  ·exact Dzv ih p u m c g
 |cas j e n t f _ y=>
  intro c g;simp only[Uzw]at c;split at c
  ·split at c
   ·rename_i kk v B;obtain⟨l,w,D⟩:=c;have l:v=e:=l;simp only[T.run]at g;by_cases z:e=n
    ·have w:=w z;have d:({a with val:=.pure (.int kk n)}:Out)=a:=by grind
     rw[d]at w;exact Dzv ih p u m w jt
    ·exact y ih (D z) jt
   ·exact c.elim
  ·exact Dzv ih p u m c g
 |stop=>grind[T.run]
 |_=>intro c g;exact Dzv ih p u m c g
theorem az9k {s:St}{t:T R}(h:(az5s P nt rid ops i o id tr K' s t).holds)(hr:t.run N=some r):az3w P nt ops N r K rest i o id tr s:=by
 unfold az5s at h;split at h
 ·rename_i α c σ k;split at h
  ·rename_i f as hc;obtain⟨h1,h2⟩:=h;simp only[T.run]at hr;obtain⟨y,hy,hr⟩:=Option.bind_eq_some_iff.1 hr;have h2:=h2 y hy;split at h2
   ·rename_i out b hs;exact az7f ih ((ozt rfl).trans hs) (azfo P hc hy h1 hs) rfl h2 hr
   ·exact h2.elim
  ·exact h.elim
 ·exact h.elim
theorem az9l {s:St}{t:T R}(h:(az5t P nt ops i o id tr K' s t).holds)(a:t.run N=some r):az3w P nt ops N r K rest i o id tr s:=by
 unfold az5t at h;split at h
 ·rename_i p d m u;simp only[T.run]at a;by_cases g:p
  ·have h:=h.1 g;rw[qg g]at a;split at h
   ·rename_i out b f;split at h
    ·rename_i q c;obtain⟨e,j⟩:=h;have e:q=p:=e;exact Dzv ih ((ozt rfl).trans f) (by rw[c];show q;simp_all) rfl j a
    ·rename_i c;exact Dzv ih ((ozt rfl).trans f) (by rw[c];trivial) rfl h a
   ·exact h.elim
  ·have h:=h.2 g;rw[qh g]at a;split at h
   ·rename_i out b f;split at h
    ·rename_i q c;obtain⟨e,j⟩:=h;have e:q=¬p:=e;exact Dzv ih ((ozt rfl).trans f) (by rw[c];show q;simp_all) rfl j a
    ·rename_i c;exact Dzv ih ((ozt rfl).trans f) (by rw[c];trivial) rfl h a
   ·exact h.elim
 ·exact h.elim
theorem azi5 {s:St}{m:Nat}{c:Conv}{t:T R}(h:(azmx P nt rid ops i o id tr K' s m c t).holds)(f:t.run N=some r):az3w P nt ops N r K rest i o id tr s:=by
 unfold azmx at h;split at h
 ·rename_i out b G;split at h
  ·rename_i a H;obtain⟨C,g⟩:=h;have e:holds out.obl->holds (azdq c)->∀t:T R,(Uzw nt rid ops i o id tr K' s a t).holds->t.run N=some r->az3w P nt ops N r K rest i o id tr s:=by
    intro B j t E f;have z:gzv P (λ_=>some (opH m c)) i o id s=some ({a with obl:=Xzh c out},b):=by
     grind[gzv,cvOf,opH]
    refine az7f ih z ?_ rfl E f;have:=azl6 C j;cases c with
    |none=>exact B
    |val w p q D=>exact andO_iff.2 ⟨B,this⟩
    |res w p q D=>exact andO_iff.2 ⟨B,this⟩
   split at g
   ·rename_i v;exact e (by rw[v];trivial) (Yzy g.1 trivial) _ g.2 f
   ·rename_i q v;split at g
    ·rename_i p d k;obtain⟨j,f⟩:=grd_some.1 f;obtain⟨l,x,y⟩:=g j;have l:q=p:=l;exact e (by rw[v];show q;simp_all) (Yzy x j) _ y f
    ·rename_i p j k;obtain⟨l,x,y⟩:=g;have l:q=p:=l;exact e (by rw[v];show q;simp_all) (Yzy x j) _ y f
    ·exact g.elim
  ·exact h.elim
 ·exact h.elim
theorem Tzl {s:St}{t:T R}(h:(runO P nt rid ops i o id tr K' s t).holds)(c:t.run N=some r):az3w P nt ops N r K rest i o id tr s:=by
 grind[runO,az9k,az9l,azi5,azl9,aznk]
theorem Lzs {s:St}{t:T R}(h:(az61 nt ops o id tr K' s t).holds)(d:t.run N=some r):
 ∃hint a,T.run N a=some r/\(if oza nt o.dst then kz5 P nt ops hint (i+1) rest (id+64) (s.putD o.dst (.tup [])) (tr++[⟨o.dst,yzk ops o,id,.tup [],[],[]⟩]) (λs tr=>(K s tr a).holds)else False):=by
 unfold az61 at h;split at h
 ·obtain⟨hint,a,c,e⟩:=ih _ _ t h d
  grind
 ·exact h.elim
theorem azp3 {s:St}{t:T R}(h:(opO P nt rid ops i o id tr K' s t).holds)(e:t.run N=some r):azfb P nt ops N r i (o::rest) id s tr K:=by
 unfold azfb;simp only[kz5];unfold opO at h;generalize dzi ops s o=g at h⊢;cases g with
 |run=>exact Tzl ih h e
 |skip=>exact Lzs ih h e
 |bad=>exact h.elim
 |ask q b c=>
  simp only at h⊢;split at h
  ·obtain⟨k,d,m⟩:=h;subst k;cases b with
   |true=>
    have d:=d rfl;cases c with
    |true=>
     obtain⟨hint,l,a,j⟩:=Tzl ih d e
     grind
    |false=>
     obtain⟨hint,l,a,j⟩:=Lzs ih d e
     grind
   |false=>
    have m:=m rfl;cases c with
    |true=>
     obtain⟨hint,l,a,j⟩:=Lzs ih m e
     grind
    |false=>
     obtain⟨hint,l,a,j⟩:=Tzl ih m e
     grind
  ·obtain⟨k,d⟩:=h;have k:b=true:=k;cases c with
   |true=>
    obtain⟨hint,l,a,j⟩:=Tzl ih d e
    grind
   |false=>
    obtain⟨hint,l,a,j⟩:=Lzs ih d e
    grind
  ·obtain⟨k,d⟩:=h;have k:b=false:=k;cases c with
   |true=>
    obtain⟨hint,l,a,j⟩:=Lzs ih d e
    grind
   |false=>
    obtain⟨hint,l,a,j⟩:=Tzl ih d e
    grind
  ·exact h.elim
end
theorem Uz3 {P:qo}{nt c:Nat}{ops:List Oper}{R:Type}{N:Nat}{r:R}{K:St->List Eff->T R->Ob}:
 ∀ (a:List Oper) (i id:Nat) (s:St) (tr:List Eff) (t:T R),(az87 P nt c ops i a id s tr t K).holds->t.run N=some r->azfb P nt ops N r i a id s tr K
 |[],i,id,s,tr,t,h,b=>⟨λ_=>none,t,b,h⟩
 |o::a,i,id,s,tr,t,h,b=>by
  obtain⟨t,h,b⟩:=Wzy t h b;exact azp3 (λs tr t=>Uz3 a (i+1) (id+64) s tr t) h b
end Go.Abs
