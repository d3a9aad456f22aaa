/-
  Tree (a part of a claim: our own text).
-/
import Derived.Test.YtlmicknhpllbdaaGreatDoorYMOb
namespace Go.Abs
inductive Step3 (σ τ R:Type)where
 |next (x:σ)
 |out (y:τ)
 |fin (r:R)
structure CallS (α:Type)where
 P:Program
 f:Tgt
 o:Option α
 k:Nat
 args:List AVal
 m:Mem
 res:α->AVal
 m':α->Mem
 ok:∀y,o=some y->azgv P f k args m (res y) (m' y)
inductive T:Type->Type 1 where
 |ret {R:Type} (r:R):T R
 |retW {R:Type} (l:List Nat) (r:R):T R
 |grd {R:Type} (p:Prop) [d:Decidable p] (k:T R):T R
 |ok {R:Type} (p:Prop) (h:p) (k:T R):T R
 |conv {R:Type} (i:Nat) (c:Conv) (k:T R):T R
 |br {R:Type} (b:Bool) (t f:T R):T R
 |brP {R:Type} (p:Prop) [d:Decidable p] (t f:T R):T R
 |call {R α:Type} (c:CallS α) (σ:List (Nat×Nat)) (k:α->T R):T R
 |name {R:Type} (i:Nat) (e:Int) (k:Int->T R):T R
 |loop {R σ τ:Type} (I:St->σ->St) (e:Ex) (J:St->τ->St) (body:σ->T (Step3 σ τ R)) (x0:σ) (l:List Nat) (k:τ->T R):T R
 |cut {R τ:Type} (d:Nat) (J:St->τ->St) (body:T (Step3 Unit τ R)) (k:τ->T R):T R
 |unroll {R:Type} (n:Nat) (k:T R):T R
 |clo {R:Type} (i:Nat) (c:Conv) (k:T R):T R
 |split {R:Type} (b:Bool) (t f:T R):T R
 |known {R:Type} (b:Bool) (t:T R):T R
 |lit {R:Type} (i:Nat) (n:Int) (k:T R):T R
 |cas {R:Type} (i:Nat) (e n:Int) (t f:T R):T R
 |both {R:Type} (t f:T R):T R
 |gst {R:Type} (q i h:Nat) (c:Conv) (k:T R):T R
 |stop {R:Type}:T R
def pkF (s:St):List Nat->List (Nat×AVal)
 |[]=>[]
 |t::l=>(t,s.get t)::pkF s l
def pkM (m:Mem):List Nat->Mem
 |[]=>[]
 |i::l=>match m.get i with
  |some r=>(i,r)::pkM m l
  |none=>pkM m l
abbrev pk (s:St)(l m:List Nat)(d:List (Nat×AVal))(e:Mem):St:=⟨d++pkF s l,e++pkM s.mem m,s.df,s.nx+64⟩
def iter {σ τ R:Type}(f:σ->Option (Step3 σ τ R)):Nat->σ->Option (τ ⊕ R)
 |0,_=>none
 |n+1,x=>match f x with
  |some (.next a)=>iter f n a
  |some (.out y)=>some (.inl y)
  |some (.fin r)=>some (.inr r)
  |none=>none
def andK {τ R:Type}(o:Option (τ ⊕ R))(k:τ->Option R):Option R:=
 match o with
 |some (.inl y)=>k y
 |some (.inr r)=>some r
 |none=>none
def andC {τ R:Type}(o:Option (Step3 Unit τ R))(k:τ->Option R):Option R:=
 match o with
 |some (.out y)=>k y
 |some (.fin r)=>some r
 |_=>none
def grd {R:Type}(p:Prop)[Decidable p](k:Option R):Option R:=if p then k else none
def T.run (N:Nat):{R:Type}->T R->Option R
 |_,.ret r=>some r
 |_,.retW _ r=>some r
 |_,.ok _ _ k=>k.run N
 |_,.conv _ _ k=>k.run N
 |_,@T.grd _ p d k=>@Go.Abs.grd _ p d (k.run N)
 |_,.br b t f=>bif b then t.run N else f.run N
 |_,@T.brP _ p d t f=>bif @decide p d then t.run N else f.run N
 |_,.call c _ k=>c.o.bind fun y=>(k y).run N
 |_,.name _ e k=>(k e).run N
 |_,.loop _ _ _ a g _ k=>andK (iter (fun x=>(a x).run N) N g) fun y=>(k y).run N
 |_,.cut _ _ a k=>andC (a.run N) fun y=>(k y).run N
 |_,.unroll _ k=>k.run N
 |_,.clo _ _ k=>k.run N
 |_,.split b t f=>bif b then t.run N else f.run N
 |_,.known _ t=>t.run N
 |_,.lit _ _ k=>k.run N
 |_,.cas _ e n t f=>bif e==n then t.run N else f.run N
 |_,.both t _=>t.run N
 |_,.gst _ _ _ _ k=>k.run N
 |_,.stop=>none
theorem grd_some {R:Type}{p:Prop}[Decidable p]{k:Option R}{r:R}:grd p k=some r↔p/\k=some r:=by
 grind[grd]
def exEq:Ex->Ex->Bool
 | .normal,.normal=>true
 | .ret,.ret=>true
 | .exit a,.exit b=>decide (a=b)
 |_,_=>false
theorem azd9 {a b:Ex}(h:exEq a b=true):a=b:=by
 cases a<;>cases b<;>simp_all [exEq]
def Dzt:Ex->Bool
 | .normal=>true
 |_=>false
def Zzr {R:Type}(t:T R)(K:T R->Ob):Ob:=
 match t with
 | .split b t f=>.and (.imp (b=true) (Zzr t K)) (.imp (b=false) (Zzr f K))
 | .stop=>.tru
 |t=>K t
theorem Tzx {R:Type}{N:Nat}{r:R}{K:T R->Ob}:∀ (t:T R),(Zzr t K).holds->t.run N=some r->∃e,(K e).holds/\e.run N=some r:=by
 intro t
 induction t with
 |split b t f d c=>
  intro h a
  cases b with
  |true=>exact d (h.1 rfl) a
  |false=>exact c (h.2 rfl) a
 |stop=>grind[T.run]
 |_=>intro h a;exact⟨_,h,a⟩
def azfs (o:Oper):Bool:=
 match o.op with
 | .call c=>match c.callee with
   | .value _=>true
   | .invoke _ _=>true
   |_=>false
 |_=>false
def azfu (o:Oper):Bool:=
 match o.op with
 | .next _ true=>true
 |_=>false
def azg5 (k:Nat):Hint:=⟨[],k,[],[],.any,[],.none⟩
def azft (o:Oper):Bool:=
 match o.op with
 | .makeSlice _ _ _=>true
 | .slice _ _ _ _ _=>true
 | .binOp a _ _ y _=>Vzk a y
 |_=>false
def azc8 (o:Oper)(n:Nat):Nat:=
 match o.op with
 | .alloc _=>if 1000≤n then n-999 else 0
 | .buildSlice _ _ _=>if n=1000 then 1 else 0
 | .store _ _ _=>if n=998 then 1 else if 1100≤n then n-1098 else 0
 | .load _ _=>if 1100≤n then n-1098 else 0
 | .call c=>match c.callee with
   | .builtin .append=>if n=1002 then 1 else 0
   |_=>0
 |_=>0
def unT {R:Type}(o:Oper)(t:T R):Nat×T R:=
 if azft o then(match t with
  | .unroll n a=>(n,a)
  |t=>(0,t))else(match t with
  | .unroll n a=>if azc8 o n=0 then(0,.unroll n a)else(azc8 o n,a)
  |t=>(0,t))
theorem azf1 {R:Type}{N:Nat}(o:Oper)(t:T R):(unT o t).2.run N=t.run N:=by
 unfold unT
 grind[T.run]
def cvT {R:Type}(j:Nat)(t:T R):Conv×T R:=
 match t with
 | .conv i c a=>if i=j then(c,a)else(.none,.conv i c a)
 |t=>(.none,t)
theorem azd7 {R:Type}{N j:Nat}(t:T R):(cvT j t).2.run N=t.run N:=by
 unfold cvT
 grind[T.run]
def opH (k:Nat)(c:Conv):Hint:=⟨[],k,[],[],.any,[],c⟩
def azd3 (c:Conv)(out:Out):Ob:=
 match c with
 | .none=>.tru
 | .val _ p _ _=>(match out.val with
   | .pure x=>.eq x p
   | .clip x=>.eq x p
   |_=>.no)
 | .res _ r _ _=>(match out.wr with
   |(_,x)::_=>.eq x r
   |_=>.no)
def az78:Conv->Option Prop
 | .none=>none
 | .val a _ _ _=>a
 | .res a _ _ _=>a
def preO (a b:Option Prop):Ob:=
 match a,b with
 |none,_=>.tru
 |some p,some q=>.eq p q
 |some _,none=>.no
theorem Vzq {a b:Option Prop}(h:(preO a b).holds)(c:holds b):holds a:=by
 unfold preO at h
 split at h
 ·trivial
 ·have h:_=_:=h
  simp_all
 ·exact h.elim
theorem azd4 {c:Conv}{out:Out}(h:(azd3 c out).holds)(b:holds (az78 c)):Oz6 c out:=by
 unfold azd3 at h
 unfold Oz6
 split at h
 ·trivial
 ·split at h
  ·rename_i a;rw[a];exact⟨h,b⟩
  ·rename_i a;rw[a];exact⟨h,b⟩
  ·exact h.elim
 ·split at h
  ·rename_i a;rw[a];exact⟨h,b⟩
  ·exact h.elim
def CallS.hint {a:Type}(c:CallS a)(σ:List (Nat×Nat))(y:a):Hint:=⟨σ,c.k,c.args,c.m,c.res y,c.m' y,.none⟩
section
variable (P:Program) (nt:Nat) (rid:Nat) (ops:List Oper)
def Uz9 (o:Oper)(s:St):Option (Tgt×List AVal):=
 match o.op with
 | .call c=>match c.callee with
   | .value x=>match bzt s x with
     | .func f b d=>some (.fn f,b++c.args.toList.map (bzt s)++d)
     | .yld l=>some (.yld l,c.args.toList.map (bzt s))
     |_=>none
   | .invoke x e=>match bzt s x with
     | .iface t a=>match Gzv P t e with
       |some f=>some (.fn f,a::c.args.toList.map (bzt s))
       |none=>none
     |_=>none
   |_=>none
 |_=>none
def azfc {a:Type}(c:CallS a)(σ:List (Nat×Nat))(f:Tgt)(b:List AVal)(id:Nat)(s:St):Ob:=
 .and (Szt (bz8 s.mem c.args (czl s.mem c.args b).1).1 (AVal.renL (ez0 σ c.k id) c.args)) (.and (subM s.mem (Mem.ren (ez0 σ c.k id) c.m)) (.and (.eq c.P P) (.eq c.f f)))
theorem az8j {t:Type}{c:CallS t}{σ:List (Nat×Nat)}{f:Tgt}{u:List AVal}{i id:Nat}{o:Oper}{s:St}{y:t}{out:Out}{b:Bool}(j:Uz9 P o s=some (f,u))(z:c.o=some y)
 (h:(azfc P c σ f u id s).holds) (d:kzf P (fun _=>some (c.hint σ y)) i o id s=some (out,b)):holds out.obl:=by
 have k:=c.ok y z
 obtain⟨q,m,C,B⟩:=h
 rw[C,B]at k
 unfold Uz9 at j
 unfold kzf at d
 split at j
 ·rename_i E n
  rw[n]at d
  simp only at d
  split at j
  ·rename_i x r
   rw[r]at d
   simp only at d
   split at j
   ·rename_i g p w e
    rw[e]at d
    obtain⟨rfl,rfl⟩:=j
    obtain⟨_,d⟩:=Option.ite_none_right_eq_some.1 d
    cases d;exact⟨nzz q,vze m,k⟩
   ·rename_i l e
    rw[e]at d
    obtain⟨rfl,rfl⟩:=j
    obtain⟨_,d⟩:=Option.ite_none_right_eq_some.1 d
    cases d;exact⟨nzz q,vze m,k⟩
   simp_all
  ·rename_i x v r
   rw[r]at d
   simp only at d
   split at j
   ·rename_i D a e
    rw[e]at d
    split at j
    ·rename_i g A
     obtain⟨rfl,rfl⟩:=j
     simp only[CallS.hint,A]at d
     obtain⟨_,d⟩:=Option.ite_none_right_eq_some.1 d
     cases d;exact⟨nzz q,vze m,k⟩
    simp_all
   simp_all
  simp_all
 simp_all
section
variable (i:Nat) (o:Oper) (id:Nat) (tr:List Eff) {R:Type} (K:St->List Eff->T R->Ob)
def Jzw (s:St)(out:Out)(t:T R):Ob:=if oz1 nt o.dst&&Fz7 id out then K (izx s o out) (tr++[Ezw ops o id out]) t else .no
def Rzy (s:St)(out:Out)(t:T R):Ob:=
 match t with
 | .name j e k=>if j=rid * 1000+i then(match out.val with
   | .pure (.int kk b)=>.and (.eq b e) (.all fun z=>Jzw nt ops o id tr K s {out with val:=.pure (.int kk z)} (k z))
   |_=>.no)else Jzw nt ops o id tr K s out (.name j e k)
 | .lit j e k=>if j=rid * 1000+i then(match out.val with
   | .pure (.int kk b)=>.and (.eq b e) (Jzw nt ops o id tr K s {out with val:=.pure (.int kk e)} k)
   |_=>.no)else Jzw nt ops o id tr K s out (.lit j e k)
 | .cas j e n t f=>if j=rid * 1000+i then(match out.val with
   | .pure (.int kk b)=>.and (.eq b e) (.and (.imp (e=n) (Jzw nt ops o id tr K s {out with val:=.pure (.int kk n)} t)) (.imp (¬e=n) (Rzy s out f)))
   |_=>.no)else Jzw nt ops o id tr K s out (.cas j e n t f)
 | .stop=>.tru
 |t=>Jzw nt ops o id tr K s out t
def az1k (s:St)(t:T R):Ob:=
 match t with
 | .call c σ k=>match Uz9 P o s with
   |some (f,as)=>.and (azfc P c σ f as id s) (.all fun y=>.imp (c.o=some y) (match kzf P (fun _=>some (c.hint σ y)) i o id s with
    |some (out,_)=>Rzy nt rid ops i o id tr K s out (k y)
    |none=>.no))
   |none=>.no
 |_=>.no
def az1l (s:St)(t:T R):Ob:=
 match t with
 |@T.brP _ p _ a b=>.and (.imp p (match kzf P (fun _=>some (azg5 1)) i o id s with
  |some (out,_)=>(match out.obl with
   |some q=>.and (.eq q p) (Jzw nt ops o id tr K s out a)
   |none=>Jzw nt ops o id tr K s out a)
  |none=>.no)) (.imp (¬p) (match kzf P (fun _=>some (azg5 0)) i o id s with
  |some (out,_)=>(match out.obl with
   |some q=>.and (.eq q (¬p)) (Jzw nt ops o id tr K s out b)
   |none=>Jzw nt ops o id tr K s out b)
  |none=>.no))
 |_=>.no
def azef (s:St)(m:Nat)(c:Conv)(t:T R):Ob:=
 match kzf P (fun _=>some (opH m c)) i o id s with
 |some (out,_)=>match Ezt c out with
  |some a=>.and (azd3 c out) (match out.obl with
   |none=>.and (preO (az78 c) none) (Rzy nt rid ops i o id tr K s a t)
   |some q=>match t with
    |@T.grd _ p _ k=>.imp p (.and (.eq q p) (.and (preO (az78 c) (some p)) (Rzy nt rid ops i o id tr K s a k)))
    | .ok p _ k=>.and (.eq q p) (.and (preO (az78 c) (some p)) (Rzy nt rid ops i o id tr K s a k))
    |_=>.no)
  |none=>.no
 |none=>.no
def runO (s:St)(t:T R):Ob:=
 if azfs o then az1k P nt rid ops i o id tr K s t
 else if azfu o then az1l P nt ops i o id tr K s t
 else azef P nt rid ops i o id tr K s (unT o t).1 (cvT (rid * 1000+i) (unT o t).2).1 (cvT (rid * 1000+i) (unT o t).2).2
def az1u (s:St)(t:T R):Ob:=if oz1 nt o.dst then K (s.putD o.dst (.tup [])) (tr++[⟨o.dst,wzc ops o,id,.tup [],[],[]⟩]) t else .no
def opO (s:St)(t:T R):Ob:=
 match dz4 ops s o with
 | .run=>runO P nt rid ops i o id tr K s t
 | .skip=>az1u nt ops o id tr K s t
 | .bad=>.no
 | .ask q b a=>match t with
   | .br e d f=>.and (.eq b e) (.and (.imp (e=true) (if a then runO P nt rid ops i o id tr K (s.put q .tt) d else az1u nt ops o id tr K (s.put q .tt) d)) (.imp (e=false) (if a then az1u nt ops o id tr K (s.put q .ff) f else runO P nt rid ops i o id tr K (s.put q .ff) f)))
   | .known true d=>.and (.eq b true) (if a then runO P nt rid ops i o id tr K (s.put q .tt) d else az1u nt ops o id tr K (s.put q .tt) d)
   | .known false d=>.and (.eq b false) (if a then az1u nt ops o id tr K (s.put q .ff) d else runO P nt rid ops i o id tr K (s.put q .ff) d)
   |_=>.no
end
def az3f {R:Type}:(i:Nat)->List Oper->(id:Nat)->St->List Eff->T R->(St->List Eff->T R->Ob)->Ob
 |_,[],_,s,tr,t,K=>K s tr t
 |i,o::a,id,s,tr,t,K=>Zzr t fun t=>opO P nt rid ops i o id tr (fun s tr t=>az3f (i+1) a (id+64) s tr t K) s t
end
def finT {R:Type}(t:T R)(s:St):Option (R×St):=
 match t with
 | .ret r=>some (r,s)
 | .retW l r=>some (r,s.weak l)
 |_=>none
def azbs (m:Mem)(i:Nat):Option (Res×Nat×Res):=none
def azc6:Res->Bool
 | .vec ..=>true
 |_=>false
def azbr (m:Mem)(i:Nat):Option (Res×Nat×Res):=none
def closeU (m:Mem)(i:Nat)(b:Bool):Option (Res×Nat×Nat×Nat):=
 match m.get i with
 |some (.vecU sz n f k e off a j ((h,kk)::o))=>match m.get kk with
  |some (.vec d l g 0 c)=>if d=a&&c=j then(if b then some (.vecU sz n (ozs f h off (.lst a l g)) (k+1) e off a j o,kk,h,k)
   else some (.vecU sz n (ozs f h off (.lst a l g)) k e off a j o,kk,k,n))else none
  |_=>none
 |_=>none
def azdy (h:Nat):List (Nat×Nat)->Prop->Prop
 |[],p=>p
 |x::a,p=>x.1≠h/\azdy h a p
def openU (m:Mem)(i h a:Nat):Option (Res×Res×Prop):=
 match m.get i with
 |some (.vecU sz n f k e off c d j)=>match(f h).cells[off]? with
  |some (.lst b l g)=>if b=c then some (.vecU sz n f k e off c d (j++[(h,a)]),.vec c l g 0 d,azdy h j (h<k))else none
  |_=>none
 |_=>none
def grdO {R:Type}(p:Prop)(t:T R)(K:T R->Ob):Ob:=
 match t with
 |@T.grd _ a _ k=>.imp a (.and (.eq p a) (K k))
 | .ok a _ k=>.and (.eq p a) (K k)
 |_=>.no
def cnvU {R:Type}(i:Nat)(c:Conv)(s:St)(t:T R)(K:T R->St->Ob):Ob:=
 match s.mem.get i with
 |some x=>(match c with
  | .res none r a _=>if Res.lt s.nx a then .and (.eq x r) (K t {s with mem:=(i,a)::s.mem})else .no
  | .res (some p) r a _=>if Res.lt s.nx a then .and (.eq x r) (grdO p t fun t=>K t {s with mem:=(i,a)::s.mem})else .no
  |_=>.no)
 |none=>.no
def azac {R:Type}(t:T R)(s:St)(K:T R->St->Ob):Ob:=
 match t with
 | .gst 0 i h _ a=>match openU s.mem i h s.nx with
   |some (x,y,p)=>grdO p a fun t=>K t {s with mem:=(i,x)::(s.nx,y)::s.mem,nx:=s.nx+64}
   |none=>.no
 | .gst 3 i _ c a=>cnvU i c s a K
 |t=>K t s
def opnO {R:Type}(t:T R)(s:St)(K:T R->St->Ob):Ob:=azac t s fun t s=>azac t s K
def cloK {R:Type}(i kk:Nat)(x:Res)(c:Conv)(s:St)(t:T R)(K:T R->St->Ob):Ob:=
 match c with
 | .none=>K t {s with mem:=(i,x)::(kk,.gone)::s.mem}
 | .res none r a _=>if Res.lt s.nx a then .and (.eq x r) (K t {s with mem:=(i,a)::(kk,.gone)::s.mem})else .no
 |_=>.no
def cloU {R:Type}(q i:Nat)(c:Conv)(s:St)(t:T R)(K:T R->St->Ob):Ob:=
 match closeU s.mem i (q==2)with
 |some (x,kk,a,b)=>if q==2 then grdO (a=b) t fun t=>cloK i kk x c s t K else .and (.eq a b) (cloK i kk x c s t K)
 |none=>.no
def finU {R:Type}(t:T R)(s:St)(K:T R->St->Ob):Ob:=
 match t with
 | .gst 3 i _ c t=>cnvU i c s t K
 | .gst (q+1) i _ c t=>cloU (q+1) i c s t K
 |t=>K t s
def az5v {R:Type}(t:T R)(s:St)(K:T R->St->Ob):Ob:=
 match t with
 | .clo i c t=>match c with
   | .none=>match azbr s.mem i with
     |some (x,k,y)=>az5v t {s with mem:=(i,x)::(k,y)::s.mem} K
     |none=>.no
   | .res a r b _=>match azbs s.mem i with
     |some (x,k,y)=>if azc6 b then .and (.eq x r) (.and (preO a none) (az5v t {s with mem:=(i,b)::(k,y)::s.mem} K))else .no
     |none=>.no
   |_=>.no
 |t=>K t s
def finO {R:Type}(t:T R)(s:St)(K:T R->St->Ob):Ob:=finU t s fun t s=>finU t s fun t s=>finU t s fun t s=>az5v t s K
def Izs {R:Type}(a:T R->St->(Ex->T R->St->Ob)->Ob):Nat->T R->St->(Ex->T R->St->Ob)->Ob
 |0,_,_,_=>.no
 |k+1,t,s,K=>a t s fun e t s=>match e with
  | .normal=>Izs a k t s K
  |e=>K e t s
section
variable (P:Program) (nt n0:Nat) (drawOk:List Oper->List Eff->Bool)
def okO {σ:Type}(I:σ->St):Ob:=.all fun x=>.and (.eq (I x).ok true) (.eq (decide (n0≤(I x).nx)) true)
def vcT:Code->{R:Type}->T R->St->(Ex->T R->St->Ob)->Ob
 | .skip,_,t,s,K=>K .normal t s
 | .label _,_,t,s,K=>K .normal t s
 | .region v ops o,_,t,s,K=>opnO t s fun t s=>match(if o then none else nze ops.toList)with
   |some (l,x)=>az3f P nt v ops.toList 0 l s.nx s [] t fun i _ m=>match bzt i x with
    | .func f a b=>K .normal m {i with df:=.func f a b::i.df,nx:=s.nx+64 * ops.toList.length}
    |_=>.no
   |none=>az3f P nt v ops.toList 0 ops.toList s.nx s [] t fun i tr m=>
    if !o||drawOk ops.toList tr then K .normal m {i with nx:=s.nx+64 * ops.toList.length}else .no
 | .seq a b,_,t,s,K=>match t with
   | .cut 0 J body k=>.and (okO n0 (J s)) (.and (vcT a body s (fun e t' s'=>finO t' s' fun t' s'=>match finT t' s' with
    |some (.out y,s'')=>if Dzt e then entO n0 s'' (J s y)else .no
    |some (.fin r,s'')=>if Dzt e then .no else K e (.ret r) s''
    |_=>.no)) (.all fun y=>vcT b (k y) (J s y) K))
   | .cut (d+1) J body k=>vcT a (.cut d J body k) s fun e t s=>match e with
     | .normal=>vcT b t s K
     |e=>K e t s
   |t=>vcT a t s fun e t s=>match e with
    | .normal=>vcT b t s K
    |e=>K e t s
 | .cond c a b,_,t,s,K=>match bzt s c with
   | .tt=>vcT a t s K
   | .ff=>vcT b t s K
   | .anyb=>match t with
     | .both p z=>.and (.all fun N:Nat=>.eq (T.run N p) (T.run N z)) (.and (vcT a p s K) (vcT b z s K))
     |t=>.and (vcT a t s K) (vcT b t s K)
   | .pure (.bool x)=>match t with
     | .br w p z=>.and (.eq x w) (.and (.imp (w=true) (vcT a p s K)) (.imp (w=false) (vcT b z s K)))
     | .known true p=>.and (.eq x true) (vcT a p s K)
     | .known false p=>.and (.eq x false) (vcT b p s K)
     |_=>.no
   |_=>.no
 | .block id g,_,t,s,K=>vcT g t s fun e t s=>match e with
   | .exit j=>if j=id then K .normal t s else K (.exit j) t s
   |e=>K e t s
 | .loop body,_,t,s,K=>match t with
   | .unroll n t=>Izs (vcT body) n t s K
   | .loop I e J bodyT x0 l k=>.and (okO n0 (I s)) (.and (okO n0 (J s)) (.and (entO n0 (s.weak l) (I s x0)) (.and
    (.all fun x=>vcT body (bodyT x) (I s x) fun e' t' s'=>finO t' s' fun t' s'=>match finT t' s' with
     |some (.next x',s'')=>if Dzt e' then entO n0 s'' (I s x')else .no
     |some (.out y,s'')=>if exEq e' e&& !Dzt e' then entO n0 s'' (J s y)else .no
     |some (.fin r,s'')=>if Dzt e' then .no else K e' (.ret r) s''
     |_=>.no) (.all fun y=>Zzr (k y) fun t=>K e t (J s y)))))
   |_=>.no
 | .scope g,_,t,s,K=>vcT g t s K
 | .exit id,_,t,s,K=>K (.exit id) t s
 | .ret,_,t,s,K=>K .ret t s
 |_,_,_,_,_=>.no
end
theorem az6u {a:Nat}{σ:Type}{I:σ->St}(h:(okO a I).holds)(x:σ):(I x).ok=true/\a≤(I x).nx:=by
 obtain⟨b,c⟩:=h x
 exact⟨b,of_decide_eq_true c⟩
theorem az3p {X:Cx}{F:Cells}{w:World}{ρ:Env}{a:Act}{s:St}{i k:Nat}{x y o:Res}(C:azbs s.mem i=some (x,k,y))(N:azc6 o=true)(Q:RSub x o)(d:Sat X F w ρ s a)(r:s.ok=true):
 ∃F',Sat X F' w ρ {s with mem:=(i,o)::(k,y)::s.mem} a/\({s with mem:=(i,o)::(k,y)::s.mem}:St).ok=true:=by cases (show none=some _ from C)
theorem Yz9 {b i:Nat}{r:Res}:∀ {m:Mem},hzw b m=true->m.get i=some r->Res.lt b r=true
 |[],_,h=>by simp[Mem.get]at h
 |(j,q)::m,h,a=>by
  simp only[hzw,Bool.and_eq_true,decide_eq_true_eq]at h
  rw[Mem.get]at a
  split at a
  ·cases a;exact h.1.2
  ·exact Yz9 h.2 a
theorem az3o {X:Cx}{F:Cells}{w:World}{ρ:Env}{a:Act}{s:St}{i k:Nat}{x y:Res}(G:azbr s.mem i=some (x,k,y))(u:Sat X F w ρ s a)(z:s.ok=true):
 ∃F',Sat X F' w ρ {s with mem:=(i,x)::(k,y)::s.mem} a/\({s with mem:=(i,x)::(k,y)::s.mem}:St).ok=true:=by cases (show none=some _ from G)
theorem az0x {N:Nat}{R:Type}{r:R}{p:Prop}{t:T R}{K:T R->Ob}(h:(grdO p t K).holds)(e:t.run N=some r):∃f,p/\(K f).holds/\f.run N=some r:=by
 unfold grdO at h
 split at h
 ·rename_i b d k
  obtain⟨c,e⟩:=grd_some.1 e
  obtain⟨a,g⟩:=h c
  have a:p=b:=a
  grind
 ·rename_i b c k
  obtain⟨a,g⟩:=h
  have a:p=b:=a
  grind[T.run]
 ·exact h.elim
theorem az2y {h:Nat}{p:Prop}:∀ {b:List (Nat×Nat)},azdy h b p->rzk b h=false/\p
 |[],a=>⟨rfl,a⟩
 |x::b,a=>by
  obtain⟨d,c⟩:=az2y a.2
  exact⟨by rw[Jzx,d];simp[a.1],c⟩
theorem az75 {X:Cx}{F:Cells}{w:World}{ρ:Env}{a:Act}{s:St}{i h:Nat}{x y:Res}{p:Prop}(l:openU s.mem i h s.nx=some (x,y,p))(I:p)(d:Sat X F w ρ s a)(J:s.ok=true)(P:X.n0≤s.nx):
 ∃ρ',Sat X F w ρ' {s with mem:=(i,x)::(s.nx,y)::s.mem,nx:=s.nx+64} a/\({s with mem:=(i,x)::(s.nx,y)::s.mem,nx:=s.nx+64}:St).ok=true:=by
 unfold openU at l
 split at l
 ·rename_i sz n f k e off K B v hi
  split at l
  ·rename_i A M g j
   split at l
   ·rename_i H
    subst H
    cases l
    obtain⟨C,G⟩:=az2y I
    have b:=J
    simp only[St.ok,Bool.and_eq_true]at b
    have u:s.mem.get s.nx=none:=by
     cases E:s.mem.get s.nx with
     |none=>rfl
     |some r=>have:=(gz7 b.1.2 E).1;omega
    obtain⟨z,D⟩:=d.mem.openU hi j G C u (fun q r c=>wz1 (Nat.le_refl _) (gz7 b.1.2 c).2)
    have o:∀q,q≠s.nx->(ρ.setVec s.nx z).blk q=ρ.blk q/\(ρ.setVec s.nx z).vec q=ρ.vec q:=fun q c=>⟨rfl,by simp[Env.setVec,c]⟩
    refine⟨ρ.setVec s.nx z,⟨d.size,fun t=>?_,D,?_,d.good,d.from0,fun q c=>?_⟩,?_⟩
    ·refine(d.fr t).mono (fun q=>q≠s.nx) (fun _ _ h=>h) (fun _ _ _=>rfl) o (fun q c=>?_)
     have:q=s.nx:=Classical.byContradiction fun h=>c h
     subst this
     exact Lz7 (Nat.le_refl _) (Gzk b.1.1 t)
    ·refine Izw (fun q=>q≠s.nx) (fun _ _ h=>h) (fun _ _ _=>rfl) o d.df (fun q c=>?_)
     have:q=s.nx:=Classical.byContradiction fun h=>c h
     subst this
     exact xzi (Nat.le_refl _) b.2
    ·obtain⟨O,N⟩:=d.env0 q c
     grind
    ·simp only[St.ok,Bool.and_eq_true,hzw,decide_eq_true_eq]
     have L:Res.lt s.nx (.vecU sz n f k e off A B v)=true:=(gz7 b.1.2 hi).2
     refine⟨⟨Ozo (by omega) b.1.1,⟨by have:=(gz7 b.1.2 hi).1;omega,?_⟩,⟨by omega,rfl⟩,Jzu (by omega) b.1.2⟩,tzb (by omega) b.2⟩
     grind[Res.lt]
   simp_all
  simp_all
 simp_all
theorem az5f {X:Cx}{N:Nat}{R:Type}{r:R}{w:World}{F:Cells}{ρ:Env}{a:Act}{K:T R->St->Ob}{i:Nat}{c:Conv}{t:T R}{s:St}(h:(cnvU i c s t K).holds)(C:t.run N=some r)(g:Sat X F w ρ s a)(W:s.ok=true)(P:X.n0≤s.nx):
 ∃D p,(K D p).holds/\D.run N=some r/\Sat X F w ρ p a/\p.ok=true/\X.n0≤p.nx:=by
 unfold cnvU at h
 split at h
 ·rename_i x hi
  have o:∀e,Res.lt s.nx e=true->RSub x e->Sat X F w ρ {s with mem:=(i,e)::s.mem} a/\({s with mem:=(i,e)::s.mem}:St).ok=true:=by
   intro e u C
   have l:=g.mem
   have d:∀j q,Mem.get ((i,e)::s.mem) j=some q->∃n,Mem.get s.mem j=some n/\RSub n q:=by
    grind[Mem.get,RSub.refl]
   refine⟨⟨g.size,g.fr,⟨fun j q m=>?_,fun j q b m A=>?_,fun j H q J b m z A B=>?_⟩,g.df,g.good,g.from0,g.env0⟩,?_⟩
   ·obtain⟨n,f,k⟩:=d j q m;exact(k.rel _ _ _ _ (l.ok _ _ f)).1
   ·obtain⟨n,f,k⟩:=d j q m;exact l.mine _ _ _ f ((k.rel _ _ _ _ (l.ok _ _ f)).2 b A)
   ·obtain⟨n,f,k⟩:=d j q m
    obtain⟨S,E,I⟩:=d H J z
    exact l.disj _ _ _ _ b f E ((k.rel _ _ _ _ (l.ok _ _ f)).2 b A) ((I.rel _ _ _ _ (l.ok _ _ E)).2 b B)
   grind[St.ok,hzw,xzo]
  split at h
  ·rename_i O e v
   split at h
   ·rename_i u
    obtain⟨y,G⟩:=h
    subst y
    obtain⟨f,k⟩:=o e u (v trivial)
    grind
   ·exact h.elim
  ·rename_i Q O e v
   split at h
   ·rename_i u
    obtain⟨y,G⟩:=h
    subst y
    obtain⟨V,M,U,L⟩:=az0x G C
    obtain⟨f,k⟩:=o e u (v M)
    grind
   ·exact h.elim
  ·exact h.elim
 ·exact h.elim
theorem az2z {X:Cx}{N:Nat}{R:Type}{r:R}{w:World}{F:Cells}{a:Act}{K:T R->St->Ob}{t:T R}{s:St}{ρ:Env}(h:(azac t s K).holds)(d:t.run N=some r)(g:Sat X F w ρ s a)(j:s.ok=true)(f:X.n0≤s.nx):
 ∃c ρ' b,(K c b).holds/\c.run N=some r/\Sat X F w ρ' b a/\b.ok=true/\X.n0≤b.nx:=by
 unfold azac at h
 split at h
 ·split at h
  ·obtain⟨e,l,k,i⟩:=az0x h (by simpa[T.run]using d)
   grind[az75]
  ·exact h.elim
 ·obtain⟨e,m,q⟩:=az5f h (by simpa[T.run]using d) g j f
  grind
 grind
theorem aze0 {X:Cx}{N:Nat}{R:Type}{r:R}{w:World}{F:Cells}{a:Act}{K:T R->St->Ob}{t:T R}{s:St}{ρ:Env}(h:(opnO t s K).holds)(e:t.run N=some r)(d:Sat X F w ρ s a)(j:s.ok=true)(i:X.n0≤s.nx):
 ∃c ρ' b,(K c b).holds/\c.run N=some r/\Sat X F w ρ' b a/\b.ok=true/\X.n0≤b.nx:=by
 obtain⟨p,l,o,n,k,f,m,g⟩:=az2z h e d j i
 exact az2z n k f m g
theorem Tz6 {X:Cx}{F:Cells}{w:World}{ρ:Env}{a:Act}{s:St}{i kk p q:Nat}{b:Bool}{x v:Res}(o:closeU s.mem i b=some (x,kk,p,q))(A:p=q)(K:Res.lt s.nx v=true)(V:RSub x v)(l:Sat X F w ρ s a)(z:s.ok=true):
 Sat X F w ρ {s with mem:=(i,v)::(kk,.gone)::s.mem} a/\({s with mem:=(i,v)::(kk,.gone)::s.mem}:St).ok=true:=by
 have H:MemOk F w ρ X.Mine ((i,x)::(kk,.gone)::s.mem)/\i<s.nx/\kk<s.nx:=by
  have d:=z
  simp only[St.ok,Bool.and_eq_true]at d
  unfold closeU at o
  split at o
  ·rename_i sz n f k e off R T h N M hi
   split at o
   ·rename_i L U g J t
    split at o
    ·rename_i B
     simp only[Bool.and_eq_true,decide_eq_true_eq]at B
     obtain⟨rfl,rfl⟩:=B
     split at o
     ·cases o
      exact⟨l.mem.closeU hi t (.inr ⟨A,rfl⟩),xzo d.1.2 hi,xzo d.1.2 t⟩
     ·cases o
      exact⟨l.mem.closeU hi t (.inl ⟨A,rfl⟩),xzo d.1.2 hi,xzo d.1.2 t⟩
    simp_all
   simp_all
  simp_all
 obtain⟨r,hi,t⟩:=H
 have c:∀j q,Mem.get ((i,v)::(kk,.gone)::s.mem) j=some q->∃u,Mem.get ((i,x)::(kk,.gone)::s.mem) j=some u/\RSub u q:=by
  grind[Mem.get,RSub.refl]
 refine⟨⟨l.size,l.fr,⟨fun j q y=>?_,fun j q b y E=>?_,fun j P q O b y G E D=>?_⟩,l.df,l.good,l.from0,l.env0⟩,?_⟩
 ·obtain⟨u,m,C⟩:=c j q y;exact(C.rel _ _ _ _ (r.ok _ _ m)).1
 ·obtain⟨u,m,C⟩:=c j q y;exact r.mine _ _ _ m ((C.rel _ _ _ _ (r.ok _ _ m)).2 b E)
 ·obtain⟨u,m,C⟩:=c j q y
  obtain⟨S,I,Q⟩:=c P O G
  exact r.disj _ _ _ _ b m I ((C.rel _ _ _ _ (r.ok _ _ m)).2 b E) ((Q.rel _ _ _ _ (r.ok _ _ I)).2 b D)
 ·simp only[St.ok,Bool.and_eq_true]at z⊢
  simp only[hzw,Bool.and_eq_true,decide_eq_true_eq]
  exact⟨⟨z.1.1,⟨hi,K⟩,⟨t,rfl⟩,z.1.2⟩,z.2⟩
theorem az5d {m:Mem}{i kk p q b:Nat}{g:Bool}{x:Res}(a:closeU m i g=some (x,kk,p,q))(j:hzw b m=true):Res.lt b x=true:=by
 unfold closeU at a
 split at a
 ·rename_i sz n f k e off l r h c d hi
  have o:=Yz9 j hi
  grind[Res.lt]
 simp_all
theorem azd2 {X:Cx}{N:Nat}{R:Type}{r:R}{w:World}{ρ:Env}{a:Act}{K:T R->St->Ob}{q i:Nat}{c:Conv}{t:T R}{s:St}{F:Cells}(h:(cloU q i c s t K).holds)(g:t.run N=some r)(n:Sat X F w ρ s a)(v:s.ok=true)(D:X.n0≤s.nx):
 ∃e b,(K e b).holds/\e.run N=some r/\Sat X F w ρ b a/\b.ok=true/\X.n0≤b.nx:=by
 unfold cloU at h
 split at h
 ·rename_i x kk p j k
  have f:∀t:T R,t.run N=some r->p=j->(cloK i kk x c s t K).holds->∃e b,(K e b).holds/\e.run N=some r/\Sat X F w ρ b a/\b.ok=true/\X.n0≤b.nx:=by
   intro t g u d
   unfold cloK at d
   split at d
   ·grind[St.ok,Tz6,az5d,RSub.refl]
   ·rename_i A y l
    split at d
    ·rename_i o
     obtain⟨m,C⟩:=d
     subst m
     obtain⟨B,z⟩:=Tz6 k u o (l trivial) n v
     grind
    ·exact d.elim
   ·exact d.elim
  split at h
  ·grind[az0x]
  ·exact f t g h.1 h.2
 ·exact h.elim
theorem az0u {X:Cx}{N:Nat}{R:Type}{r:R}{w:World}{ρ:Env}{a:Act}{K:T R->St->Ob}{t:T R}{s:St}{F:Cells}(h:(finU t s K).holds)(d:t.run N=some r)(g:Sat X F w ρ s a)(c:s.ok=true)(e:X.n0≤s.nx):
 ∃f b,(K f b).holds/\f.run N=some r/\Sat X F w ρ b a/\b.ok=true/\X.n0≤b.nx:=by
 unfold finU at h
 split at h
 ·exact az5f h (by simpa[T.run]using d) g c e
 ·exact azd2 h (by simpa[T.run]using d) g c e
 grind
theorem az8u {X:Cx}{N:Nat}{R:Type}{r:R}{w:World}{ρ:Env}{a:Act}{K:T R->St->Ob}:∀ (t:T R) {s:St} {F:Cells},(az5v t s K).holds->t.run N=some r->Sat X F w ρ s a->s.ok=true->X.n0≤s.nx->
 ∃j F' b,(K j b).holds/\j.run N=some r/\Sat X F' w ρ b a/\b.ok=true/\X.n0≤b.nx:=by
 intro t
 induction t with
 |clo i c k B=>
  intro s F h g e d f
  simp only[az5v]at h
  split at h
  ·split at h
   ·grind[az3o,T.run]
   ·exact h.elim
  ·rename_i v q C n
   split at h
   ·rename_i x kk y o
    split at h
    ·rename_i u
     obtain⟨z,m,A⟩:=h
     subst z
     obtain⟨F',p,l⟩:=az3p o u (n (Vzq m trivial)) e d
     grind[T.run]
    ·exact h.elim
   ·exact h.elim
  ·exact h.elim
 |_=>intro s F h g e d f;exact⟨_,F,s,h,g,e,d,f⟩
theorem Uzz {X:Cx}{N:Nat}{R:Type}{r:R}{w:World}{ρ:Env}{a:Act}{K:T R->St->Ob}(t:T R){s:St}{F:Cells}(h:(finO t s K).holds)(p:t.run N=some r)(q:Sat X F w ρ s a)(n:s.ok=true)(m:X.n0≤s.nx):
 ∃c F' b,(K c b).holds/\c.run N=some r/\Sat X F' w ρ b a/\b.ok=true/\X.n0≤b.nx:=by
 obtain⟨E,D,l,i,y,A,x⟩:=az0u h p q n m
 obtain⟨C,G,u,e,f,j,B⟩:=az0u l i y A x
 obtain⟨d,H,o,z,v,g,k⟩:=az0u u e f j B
 exact az8u d o z v g k
theorem nzk {N:Nat}{R:Type}{t:T R}{s b:St}{r a:R}(h:finT t s=some (a,b))(c:t.run N=some r):a=r:=by
 unfold finT at h
 grind[T.run]
theorem nzl {R:Type}{t:T R}{s b:St}{r:R}(h:finT t s=some (r,b)){X:Cx}{F:Cells}{w:World}{ρ:Env}{a:Act}(e:Sat X F w ρ s a)(c:s.ok=true)(d:X.n0≤s.nx):
 Sat X F w ρ b a/\b.ok=true/\X.n0≤b.nx:=by
 unfold finT at h
 split at h
 ·simp_all
 ·cases h;exact⟨St.weak_sat e,St.weak_ok c,d⟩
 grind
theorem Rz4 {P:Program}{nt:Nat}{ops:List Oper}{hint a:Nat->Option Hint}{K:St->List Eff->Prop}:
 ∀ (c:List Oper) (i id:Nat) (s:St) (tr:List Eff),(∀j,i≤j->hint j=a j)->kzg P nt ops hint i c id s tr K->kzg P nt ops a i c id s tr K
 |[],i,id,s,tr,_,h=>h
 |o::c,i,id,s,tr,p,h=>by
  have k:∀s,gzj P a i o id s=gzj P hint i o id s:=fun s=>by
   unfold gzj kzf;rw[p i (Nat.le_refl i)]
  have n:=fun s tr=>Rz4 (P:=P) (nt:=nt) (ops:=ops) (K:=K) c (i+1) (id+64) s tr (fun j q=>p j (by omega))
  have g:∀ (s:St),(match gzj P hint i o id s with
   |some (out,_)=>if oz1 nt o.dst&&Fz7 id out then andO out.obl (kzg P nt ops hint (i+1) c (id+64) (izx s o out) (tr++[Ezw ops o id out]) K)else False
   |none=>False)->(match gzj P a i o id s with
   |some (out,_)=>if oz1 nt o.dst&&Fz7 id out then andO out.obl (kzg P nt ops a (i+1) c (id+64) (izx s o out) (tr++[Ezw ops o id out]) K)else False
   |none=>False):=by
   intro s h
   rw[k]
   split at h
   ·split at h
    ·rename_i m;simp only[m,if_true];rw[andO_iff]at h⊢;exact⟨h.1,n _ _ h.2⟩
    ·exact h.elim
   ·exact h.elim
  have e:∀ (s:St),(if oz1 nt o.dst then kzg P nt ops hint (i+1) c (id+64) (s.putD o.dst (.tup [])) (tr++[⟨o.dst,wzc ops o,id,.tup [],[],[]⟩]) K else False)->
   (if oz1 nt o.dst then kzg P nt ops a (i+1) c (id+64) (s.putD o.dst (.tup [])) (tr++[⟨o.dst,wzc ops o,id,.tup [],[],[]⟩]) K else False):=by
   intro s h
   split at h
   ·rename_i m;simp only[m,if_true];exact n _ _ h
   ·exact h.elim
  simp only[kzg]at h⊢
  split at h
  ·exact g s h
  ·exact e s h
  ·exact h.elim
  ·rename_i t b f _
   refine⟨fun l=>?_,fun l=>?_⟩
   ·have:=h.1 l
    cases f
    ·exact e _ this
    ·exact g _ this
   ·have:=h.2 l
    cases f
    ·exact g _ this
    ·exact e _ this
theorem ozk {P:Program}{h:Hint}(a:h.cv=.none){i:Nat}{o:Oper}{id:Nat}{s:St}:gzj P (fun _=>some h) i o id s=kzf P (fun _=>some h) i o id s:=by
 unfold gzj
 simp only[cvOf,a,Ezt]
 split
 ·rename_i out b e;rw[e];rfl
 simp_all
def az8b (P:Program)(nt:Nat)(ops:List Oper){R:Type}(N:Nat)(r:R)(i:Nat)(a:List Oper)(id:Nat)(s:St)(tr:List Eff)(K:St->List Eff->T R->Ob):Prop:=
 ∃hint b,T.run N b=some r/\kzg P nt ops hint i a id s tr (fun s tr=>(K s tr b).holds)
section
variable {P:Program} {nt rid:Nat} {ops:List Oper} {R:Type} {N:Nat} {r:R} {K:St->List Eff->T R->Ob} {rest:List Oper} {i:Nat} {o:Oper} {id:Nat} {tr:List Eff} {K':St->List Eff->T R->Ob}
def az00 (P:Program)(nt:Nat)(ops:List Oper){R:Type}(N:Nat)(r:R)(K:St->List Eff->T R->Ob)(a:List Oper)(i:Nat)(o:Oper)(id:Nat)(tr:List Eff)(s:St):Prop:=
 ∃hint b,T.run N b=some r/\(match gzj P hint i o id s with
  |some (out,_)=>if oz1 nt o.dst&&Fz7 id out then andO out.obl (kzg P nt ops hint (i+1) a (id+64) (izx s o out) (tr++[Ezw ops o id out]) (fun s tr=>(K s tr b).holds))else False
  |none=>False)
variable (ih:∀s tr t,(K' s tr t).holds->T.run N t=some r->az8b P nt ops N r (i+1) rest (id+64) s tr K)
include ih
theorem Bz2 {s:St}{g:Option Hint}{out a:Out}{b:Bool}(w:gzj P (fun _=>g) i o id s=some (out,b))(v:holds out.obl)(e:a={out with obl:=a.obl}){t:T R}
 (c:(Jzw nt ops o id tr K' s a t).holds) (k:t.run N=some r):az00 P nt ops N r K rest i o id tr s:=by
 have l:Fz7 id a=Fz7 id out:=by rw[e];rfl
 have m:izx s o a=izx s o out:=by rw[e];rfl
 have u:Ezw ops o id a=Ezw ops o id out:=by rw[e];rfl
 unfold Jzw at c
 split at c
 ·obtain⟨hint,h,d,n⟩:=ih _ _ _ c k
  refine⟨fun j=>if j=i then g else hint j,h,d,?_⟩
  grind[gzj,kzf,andO_iff,Rz4]
 ·exact c.elim
theorem az2x {s:St}{E:Option Hint}{out a:Out}{b:Bool}(p:gzj P (fun _=>E) i o id s=some (out,b))(u:holds out.obl)(m:a={out with obl:=a.obl}):∀ {t:T R},
 (Rzy nt rid ops i o id tr K' s a t).holds->t.run N=some r->az00 P nt ops N r K rest i o id tr s:=by
 intro t
 induction t with
 |name j e k=>
  intro c g
  simp only[Rzy]at c
  split at c
  ·split at c
   ·rename_i kk v B
    obtain⟨l,x⟩:=c
    have l:v=e:=l
    have:=x e
    simp only at this
    have d:({a with val:=.pure (.int kk e)}:Out)=a:=by grind
    rw[d]at this
    exact Bz2 ih p u m this (by simpa[T.run]using g)
   ·exact c.elim
  ·exact Bz2 ih p u m c g
 |lit j e k=>
  intro c g
  simp only[Rzy]at c
  split at c
  ·split at c
   ·rename_i kk v B
    obtain⟨l,x⟩:=c
    have l:v=e:=l
    have d:({a with val:=.pure (.int kk e)}:Out)=a:=by grind
    rw[d]at x
    exact Bz2 ih p u m x (by simpa[T.run]using g)
   ·exact c.elim
  ·exact Bz2 ih p u m c g
 |cas j e n t f _ y=>
  intro c g
  simp only[Rzy]at c
  split at c
  ·split at c
   ·rename_i kk v B
    obtain⟨l,w,D⟩:=c
    have l:v=e:=l
    simp only[T.run]at g
    by_cases z:e=n
    ·have w:=w z
     have d:({a with val:=.pure (.int kk n)}:Out)=a:=by grind
     rw[d]at w
     exact Bz2 ih p u m w (by grind)
    ·exact y ih (D z) (by grind)
   ·exact c.elim
  ·exact Bz2 ih p u m c g
 |stop=>grind[T.run]
 |_=>intro c g;exact Bz2 ih p u m c g
theorem az4a {s:St}{t:T R}(h:(az1k P nt rid ops i o id tr K' s t).holds)(hr:t.run N=some r):az00 P nt ops N r K rest i o id tr s:=by
 unfold az1k at h
 split at h
 ·rename_i α c σ k
  split at h
  ·rename_i f as hc
   obtain⟨h1,h2⟩:=h
   simp only[T.run]at hr
   obtain⟨y,hy,hr⟩:=Option.bind_eq_some_iff.1 hr
   have h2:=h2 y hy
   split at h2
   ·rename_i out b hs
    exact az2x ih ((ozk rfl).trans hs) (az8j P hc hy h1 hs) rfl h2 hr
   ·exact h2.elim
  ·exact h.elim
 ·exact h.elim
theorem az4b {s:St}{t:T R}(h:(az1l P nt ops i o id tr K' s t).holds)(a:t.run N=some r):az00 P nt ops N r K rest i o id tr s:=by
 unfold az1l at h
 split at h
 ·rename_i p d m u
  simp only[T.run]at a
  by_cases g:p
  ·have h:=h.1 g
   rw[decide_eq_true g]at a
   split at h
   ·rename_i out b f
    split at h
    ·rename_i q c
     obtain⟨e,j⟩:=h
     have e:q=p:=e
     exact Bz2 ih ((ozk rfl).trans f) (by rw[c];show q;simp_all) rfl j a
    ·rename_i c;exact Bz2 ih ((ozk rfl).trans f) (by rw[c];trivial) rfl h a
   ·exact h.elim
  ·have h:=h.2 g
   rw[decide_eq_false g]at a
   split at h
   ·rename_i out b f
    split at h
    ·rename_i q c
     obtain⟨e,j⟩:=h
     have e:q=¬p:=e
     exact Bz2 ih ((ozk rfl).trans f) (by rw[c];show q;simp_all) rfl j a
    ·rename_i c;exact Bz2 ih ((ozk rfl).trans f) (by rw[c];trivial) rfl h a
   ·exact h.elim
 ·exact h.elim
theorem azap {s:St}{m:Nat}{c:Conv}{t:T R}(h:(azef P nt rid ops i o id tr K' s m c t).holds)(f:t.run N=some r):az00 P nt ops N r K rest i o id tr s:=by
 unfold azef at h
 split at h
 ·rename_i out b G
  split at h
  ·rename_i a H
   obtain⟨C,g⟩:=h
   have e:holds out.obl->holds (az78 c)->∀t:T R,(Rzy nt rid ops i o id tr K' s a t).holds->t.run N=some r->az00 P nt ops N r K rest i o id tr s:=by
    intro B j t E f
    have z:gzj P (fun _=>some (opH m c)) i o id s=some ({a with obl:=Uzf c out},b):=by
     grind[gzj,cvOf,opH]
    refine az2x ih z ?_ rfl E f
    have:=azd4 C j
    cases c with
    |none=>exact B
    |val w p q D=>exact andO_iff.2 ⟨B,this⟩
    |res w p q D=>exact andO_iff.2 ⟨B,this⟩
   split at g
   ·rename_i v;exact e (by rw[v];trivial) (Vzq g.1 trivial) _ g.2 f
   ·rename_i q v
    split at g
    ·rename_i p d k
     obtain⟨j,f⟩:=grd_some.1 f
     obtain⟨l,x,y⟩:=g j
     have l:q=p:=l
     exact e (by rw[v];show q;simp_all) (Vzq x j) _ y f
    ·rename_i p j k
     obtain⟨l,x,y⟩:=g
     have l:q=p:=l
     exact e (by rw[v];show q;simp_all) (Vzq x j) _ y f
    ·exact g.elim
  ·exact h.elim
 ·exact h.elim
theorem Qzd {s:St}{t:T R}(h:(runO P nt rid ops i o id tr K' s t).holds)(c:t.run N=some r):az00 P nt ops N r K rest i o id tr s:=by
 grind[runO,az4a,az4b,azap,azd7,azf1]
theorem Izh {s:St}{t:T R}(h:(az1u nt ops o id tr K' s t).holds)(d:t.run N=some r):
 ∃hint a,T.run N a=some r/\(if oz1 nt o.dst then kzg P nt ops hint (i+1) rest (id+64) (s.putD o.dst (.tup [])) (tr++[⟨o.dst,wzc ops o,id,.tup [],[],[]⟩]) (fun s tr=>(K s tr a).holds)else False):=by
 unfold az1u at h
 split at h
 ·obtain⟨hint,a,c,e⟩:=ih _ _ t h d
  grind
 ·exact h.elim
theorem azg8 {s:St}{t:T R}(h:(opO P nt rid ops i o id tr K' s t).holds)(e:t.run N=some r):az8b P nt ops N r i (o::rest) id s tr K:=by
 unfold az8b
 simp only[kzg]
 unfold opO at h
 generalize dz4 ops s o=g at h⊢
 cases g with
 |run=>exact Qzd ih h e
 |skip=>exact Izh ih h e
 |bad=>exact h.elim
 |ask q b c=>
  simp only at h⊢
  split at h
  ·obtain⟨k,d,m⟩:=h
   subst k
   cases b with
   |true=>
    have d:=d rfl
    cases c with
    |true=>
     obtain⟨hint,l,a,j⟩:=Qzd ih d e
     grind
    |false=>
     obtain⟨hint,l,a,j⟩:=Izh ih d e
     grind
   |false=>
    have m:=m rfl
    cases c with
    |true=>
     obtain⟨hint,l,a,j⟩:=Izh ih m e
     grind
    |false=>
     obtain⟨hint,l,a,j⟩:=Qzd ih m e
     grind
  ·obtain⟨k,d⟩:=h
   have k:b=true:=k
   cases c with
   |true=>
    obtain⟨hint,l,a,j⟩:=Qzd ih d e
    grind
   |false=>
    obtain⟨hint,l,a,j⟩:=Izh ih d e
    grind
  ·obtain⟨k,d⟩:=h
   have k:b=false:=k
   cases c with
   |true=>
    obtain⟨hint,l,a,j⟩:=Izh ih d e
    grind
   |false=>
    obtain⟨hint,l,a,j⟩:=Qzd ih d e
    grind
  ·exact h.elim
end
theorem Rz3 {P:Program}{nt c:Nat}{ops:List Oper}{R:Type}{N:Nat}{r:R}{K:St->List Eff->T R->Ob}:
 ∀ (a:List Oper) (i id:Nat) (s:St) (tr:List Eff) (t:T R),(az3f P nt c ops i a id s tr t K).holds->t.run N=some r->az8b P nt ops N r i a id s tr K
 |[],i,id,s,tr,t,h,b=>⟨fun _=>none,t,b,h⟩
 |o::a,i,id,s,tr,t,h,b=>by
  obtain⟨t,h,b⟩:=Tzx t h b
  exact azg8 (fun s tr t=>Rz3 a (i+1) (id+64) s tr t) h b
end Go.Abs
