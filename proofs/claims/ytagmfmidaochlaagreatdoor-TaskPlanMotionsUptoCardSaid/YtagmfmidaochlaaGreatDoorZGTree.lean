import Derived.Test.YtagmfmidaochlaaGreatDoorZGOb
open Bool renaming true->AD,false->AE
open Option renaming some->Y,none->Z
open Bool renaming and_eq_true->ql
open Classical renaming byContradiction->xK
open Go renaming World->qm,Program->qn
open Nat renaming le_refl->we
open Option renaming ite_none_right_eq_some->jE
namespace Go.Abs
inductive am (σ τ R:Type)where
 |next (x:σ)
 |out (y:τ)
 |fin (r:R)
structure aC (α:Type)where
 P:qn
 f:oA
 o:Option α
 k:Nat
 args:List ac
 m:Mem
 res:α->ac
 m':α->Mem
 ok:∀y,o=Y y->ajS P f k args m (res y) (m' y)
inductive T:Type->Type 1 where
 |ret {R:Type} (r:R):T R
 |retW {R:Type} (l:List Nat) (r:R):T R
 |grd {R:Type} (p:Prop) [d:Decidable p] (k:T R):T R
 |ok {R:Type} (p:Prop) (h:p) (k:T R):T R
 |conv {R:Type} (i:Nat) (c:Conv) (k:T R):T R
 |br {R:Type} (b:Bool) (t f:T R):T R
 |brP {R:Type} (p:Prop) [d:Decidable p] (t f:T R):T R
 |call {R α:Type} (c:aC α) (σ:List (Nat×Nat)) (k:α->T R):T R
 |name {R:Type} (i:Nat) (e:Int) (k:Int->T R):T R
 |loop {R σ τ:Type} (I:St->σ->St) (e:Ex) (J:St->τ->St) (body:σ->T (am σ τ R)) (x0:σ) (l:List Nat) (k:τ->T R):T R
 |cut {R τ:Type} (d:Nat) (J:St->τ->St) (body:T (am Unit τ R)) (k:τ->T R):T R
 |unroll {R:Type} (n:Nat) (k:T R):T R
 |clo {R:Type} (i:Nat) (c:Conv) (k:T R):T R
 |split {R:Type} (b:Bool) (t f:T R):T R
 |known {R:Type} (b:Bool) (t:T R):T R
 |lit {R:Type} (i:Nat) (n:Int) (k:T R):T R
 |cas {R:Type} (i:Nat) (e n:Int) (t f:T R):T R
 |both {R:Type} (t f:T R):T R
 |gst {R:Type} (q i h:Nat) (c:Conv) (k:T R):T R
 |stop {R:Type}:T R
def pkF (s:St):List Nat->List (Nat×ac)
 |[]=>[]
 |t::l=>(t,s.get t)::pkF s l
def pkM (m:Mem):List Nat->Mem
 |[]=>[]
 |i::l=>match m.get i with
  |some r=>(i,r)::pkM m l
  |none=>pkM m l
abbrev pk (s:St)(l m:List Nat)(d:List (Nat×ac))(e:Mem):St:=⟨d++pkF s l,e++pkM s.mem m,s.df,s.nx+64⟩
def iter {σ τ R:Type}(f:σ->Option (am σ τ R)):Nat->σ->Option (τ ⊕ R)
 |0,_=>Z
 |n+1,x=>match f x with
  |some (.next a)=>iter f n a
  |some (.out y)=>Y (.inl y)
  |some (.fin r)=>Y (.inr r)
  |none=>Z
def andK {τ R:Type}(o:Option (τ ⊕ R))(k:τ->Option R):Option R:=
 match o with
 |some (.inl y)=>k y
 |some (.inr r)=>Y r
 |none=>Z
def andC {τ R:Type}(o:Option (am Unit τ R))(k:τ->Option R):Option R:=
 match o with
 |some (.out y)=>k y
 |some (.fin r)=>Y r
 |_=>Z
def grd {R:Type}(p:Prop)[Decidable p](k:Option R):Option R:=if p then k else Z
def T.run (N:Nat):{R:Type}->T R->Option R
 |_,.ret r=>Y r
 |_,.retW _ r=>Y r
 |_,.ok _ _ k=>k.run N
 |_,.conv _ _ k=>k.run N
 |_,@T.grd _ p d k=>@Go.Abs.grd _ p d (k.run N)
 |_,.br b t f=>bif b then t.run N else f.run N
 |_,@T.brP _ p d t f=>bif @decide p d then t.run N else f.run N
 |_,.call c _ k=>c.o.bind λy=>(k y).run N
 |_,.name _ e k=>(k e).run N
 |_,.loop _ _ _ a g _ k=>andK (iter (λx=>(a x).run N) N g) λy=>(k y).run N
 |_,.cut _ _ a k=>andC (a.run N) λy=>(k y).run N
 |_,.unroll _ k=>k.run N
 |_,.clo _ _ k=>k.run N
 |_,.split b t f=>bif b then t.run N else f.run N
 |_,.known _ t=>t.run N
 |_,.lit _ _ k=>k.run N
 |_,.cas _ e n t f=>bif e==n then t.run N else f.run N
 |_,.both t _=>t.run N
 |_,.gst _ _ _ _ k=>k.run N
 |_,.stop=>Z
variable {p:Prop}
theorem grd_some{R:Type}[Decidable p]{k:Option R}{r:R}:grd p k=Y r↔p/\k=Y r:=by grind[grd]
theorem an{R:Type}[Decidable p]{k:Option R}(h:p):grd p k=k:=by unfold grd;grind
def exEq:Ex->Ex->Bool
 | .normal,.normal=>AD
 | .ret,.ret=>AD
 | .exit a,.exit b=>decide (a=b)
 |_,_=>AE
theorem ahN {a b:Ex}(h:exEq a b=AD):a=b:=by cases a<;>cases b<;>simp_all [exEq]
def gB:Ex->Bool
 | .normal=>AD
 |_=>AE
def oX {R:Type}(t:T R)(K:T R->Ob):Ob:=
 match t with
 | .split b t f=>.and (.imp (b=AD) (oX t K)) (.imp (b=AE) (oX f K))
 | .stop=>.tru
 |t=>K t
theorem Rw {R:Type}{N:Nat}{r:R}{K:T R->Ob}:∀ (t:T R),(oX t K).holds->t.run N=Y r->∃e,(K e).holds/\e.run N=Y r:=by
 intro t;induction t with
 |split b t f d c=>
  intro h a;cases b with
  |true=>exact d (h.1 rfl) a
  |false=>exact c (h.2 rfl) a
 |stop=>grind[T.run]
 |_=>intro h a;exact⟨_,h,a⟩
def aj6 (o:Oper):Bool:=
 match o.op with
 | .call c=>match c.callee with
   | .value _=>AD
   | .invoke _ _=>AD
   |_=>AE
 |_=>AE
def aj8 (o:Oper):Bool:=
 match o.op with
 | .next _ AD=>AD
 |_=>AE
def Vb (k:Nat):Hint:=⟨[],k,[],[],.any,[],.none⟩
def aj7 (o:Oper):Bool:=
 match o.op with
 | .makeSlice _ _ _=>AD
 | .slice _ _ _ _ _=>AD
 | .binOp a _ _ y _=>tK a y
 |_=>AE
def UC (o:Oper)(n:Nat):Nat:=
 match o.op with
 | .alloc _=>if 1000<=n then n-999 else 0
 | .buildSlice _ _ _=>if n=1000 then 1 else 0
 | .store _ _ _=>if n=998 then 1 else if 1100<=n then n-1098 else 0
 | .load _ _=>if 1100<=n then n-1098 else 0
 | .call c=>match c.callee with
   | .builtin .append=>if n=1002 then 1 else 0
   |_=>0
 |_=>0
def unT {R:Type}(o:Oper)(t:T R):Nat×T R:=
 if aj7 o then(match t with
  | .unroll n a=>(n,a)
  |t=>(0,t))else(match t with
  | .unroll n a=>if UC o n=0 then(0,.unroll n a)else(UC o n,a)
  |t=>(0,t))
theorem aiH {R:Type}{N:Nat}(o:Oper)(t:T R):(unT o t).2.run N=t.run N:=by unfold unT;grind[T.run]
def cvT {R:Type}(j:Nat)(t:T R):Conv×T R:=
 match t with
 | .conv i c a=>if i=j then(c,a)else(.none,.conv i c a)
 |t=>(.none,t)
theorem ahL {R:Type}{N j:Nat}(t:T R):(cvT j t).2.run N=t.run N:=by unfold cvT;grind[T.run]
def opH (k:Nat)(c:Conv):Hint:=⟨[],k,[],[],.any,[],c⟩
def HN (c:Conv)(out:Out):Ob:=
 match c with
 | .none=>.tru
 | .val _ p _ _=>(match out.val with
   | .pure x=>.eq x p
   | .clip x=>.eq x p
   |_=>.no)
 | .res _ r _ _=>(match out.wr with
   |(_,x)::_=>.eq x r
   |_=>.no)
def ph:Conv->Option Prop
 | .none=>Z
 | .val a _ _ _=>a
 | .res a _ _ _=>a
def preO (a b:Option Prop):Ob:=
 match a,b with
 |none,_=>.tru
 |some p,Y q=>.eq p q
 |some _,Z=>.no
theorem tN {a b:Option Prop}(h:(preO a b).holds)(c:holds b):holds a:=by
 unfold preO at h;split at h;{trivial}
 ·have h:_=_:=h;simp_all
 exact h.elim
variable {c:Conv}
theorem ahH{out:Out}(h:(HN c out).holds)(b:holds (ph c)):oD c out:=by
 unfold HN at h;unfold oD;split at h;{trivial}
 ·split at h;{rename_i a;rw[a];exact⟨h,b⟩};{rename_i a;rw[a];exact⟨h,b⟩};exact h.elim
 split at h;{rename_i a;rw[a];exact⟨h,b⟩};exact h.elim
def aC.hint {a:Type}(c:aC a)(σ:List (Nat×Nat))(y:a):Hint:=⟨σ,c.k,c.args,c.m,c.res y,c.m' y,.none⟩
section
variable (P:qn) (nt:Nat) (rid:Nat) (ops:List Oper)
def F5 (o:Oper)(s:St):Option (oA×List ac):=
 match o.op with
 | .call c=>match c.callee with
   | .value x=>match aD s x with
     | .func f b d=>Y (.fn f,b++c.args.toList.map (aD s)++d)
     | .yld l=>Y (.yld l,c.args.toList.map (aD s))
     |_=>Z
   | .invoke x e=>match aD s x with
     | .iface t a=>match oy P t e with
       |some f=>Y (.fn f,a::c.args.toList.map (aD s))
       |none=>Z
     |_=>Z
   |_=>Z
 |_=>Z
def UX {a:Type}(c:aC a)(σ:List (Nat×Nat))(f:oA)(b:List ac)(id:Nat)(s:St):Ob:=
 .and (gJ (bT s.mem c.args (cu s.mem c.args b).1).1 (ac.renL (aV σ c.k id) c.args)) (.and (subM s.mem (Mem.ren (aV σ c.k id) c.m)) (.and (.eq c.P P) (.eq c.f f)))
theorem afD {t:Type}{c:aC t}{σ:List (Nat×Nat)}{f:oA}{u:List ac}{i id:Nat}{o:Oper}{s:St}{y:t}{out:Out}{b:Bool}(j:F5 P o s=Y (f,u))(z:c.o=Y y)
 (h:(UX P c σ f u id s).holds) (d:eM P (λ_=>Y (c.hint σ y)) i o id s=Y (out,b)):holds out.obl:=by
 have k:=c.ok y z;obtain⟨q,m,C,B⟩:=h;rw[C,B]at k;unfold F5 at j;unfold eM at d;split at j
 ·rename_i E n;rw[n]at d;simp only at d;split at j
  ·rename_i x r;rw[r]at d;simp only at d;split at j;{rename_i g p w e;rw[e]at d;obtain⟨rfl,rfl⟩:=j;obtain⟨_,d⟩:=jE.1 d;cases d;exact⟨hH q,gw m,k⟩};{rename_i l e;rw[e]at d;obtain⟨rfl,rfl⟩:=j;obtain⟨_,d⟩:=jE.1 d;cases d;exact⟨hH q,gw m,k⟩};simp_all
  ·rename_i x v r;rw[r]at d;simp only at d;split at j
   ·rename_i D a e;rw[e]at d;split at j;{rename_i g A;obtain⟨rfl,rfl⟩:=j;simp only[aC.hint,A]at d;obtain⟨_,d⟩:=jE.1 d;cases d;exact⟨hH q,gw m,k⟩};simp_all
   simp_all
  simp_all
 simp_all
section
variable (i:Nat) (o:Oper) (id:Nat) (tr:List aG) {R:Type} (K:St->List aG->T R->Ob)
def fp (s:St)(out:Out)(t:T R):Ob:=if c9 nt o.dst&&eF id out then K (dt s o out) (tr++[eD ops o id out]) t else .no
def gI (s:St)(out:Out)(t:T R):Ob:=
 match t with
 | .name j e k=>if j=rid * 1000+i then(match out.val with
   | .pure (.int a b)=>.and (.eq b e) (.all λz=>fp nt ops o id tr K s {out with val:=.pure (.int a z)} (k z))
   |_=>.no)else fp nt ops o id tr K s out (.name j e k)
 | .lit j e k=>if j=rid * 1000+i then(match out.val with
   | .pure (.int a b)=>.and (.eq b e) (fp nt ops o id tr K s {out with val:=.pure (.int a e)} k)
   |_=>.no)else fp nt ops o id tr K s out (.lit j e k)
 | .cas j e n t f=>if j=rid * 1000+i then(match out.val with
   | .pure (.int a b)=>.and (.eq b e) (.and (.imp (e=n) (fp nt ops o id tr K s {out with val:=.pure (.int a n)} t)) (.imp (¬e=n) (gI s out f)))
   |_=>.no)else fp nt ops o id tr K s out (.cas j e n t f)
 | .stop=>.tru
 |t=>fp nt ops o id tr K s out t
def Hh (s:St)(t:T R):Ob:=
 match t with
 | .call c σ k=>match F5 P o s with
   |some (f,as)=>.and (UX P c σ f as id s) (.all λy=>.imp (c.o=Y y) (match eM P (λ_=>Y (c.hint σ y)) i o id s with
    |some (out,_)=>gI nt rid ops i o id tr K s out (k y)
    |none=>.no))
   |none=>.no
 |_=>.no
def Hj (s:St)(t:T R):Ob:=
 match t with
 |@T.brP _ p _ a b=>.and (.imp p (match eM P (λ_=>Y (Vb 1)) i o id s with
  |some (out,_)=>(match out.obl with
   |some q=>.and (.eq q p) (fp nt ops o id tr K s out a)
   |none=>fp nt ops o id tr K s out a)
  |none=>.no)) (.imp (¬p) (match eM P (λ_=>Y (Vb 0)) i o id s with
  |some (out,_)=>(match out.obl with
   |some q=>.and (.eq q (¬p)) (fp nt ops o id tr K s out b)
   |none=>fp nt ops o id tr K s out b)
  |none=>.no))
 |_=>.no
def HW (s:St)(m:Nat)(c:Conv)(t:T R):Ob:=
 match eM P (λ_=>Y (opH m c)) i o id s with
 |some (out,_)=>match lf c out with
  |some a=>.and (HN c out) (match out.obl with
   |none=>.and (preO (ph c) Z) (gI nt rid ops i o id tr K s a t)
   |some q=>match t with
    |@T.grd _ p _ k=>.imp p (.and (.eq q p) (.and (preO (ph c) (Y p)) (gI nt rid ops i o id tr K s a k)))
    | .ok p _ k=>.and (.eq q p) (.and (preO (ph c) (Y p)) (gI nt rid ops i o id tr K s a k))
    |_=>.no)
  |none=>.no
 |none=>.no
def runO (s:St)(t:T R):Ob:=
 if aj6 o then Hh P nt rid ops i o id tr K s t
 else if aj8 o then Hj P nt ops i o id tr K s t
 else HW P nt rid ops i o id tr K s (unT o t).1 (cvT (rid * 1000+i) (unT o t).2).1 (cvT (rid * 1000+i) (unT o t).2).2
def lE (s:St)(t:T R):Ob:=if c9 nt o.dst then K (s.putD o.dst (.tup [])) (tr++[⟨o.dst,fj ops o,id,.tup [],[],[]⟩]) t else .no
def opO (s:St)(t:T R):Ob:=
 match cI ops s o with
 | .run=>runO P nt rid ops i o id tr K s t
 | .skip=>lE nt ops o id tr K s t
 | .bad=>.no
 | .ask q b a=>match t with
   | .br e d f=>.and (.eq b e) (.and (.imp (e=AD) (if a then runO P nt rid ops i o id tr K (s.put q .tt) d else lE nt ops o id tr K (s.put q .tt) d)) (.imp (e=AE) (if a then lE nt ops o id tr K (s.put q .ff) f else runO P nt rid ops i o id tr K (s.put q .ff) f)))
   | .known AD d=>.and (.eq b AD) (if a then runO P nt rid ops i o id tr K (s.put q .tt) d else lE nt ops o id tr K (s.put q .tt) d)
   | .known AE d=>.and (.eq b AE) (if a then lE nt ops o id tr K (s.put q .ff) d else runO P nt rid ops i o id tr K (s.put q .ff) d)
   |_=>.no
end
def ub {R:Type}:(i:Nat)->List Oper->(id:Nat)->St->List aG->T R->(St->List aG->T R->Ob)->Ob
 |_,[],_,s,tr,t,K=>K s tr t
 |i,o::a,id,s,tr,t,K=>oX t λt=>opO P nt rid ops i o id tr (λs tr t=>ub (i+1) a (id+64) s tr t K) s t
end
def finT {R:Type}(t:T R)(s:St):Option (R×St):=
 match t with
 | .ret r=>Y (r,s)
 | .retW l r=>Y (r,s.weak l)
 |_=>Z
def Uh (_:Mem)(_:Nat):Option (Res×Nat×Res):=Z
def Uy:Res->Bool
 | .vec ..=>AD
 |_=>AE
def Ug (_:Mem)(_:Nat):Option (Res×Nat×Res):=Z
def closeU (m:Mem)(i:Nat)(b:Bool):Option (Res×Nat×Nat×Nat):=
 match m.get i with
 |some (.vecU x n f k e p a j ((h,w)::o))=>match m.get w with
  |some (.vec d l g 0 c)=>if d=a&&c=j then(if b then Y (.vecU x n (dc f h p (.lst a l g)) (k+1) e p a j o,w,h,k)
   else Y (.vecU x n (dc f h p (.lst a l g)) k e p a j o,w,k,n))else Z
  |_=>Z
 |_=>Z
def HV (h:Nat):List (Nat×Nat)->Prop->Prop
 |[],p=>p
 |x::a,p=>x.1≠h/\HV h a p
def openU (m:Mem)(i h a:Nat):Option (Res×Res×Prop):=
 match m.get i with
 |some (.vecU w n f k e p c d j)=>match(f h).cells[p]? with
  |some (.lst b l g)=>if b=c then Y (.vecU w n f k e p c d (j++[(h,a)]),.vec c l g 0 d,HV h j (h<k))else Z
  |_=>Z
 |_=>Z
def grdO {R:Type}(p:Prop)(t:T R)(K:T R->Ob):Ob:=
 match t with
 |@T.grd _ a _ k=>.imp a (.and (.eq p a) (K k))
 | .ok a _ k=>.and (.eq p a) (K k)
 |_=>.no
def cnvU {R:Type}(i:Nat)(c:Conv)(s:St)(t:T R)(K:T R->St->Ob):Ob:=
 match s.mem.get i with
 |some x=>(match c with
  | .res Z r a _=>if Res.lt s.nx a then .and (.eq x r) (K t {s with mem:=(i,a)::s.mem})else .no
  | .res (Y p) r a _=>if Res.lt s.nx a then .and (.eq x r) (grdO p t λt=>K t {s with mem:=(i,a)::s.mem})else .no
  |_=>.no)
 |none=>.no
def ur {R:Type}(t:T R)(s:St)(K:T R->St->Ob):Ob:=
 match t with
 | .gst 0 i h _ a=>match openU s.mem i h s.nx with
   |some (x,y,p)=>grdO p a λt=>K t {s with mem:=(i,x)::(s.nx,y)::s.mem,nx:=s.nx+64}
   |none=>.no
 | .gst 3 i _ c a=>cnvU i c s a K
 |t=>K t s
def opnO {R:Type}(t:T R)(s:St)(K:T R->St->Ob):Ob:=ur t s λt s=>ur t s K
def cloK {R:Type}(i d:Nat)(x:Res)(c:Conv)(s:St)(t:T R)(K:T R->St->Ob):Ob:=
 match c with
 | .none=>K t {s with mem:=(i,x)::(d,.gone)::s.mem}
 | .res Z r a _=>if Res.lt s.nx a then .and (.eq x r) (K t {s with mem:=(i,a)::(d,.gone)::s.mem})else .no
 |_=>.no
def cloU {R:Type}(q i:Nat)(c:Conv)(s:St)(t:T R)(K:T R->St->Ob):Ob:=
 match closeU s.mem i (q==2)with
 |some (x,d,a,b)=>if q==2 then grdO (a=b) t λt=>cloK i d x c s t K else .and (.eq a b) (cloK i d x c s t K)
 |none=>.no
def finU {R:Type}(t:T R)(s:St)(K:T R->St->Ob):Ob:=
 match t with
 | .gst 3 i _ c t=>cnvU i c s t K
 | .gst (q+1) i _ c t=>cloU (q+1) i c s t K
 |t=>K t s
def o7 {R:Type}(t:T R)(s:St)(K:T R->St->Ob):Ob:=
 match t with
 | .clo i c t=>match c with
   | .none=>match Ug s.mem i with
     |some (x,k,y)=>o7 t {s with mem:=(i,x)::(k,y)::s.mem} K
     |none=>.no
   | .res a r b _=>match Uh s.mem i with
     |some (x,k,y)=>if Uy b then .and (.eq x r) (.and (preO a Z) (o7 t {s with mem:=(i,b)::(k,y)::s.mem} K))else .no
     |none=>.no
   |_=>.no
 |t=>K t s
def finO {R:Type}(t:T R)(s:St)(K:T R->St->Ob):Ob:=finU t s λt s=>finU t s λt s=>finU t s λt s=>o7 t s K
def td {R:Type}(a:T R->St->(Ex->T R->St->Ob)->Ob):Nat->T R->St->(Ex->T R->St->Ob)->Ob
 |0,_,_,_=>.no
 |k+1,t,s,K=>a t s λe t s=>match e with
  | .normal=>td a k t s K
  |e=>K e t s
section
variable (P:qn) (nt n0:Nat) (drawOk:List Oper->List aG->Bool)
def okO {σ:Type}(I:σ->St):Ob:=.all λx=>.and (.eq (I x).ok AD) (.eq (decide (n0<=(I x).nx)) AD)
def vcT:Code->{R:Type}->T R->St->(Ex->T R->St->Ob)->Ob
 | .skip,_,t,s,K=>K .normal t s
 | .label _,_,t,s,K=>K .normal t s
 | .region v ops o,_,t,s,K=>opnO t s λt s=>match(if o then Z else mj ops.toList)with
   |some (l,x)=>ub P nt v ops.toList 0 l s.nx s [] t λi _ m=>match aD i x with
    | .func f a b=>K .normal m {i with df:=.func f a b::i.df,nx:=s.nx+64 * ops.toList.length}
    |_=>.no
   |none=>ub P nt v ops.toList 0 ops.toList s.nx s [] t λi tr m=>
    if !o||drawOk ops.toList tr then K .normal m {i with nx:=s.nx+64 * ops.toList.length}else .no
 | .seq a b,_,t,s,K=>match t with
   | .cut 0 J h k=>.and (okO n0 (J s)) (.and (vcT a h s (λe C B=>finO C B λC B=>match finT C B with
    |some (.out y,A)=>if gB e then entO n0 A (J s y)else .no
    |some (.fin r,A)=>if gB e then .no else K e (.ret r) A
    |_=>.no)) (.all λy=>vcT b (k y) (J s y) K))
   | .cut (d+1) J h k=>vcT a (.cut d J h k) s λe t s=>match e with
     | .normal=>vcT b t s K
     |e=>K e t s
   |t=>vcT a t s λe t s=>match e with
    | .normal=>vcT b t s K
    |e=>K e t s
 | .cond c a b,_,t,s,K=>match aD s c with
   | .tt=>vcT a t s K
   | .ff=>vcT b t s K
   | .anyb=>match t with
     | .both p z=>.and (.all λN:Nat=>.eq (T.run N p) (T.run N z)) (.and (vcT a p s K) (vcT b z s K))
     |t=>.and (vcT a t s K) (vcT b t s K)
   | .pure (.bool x)=>match t with
     | .br w p z=>.and (.eq x w) (.and (.imp (w=AD) (vcT a p s K)) (.imp (w=AE) (vcT b z s K)))
     | .known AD p=>.and (.eq x AD) (vcT a p s K)
     | .known AE p=>.and (.eq x AE) (vcT b p s K)
     |_=>.no
   |_=>.no
 | .block id g,_,t,s,K=>vcT g t s λe t s=>match e with
   | .exit j=>if j=id then K .normal t s else K (.exit j) t s
   |e=>K e t s
 | .loop h,_,t,s,K=>match t with
   | .unroll n t=>td (vcT h) n t s K
   | .loop I e J bodyT G l k=>.and (okO n0 (I s)) (.and (okO n0 (J s)) (.and (entO n0 (s.weak l) (I s G)) (.and
    (.all λx=>vcT h (bodyT x) (I s x) λD C B=>finO C B λC B=>match finT C B with
     |some (.next F,A)=>if gB D then entO n0 A (I s F)else .no
     |some (.out y,A)=>if exEq D e&& !gB D then entO n0 A (J s y)else .no
     |some (.fin r,A)=>if gB D then .no else K D (.ret r) A
     |_=>.no) (.all λy=>oX (k y) λt=>K e t (J s y)))))
   |_=>.no
 | .scope g,_,t,s,K=>vcT g t s K
 | .exit id,_,t,s,K=>K (.exit id) t s
 | .ret,_,t,s,K=>K .ret t s
 |_,_,_,_,_=>.no
end
theorem HC {a:Nat}{σ:Type}{I:σ->St}(h:(okO a I).holds)(x:σ):(I x).ok=AD/\a<=(I x).nx:=by obtain⟨b,c⟩:=h x;exact⟨b,of_decide_eq_true c⟩
variable {X:Cx}{F:Cells}{w:qm}{a:Act}
theorem adl{ρ:Env}{s:St}{i k:Nat}{x y o:Res}(C:Uh s.mem i=Y (x,k,y))(_:Uy o=AD)(_:RSub x o)(_:Sat X F w ρ s a)(_:s.ok=AD):
 ∃c,Sat X c w ρ {s with mem:=(i,o)::(k,y)::s.mem} a/\({s with mem:=(i,o)::(k,y)::s.mem}:St).ok=true:=by cases (show Z=Y _ from C)
theorem R7 {b i:Nat}{r:Res}:∀ {m:Mem},cp b m=true->m.get i=Y r->Res.lt b r=AD
 |[],_,h=>by simp[Mem.get]at h
 |(j,q)::m,h,a=>by
  simp only[cp,ql,qf]at h;rw[Mem.get]at a;split at a;{cases a;exact h.1.2};exact R7 h.2 a
variable {x y:Res}
theorem adk{ρ:Env}{s:St}{i k:Nat}(G:Ug s.mem i=Y (x,k,y))(_:Sat X F w ρ s a)(_:s.ok=AD):
 ∃c,Sat X c w ρ {s with mem:=(i,x)::(k,y)::s.mem} a/\({s with mem:=(i,x)::(k,y)::s.mem}:St).ok=true:=by cases (show Z=Y _ from G)
theorem G8{N:Nat}{R:Type}{r:R}{t:T R}{K:T R->Ob}(h:(grdO p t K).holds)(e:t.run N=Y r):∃f,p/\(K f).holds/\f.run N=Y r:=by
 unfold grdO at h;split at h
 ·rename_i b d k;obtain⟨c,e⟩:=grd_some.1 e;obtain⟨a,g⟩:=h c;have a:p=b:=a;grind
 ·rename_i b c k;obtain⟨a,g⟩:=h;have a:p=b:=a;grind[T.run]
 exact h.elim
theorem S7 {h:Nat}{p:Prop}:∀ {b:List (Nat×Nat)},HV h b p->dn b h=AE/\p
 |[],a=>⟨rfl,a⟩
 |x::b,a=>by
  obtain⟨d,c⟩:=S7 a.2;exact⟨by rw[E1,d];simp[a.1],c⟩
theorem aeV{ρ:Env}{s:St}{i h:Nat}(l:openU s.mem i h s.nx=Y (x,y,p))(I:p)(d:Sat X F w ρ s a)(J:s.ok=AD)(P:X.n0<=s.nx):
 ∃ρ',Sat X F w ρ' {s with mem:=(i,x)::(s.nx,y)::s.mem,nx:=s.nx+64} a/\({s with mem:=(i,x)::(s.nx,y)::s.mem,nx:=s.nx+64}:St).ok=true:=by
 unfold openU at l;split at l
 ·rename_i U n f k e S K B v m;split at l
  ·rename_i A M g j;split at l
   ·rename_i H;subst H;cases l;obtain⟨C,G⟩:=S7 I;have b:=J;simp only[St.ok,ql]at b;have u:s.mem.get s.nx=none:=by
     cases E:s.mem.get s.nx with
     |none=>rfl
     |some r=>have:=(fA b.1.2 E).1;omega
    obtain⟨z,D⟩:=d.mem.openU m j G C u (λq r c=>mC (we _) (fA b.1.2 c).2);have o:∀q,q≠s.nx->(ρ.setVec s.nx z).blk q=ρ.blk q/\(ρ.setVec s.nx z).vec q=ρ.vec q:=λq c=>⟨rfl,by simp[Env.setVec,c]⟩
    refine⟨ρ.setVec s.nx z,⟨d.size,λt=>?_,D,?_,d.good,d.from0,λq c=>?_⟩,?_⟩
    ·refine(d.fr t).mono (λq=>q≠s.nx) (λ_ _ h=>h) (λ_ _ _=>rfl) o (λq c=>?_);have:q=s.nx:=xK λh=>c h
     subst this;exact jl (we _) (ov b.1.1 t)
    ·refine mM (λq=>q≠s.nx) (λ_ _ h=>h) (λ_ _ _=>rfl) o d.df (λq c=>?_);have:q=s.nx:=xK λh=>c h
     subst this;exact h8 (we _) b.2
    ·obtain⟨O,N⟩:=d.env0 q c;grind
    simp only[St.ok,ql,cp,qf];have L:Res.lt s.nx (.vecU U n f k e S A B v)=true:=(fA b.1.2 m).2;refine⟨⟨Fs qa b.1.1,⟨by have:=(fA b.1.2 m).1;omega,?_⟩,⟨qa,rfl⟩,E0 qa b.1.2⟩,kV qa b.2⟩;grind[Res.lt]
   simp_all
  simp_all
 simp_all
theorem TA{N:Nat}{R:Type}{r:R}{ρ:Env}{K:T R->St->Ob}{i:Nat}{t:T R}{s:St}(h:(cnvU i c s t K).holds)(C:t.run N=Y r)(g:Sat X F w ρ s a)(W:s.ok=AD)(P:X.n0<=s.nx):
 ∃D p,(K D p).holds/\D.run N=Y r/\Sat X F w ρ p a/\p.ok=AD/\X.n0<=p.nx:=by
 unfold cnvU at h;split at h
 ·rename_i x hi;have o:∀e,Res.lt s.nx e=true->RSub x e->Sat X F w ρ {s with mem:=(i,e)::s.mem} a/\({s with mem:=(i,e)::s.mem}:St).ok=true:=by
   intro e u C;have l:=g.mem;have d:∀j q,Mem.get ((i,e)::s.mem) j=Y q->∃n,Mem.get s.mem j=Y n/\RSub n q:=by
    grind[Mem.get,RSub.refl]
   refine⟨⟨g.size,g.fr,⟨λj q m=>?_,λj q b m A=>?_,λj H q J b m z A B=>?_⟩,g.df,g.good,g.from0,g.env0⟩,?_⟩;{obtain⟨n,f,k⟩:=d j q m;exact(k.rel _ _ _ _ (l.ok _ _ f)).1};{obtain⟨n,f,k⟩:=d j q m;exact l.mine _ _ _ f ((k.rel _ _ _ _ (l.ok _ _ f)).2 b A)};{obtain⟨n,f,k⟩:=d j q m;obtain⟨S,E,I⟩:=d H J z;exact l.disj _ _ _ _ b f E ((k.rel _ _ _ _ (l.ok _ _ f)).2 b A) ((I.rel _ _ _ _ (l.ok _ _ E)).2 b B)};grind[St.ok,cp,ld]
  split at h
  ·rename_i O e v;split at h
   ·rename_i u;obtain⟨y,G⟩:=h;subst y;obtain⟨f,k⟩:=o e u (v trivial);grind
   exact h.elim
  ·rename_i Q O e v;split at h
   ·rename_i u;obtain⟨y,G⟩:=h;subst y;obtain⟨V,M,U,L⟩:=G8 G C;obtain⟨f,k⟩:=o e u (v M);grind
   exact h.elim
  exact h.elim
 exact h.elim
theorem S8{N:Nat}{R:Type}{r:R}{K:T R->St->Ob}{t:T R}{s:St}{ρ:Env}(h:(ur t s K).holds)(d:t.run N=Y r)(g:Sat X F w ρ s a)(j:s.ok=AD)(f:X.n0<=s.nx):
 ∃c ρ' b,(K c b).holds/\c.run N=Y r/\Sat X F w ρ' b a/\b.ok=AD/\X.n0<=b.nx:=by
 unfold ur at h;split at h
 ·split at h
  ·obtain⟨e,l,k,i⟩:=G8 h (by simpa[T.run]using d);grind[aeV]
  exact h.elim
 ·obtain⟨e,m,q⟩:=TA h (by simpa[T.run]using d) g j f;grind
 grind
theorem aig{N:Nat}{R:Type}{r:R}{K:T R->St->Ob}{t:T R}{s:St}{ρ:Env}(h:(opnO t s K).holds)(e:t.run N=Y r)(d:Sat X F w ρ s a)(j:s.ok=AD)(i:X.n0<=s.nx):
 ∃c ρ' b,(K c b).holds/\c.run N=Y r/\Sat X F w ρ' b a/\b.ok=AD/\X.n0<=b.nx:=by
 obtain⟨p,l,o,n,k,f,m,g⟩:=S8 h e d j i;exact S8 n k f m g
theorem Q0{ρ:Env}{s:St}{i kk p q:Nat}{b:Bool}{x v:Res}(o:closeU s.mem i b=Y (x,kk,p,q))(A:p=q)(K:Res.lt s.nx v=AD)(V:RSub x v)(l:Sat X F w ρ s a)(z:s.ok=AD):
 Sat X F w ρ {s with mem:=(i,v)::(kk,.gone)::s.mem} a/\({s with mem:=(i,v)::(kk,.gone)::s.mem}:St).ok=true:=by
 have H:ay F w ρ X.Mine ((i,x)::(kk,.gone)::s.mem)/\i<s.nx/\kk<s.nx:=by
  have d:=z;simp only[St.ok,ql]at d;unfold closeU at o;split at o
  ·rename_i sz n f k e off R T h N M hi;split at o
   ·rename_i L U g J t;split at o
    ·rename_i B;simp only[ql,qf]at B;obtain⟨rfl,rfl⟩:=B;split at o;{cases o;exact⟨l.mem.closeU hi t (.inr ⟨A,rfl⟩),ld d.1.2 hi,ld d.1.2 t⟩};cases o;exact⟨l.mem.closeU hi t (.inl ⟨A,rfl⟩),ld d.1.2 hi,ld d.1.2 t⟩
    simp_all
   simp_all
  simp_all
 obtain⟨r,hi,t⟩:=H;have c:∀j q,Mem.get ((i,v)::(kk,.gone)::s.mem) j=Y q->∃u,Mem.get ((i,x)::(kk,.gone)::s.mem) j=Y u/\RSub u q:=by
  grind[Mem.get,RSub.refl]
 refine⟨⟨l.size,l.fr,⟨λj q y=>?_,λj q b y E=>?_,λj P q O b y G E D=>?_⟩,l.df,l.good,l.from0,l.env0⟩,?_⟩;{obtain⟨u,m,C⟩:=c j q y;exact(C.rel _ _ _ _ (r.ok _ _ m)).1};{obtain⟨u,m,C⟩:=c j q y;exact r.mine _ _ _ m ((C.rel _ _ _ _ (r.ok _ _ m)).2 b E)};{obtain⟨u,m,C⟩:=c j q y;obtain⟨S,I,Q⟩:=c P O G;exact r.disj _ _ _ _ b m I ((C.rel _ _ _ _ (r.ok _ _ m)).2 b E) ((Q.rel _ _ _ _ (r.ok _ _ I)).2 b D)};simp only[St.ok,ql]at z⊢;simp only[cp,ql,qf];exact⟨⟨z.1.1,⟨hi,K⟩,⟨t,rfl⟩,z.1.2⟩,z.2⟩
theorem aef{m:Mem}{i y p q b:Nat}{g:Bool}(a:closeU m i g=Y (x,y,p,q))(j:cp b m=AD):Res.lt b x=true:=by
 unfold closeU at a;split at a
 ·rename_i A n f k e z l r h c d w;have o:=R7 j w;grind[Res.lt]
 simp_all
theorem ahC{N:Nat}{R:Type}{r:R}{ρ:Env}{K:T R->St->Ob}{q i:Nat}{t:T R}{s:St}(h:(cloU q i c s t K).holds)(g:t.run N=Y r)(n:Sat X F w ρ s a)(v:s.ok=AD)(D:X.n0<=s.nx):
 ∃e b,(K e b).holds/\e.run N=Y r/\Sat X F w ρ b a/\b.ok=AD/\X.n0<=b.nx:=by
 unfold cloU at h;split at h
 ·rename_i x E p j k;have f:∀t:T R,t.run N=Y r->p=j->(cloK i E x c s t K).holds->∃e b,(K e b).holds/\e.run N=Y r/\Sat X F w ρ b a/\b.ok=AD/\X.n0<=b.nx:=by
   intro t g u d;unfold cloK at d;split at d;{grind[St.ok,Q0,aef,RSub.refl]}
   ·rename_i A y l;split at d
    ·rename_i o;obtain⟨m,C⟩:=d;subst m;obtain⟨B,z⟩:=Q0 k u o (l trivial) n v;grind
    exact d.elim
   exact d.elim
  split at h;{grind[G8]};exact f t g h.1 h.2
 exact h.elim
theorem G5{N:Nat}{R:Type}{r:R}{ρ:Env}{K:T R->St->Ob}{t:T R}{s:St}(h:(finU t s K).holds)(d:t.run N=Y r)(g:Sat X F w ρ s a)(c:s.ok=AD)(e:X.n0<=s.nx):
 ∃f b,(K f b).holds/\f.run N=Y r/\Sat X F w ρ b a/\b.ok=AD/\X.n0<=b.nx:=by
 unfold finU at h;split at h;{exact TA h (by simpa[T.run]using d) g c e};{exact ahC h (by simpa[T.run]using d) g c e};grind
theorem afM{N:Nat}{R:Type}{r:R}{ρ:Env}{K:T R->St->Ob}:∀ (t:T R) {s:St} {F:Cells},(o7 t s K).holds->t.run N=Y r->Sat X F w ρ s a->s.ok=true->X.n0<=s.nx->
 ∃j D b,(K j b).holds/\j.run N=Y r/\Sat X D w ρ b a/\b.ok=AD/\X.n0<=b.nx:=by
 intro t;induction t with
 |clo i c k B=>
  intro s F h g e d f;simp only[o7]at h;split at h
  ·split at h;{grind[adk,T.run]};exact h.elim
  ·rename_i v q C n;split at h
   ·rename_i x E y o;split at h
    ·rename_i u;obtain⟨z,m,A⟩:=h;subst z;obtain⟨D,p,l⟩:=adl o u (n (tN m trivial)) e d;grind[T.run]
    exact h.elim
   exact h.elim
  exact h.elim
 |_=>intro s F h g e d f;exact⟨_,F,s,h,g,e,d,f⟩
theorem tH{N:Nat}{R:Type}{r:R}{ρ:Env}{K:T R->St->Ob}(t:T R){s:St}(h:(finO t s K).holds)(p:t.run N=Y r)(q:Sat X F w ρ s a)(n:s.ok=AD)(m:X.n0<=s.nx):
 ∃c I b,(K c b).holds/\c.run N=Y r/\Sat X I w ρ b a/\b.ok=AD/\X.n0<=b.nx:=by
 obtain⟨E,D,l,i,y,A,x⟩:=G5 h p q n m;obtain⟨C,G,u,e,f,j,B⟩:=G5 l i y A x;obtain⟨d,H,o,z,v,g,k⟩:=G5 u e f j B;exact afM d o z v g k
theorem gZ {N:Nat}{R:Type}{t:T R}{s b:St}{r a:R}(h:finT t s=Y (a,b))(c:t.run N=Y r):a=r:=by unfold finT at h;grind[T.run]
theorem g8{R:Type}{t:T R}{s b:St}{r:R}(h:finT t s=Y (r,b)){ρ:Env}(e:Sat X F w ρ s a)(c:s.ok=AD)(d:X.n0<=s.nx):
 Sat X F w ρ b a/\b.ok=AD/\X.n0<=b.nx:=by
 unfold finT at h;split at h;{simp_all};{cases h;exact⟨St.weak_sat e,St.weak_ok c,d⟩};grind
theorem QV {P:qn}{nt:Nat}{ops:List Oper}{hint a:Nat->Option Hint}{K:St->List aG->Prop}:
 ∀ (c:List Oper) (i id:Nat) (s:St) (tr:List aG),(∀j,i<=j->hint j=a j)->cK P nt ops hint i c id s tr K->cK P nt ops a i c id s tr K
 |[],i,id,s,tr,_,h=>h
 |o::c,i,id,s,tr,p,h=>by
  have k:∀s,c7 P a i o id s=c7 P hint i o id s:=λs=>by
   unfold c7 eM;rw[p i (we i)]
  have n:=λs tr=>QV (P:=P) (nt:=nt) (ops:=ops) (K:=K) c (i+1) (id+64) s tr (λj q=>p j qa)
  have g:∀ (s:St),(match c7 P hint i o id s with
   |some (out,_)=>if c9 nt o.dst&&eF id out then gj out.obl (cK P nt ops hint (i+1) c (id+64) (dt s o out) (tr++[eD ops o id out]) K)else False
   |none=>False)->(match c7 P a i o id s with
   |some (out,_)=>if c9 nt o.dst&&eF id out then gj out.obl (cK P nt ops a (i+1) c (id+64) (dt s o out) (tr++[eD ops o id out]) K)else False
   |none=>False):=by
   intro s h;rw[k];split at h
   ·split at h;{rename_i m;simp only[m,if_true];rw[andO_iff]at h⊢;exact⟨h.1,n _ _ h.2⟩};exact h.elim
   exact h.elim
  have e:∀ (s:St),(if c9 nt o.dst then cK P nt ops hint (i+1) c (id+64) (s.putD o.dst (.tup [])) (tr++[⟨o.dst,fj ops o,id,.tup [],[],[]⟩]) K else False)->
   (if c9 nt o.dst then cK P nt ops a (i+1) c (id+64) (s.putD o.dst (.tup [])) (tr++[⟨o.dst,fj ops o,id,.tup [],[],[]⟩]) K else False):=by
   intro s h;split at h;{rename_i m;simp only[m,if_true];exact n _ _ h};exact h.elim
  simp only[cK]at h⊢;split at h;{exact g s h};{exact e s h};{exact h.elim};rename_i t b f _;refine⟨λl=>?_,λl=>?_⟩
  ·have:=h.1 l;cases f;{exact e _ this};exact g _ this
  have:=h.2 l;cases f;{exact g _ this};exact e _ this
theorem si {P:qn}{h:Hint}(a:h.cv=.none){i:Nat}{o:Oper}{id:Nat}{s:St}:c7 P (λ_=>Y h) i o id s=eM P (λ_=>Y h) i o id s:=by unfold c7;simp only[cvOf,a,lf];split;{rename_i out b e;rw[e];rfl};simp_all
def ue (P:qn)(nt:Nat)(ops:List Oper){R:Type}(N:Nat)(r:R)(i:Nat)(a:List Oper)(id:Nat)(s:St)(tr:List aG)(K:St->List aG->T R->Ob):Prop:=
 ∃hint b,T.run N b=Y r/\cK P nt ops hint i a id s tr (λs tr=>(K s tr b).holds)
section
variable {P:qn} {nt rid:Nat} {ops:List Oper} {R:Type} {N:Nat} {r:R} {K:St->List aG->T R->Ob} {rest:List Oper} {i:Nat} {o:Oper} {id:Nat} {tr:List aG} {K':St->List aG->T R->Ob}
def lv (P:qn)(nt:Nat)(ops:List Oper){R:Type}(N:Nat)(r:R)(K:St->List aG->T R->Ob)(a:List Oper)(i:Nat)(o:Oper)(id:Nat)(tr:List aG)(s:St):Prop:=
 ∃hint b,T.run N b=Y r/\(match c7 P hint i o id s with
  |some (out,_)=>if c9 nt o.dst&&eF id out then gj out.obl (cK P nt ops hint (i+1) a (id+64) (dt s o out) (tr++[eD ops o id out]) (λs tr=>(K s tr b).holds))else False
  |none=>False)
variable (ih:∀s tr t,(K' s tr t).holds->T.run N t=Y r->ue P nt ops N r (i+1) rest (id+64) s tr K)
include ih
theorem fZ {s:St}{g:Option Hint}{out a:Out}{b:Bool}(w:c7 P (λ_=>g) i o id s=Y (out,b))(v:holds out.obl)(e:a={out with obl:=a.obl}){t:T R}
 (c:(fp nt ops o id tr K' s a t).holds) (k:t.run N=Y r):lv P nt ops N r K rest i o id tr s:=by
 have l:eF id a=eF id out:=by rw[e];rfl
 have m:dt s o a=dt s o out:=by rw[e];rfl
 have u:eD ops o id a=eD ops o id out:=by rw[e];rfl
 unfold fp at c;split at c
 ·obtain⟨hint,h,d,n⟩:=ih _ _ _ c k;refine⟨λj=>if j=i then g else hint j,h,d,?_⟩;grind[c7,eM,andO_iff,QV]
 exact c.elim
variable {E:Option Hint}
theorem S6{s:St}{out a:Out}{b:Bool}(p:c7 P (λ_=>E) i o id s=Y (out,b))(u:holds out.obl)(m:a={out with obl:=a.obl}):∀ {t:T R},
 (gI nt rid ops i o id tr K' s a t).holds->t.run N=Y r->lv P nt ops N r K rest i o id tr s:=by
 intro t;induction t with
 |name j e k=>
  intro c g;simp only[gI]at c;split at c
  ·split at c
   ·rename_i h v B;obtain⟨l,x⟩:=c;have l:v=e:=l;have:=x e;simp only at this;have d:({a with val:=.pure (.int h e)}:Out)=a:=by grind
    rw[d]at this;exact fZ ih p u m this (by simpa[T.run]using g)
   exact c.elim
  exact fZ ih p u m c g
 |lit j e k=>
  intro c g;simp only[gI]at c;split at c
  ·split at c
   ·rename_i h v B;obtain⟨l,x⟩:=c;have l:v=e:=l;have d:({a with val:=.pure (.int h e)}:Out)=a:=by grind
    rw[d]at x;exact fZ ih p u m x (by simpa[T.run]using g)
   exact c.elim
  exact fZ ih p u m c g
 |cas j e n t f _ y=>
  intro c g;simp only[gI]at c;split at c
  ·split at c
   ·rename_i h v B;obtain⟨l,w,D⟩:=c;have l:v=e:=l;simp only[T.run]at g;by_cases z:e=n
    ·have w:=w z;have d:({a with val:=.pure (.int h n)}:Out)=a:=by grind
     rw[d]at w;exact fZ ih p u m w jX
    exact y ih (D z) jX
   exact c.elim
  exact fZ ih p u m c g
 |stop=>grind[T.run]
 |_=>intro c g;exact fZ ih p u m c g
theorem adT {s:St}{t:T R}(h:(Hh P nt rid ops i o id tr K' s t).holds)(d:t.run N=Y r):lv P nt ops N r K rest i o id tr s:=by
 unfold Hh at h;split at h
 ·rename_i α c σ k;split at h
  ·rename_i f as l;obtain⟨j,a⟩:=h;simp only[T.run]at d;obtain⟨y,g,d⟩:=Option.bind_eq_some_iff.1 d;have a:=a y g;split at a;{rename_i out b e;exact S6 ih ((si rfl).trans e) (afD P l g j e) rfl a d};exact a.elim
  exact h.elim
 exact h.elim
theorem adU {s:St}{t:T R}(h:(Hj P nt ops i o id tr K' s t).holds)(a:t.run N=Y r):lv P nt ops N r K rest i o id tr s:=by
 unfold Hj at h;split at h
 ·rename_i p d m u;simp only[T.run]at a;by_cases g:p
  ·have h:=h.1 g;rw[qg g]at a;split at h
   ·rename_i out b f;split at h;{rename_i q c;obtain⟨e,j⟩:=h;have e:q=p:=e;exact fZ ih ((si rfl).trans f) (by rw[c];show q;simp_all) rfl j a};rename_i c;exact fZ ih ((si rfl).trans f) (by rw[c];trivial) rfl h a
   exact h.elim
  have h:=h.2 g;rw[qh g]at a;split at h
  ·rename_i out b f;split at h;{rename_i q c;obtain⟨e,j⟩:=h;have e:q=¬p:=e;exact fZ ih ((si rfl).trans f) (by rw[c];show q;simp_all) rfl j a};rename_i c;exact fZ ih ((si rfl).trans f) (by rw[c];trivial) rfl h a
  exact h.elim
 exact h.elim
theorem agS{s:St}{m:Nat}{t:T R}(h:(HW P nt rid ops i o id tr K' s m c t).holds)(f:t.run N=Y r):lv P nt ops N r K rest i o id tr s:=by
 unfold HW at h;split at h
 ·rename_i out b G;split at h
  ·rename_i a H;obtain⟨C,g⟩:=h;have e:holds out.obl->holds (ph c)->∀t:T R,(gI nt rid ops i o id tr K' s a t).holds->t.run N=Y r->lv P nt ops N r K rest i o id tr s:=by
    intro B j t E f;have z:c7 P (λ_=>Y (opH m c)) i o id s=Y ({a with obl:=tD c out},b):=by
     grind[c7,cvOf,opH]
    refine S6 ih z ?_ rfl E f;have:=ahH C j;cases c with
    |none=>exact B
    |val w p q D=>exact andO_iff.2 ⟨B,this⟩
    |res w p q D=>exact andO_iff.2 ⟨B,this⟩
   split at g;{rename_i v;exact e (by rw[v];trivial) (tN g.1 trivial) _ g.2 f};rename_i q v;split at g;{rename_i p d k;obtain⟨j,f⟩:=grd_some.1 f;obtain⟨l,x,y⟩:=g j;have l:q=p:=l;exact e (by rw[v];show q;simp_all) (tN x j) _ y f};{rename_i p j k;obtain⟨l,x,y⟩:=g;have l:q=p:=l;exact e (by rw[v];show q;simp_all) (tN x j) _ y f};exact g.elim
  exact h.elim
 exact h.elim
theorem oL {s:St}{t:T R}(h:(runO P nt rid ops i o id tr K' s t).holds)(c:t.run N=Y r):lv P nt ops N r K rest i o id tr s:=by grind[runO,adT,adU,agS,ahL,aiH]
theorem oz {s:St}{t:T R}(h:(lE nt ops o id tr K' s t).holds)(d:t.run N=Y r):
 ∃hint a,T.run N a=Y r/\(if c9 nt o.dst then cK P nt ops hint (i+1) rest (id+64) (s.putD o.dst (.tup [])) (tr++[⟨o.dst,fj ops o,id,.tup [],[],[]⟩]) (λs tr=>(K s tr a).holds)else False):=by
 unfold lE at h;split at h
 ·obtain⟨hint,a,c,e⟩:=ih _ _ t h d;grind
 exact h.elim
theorem ajq {s:St}{t:T R}(h:(opO P nt rid ops i o id tr K' s t).holds)(e:t.run N=Y r):ue P nt ops N r i (o::rest) id s tr K:=by
 unfold ue;simp only[cK];unfold opO at h;generalize cI ops s o=g at h⊢;cases g with
 |run=>exact oL ih h e
 |skip=>exact oz ih h e
 |bad=>exact h.elim
 |ask q b c=>
  simp only at h⊢;split at h
  ·obtain⟨k,d,m⟩:=h;subst k;cases b with
   |true=>
    have d:=d rfl;cases c with
    |true=>
     obtain⟨hint,l,a,j⟩:=oL ih d e;grind
    |false=>
     obtain⟨hint,l,a,j⟩:=oz ih d e;grind
   |false=>
    have m:=m rfl;cases c with
    |true=>
     obtain⟨hint,l,a,j⟩:=oz ih m e;grind
    |false=>
     obtain⟨hint,l,a,j⟩:=oL ih m e;grind
  ·obtain⟨k,d⟩:=h;have k:b=true:=k;cases c with
   |true=>
    obtain⟨hint,l,a,j⟩:=oL ih d e;grind
   |false=>
    obtain⟨hint,l,a,j⟩:=oz ih d e;grind
  ·obtain⟨k,d⟩:=h;have k:b=false:=k;cases c with
   |true=>
    obtain⟨hint,l,a,j⟩:=oz ih d e;grind
   |false=>
    obtain⟨hint,l,a,j⟩:=oL ih d e;grind
  exact h.elim
end
theorem FV {P:qn}{nt c:Nat}{ops:List Oper}{R:Type}{N:Nat}{r:R}{K:St->List aG->T R->Ob}:
 ∀ (a:List Oper) (i id:Nat) (s:St) (tr:List aG) (t:T R),(ub P nt c ops i a id s tr t K).holds->t.run N=Y r->ue P nt ops N r i a id s tr K
 |[],i,id,s,tr,t,h,b=>⟨λ_=>Z,t,b,h⟩
 |o::a,i,id,s,tr,t,h,b=>by
  obtain⟨t,h,b⟩:=Rw t h b;exact ajq (λs tr t=>FV a (i+1) (id+64) s tr t) h b
end Go.Abs
