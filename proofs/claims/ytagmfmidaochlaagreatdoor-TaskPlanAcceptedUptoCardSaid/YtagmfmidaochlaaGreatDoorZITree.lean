import Derived.Test.YtagmfmidaochlaaGreatDoorZIOb
open Bool renaming true->AD,false->AE
open Option renaming some->Y,none->Z
open Bool renaming and_eq_true->ql
open Classical renaming byContradiction->xC
open Go renaming World->qm,Program->qn
open Nat renaming le_refl->wg
open Option renaming ite_none_right_eq_some->jE
namespace Go.Abs
inductive aA (σ τ R:Type)where
 |next (x:σ)
 |out (y:τ)
 |fin (r:R)
structure aK (α:Type)where
 P:qn
 f:ov
 o:Option α
 k:Nat
 args:List ac
 m:Mem
 res:α->ac
 m':α->Mem
 ok:∀y,o=Y y->ajb P f k args m (res y) (m' y)
inductive T:Type->Type 1 where
 |ret {R:Type} (r:R):T R
 |retW {R:Type} (l:List Nat) (r:R):T R
 |grd {R:Type} (p:Prop) [d:Decidable p] (k:T R):T R
 |ok {R:Type} (p:Prop) (h:p) (k:T R):T R
 |conv {R:Type} (i:Nat) (c:Conv) (k:T R):T R
 |br {R:Type} (b:Bool) (t f:T R):T R
 |brP {R:Type} (p:Prop) [d:Decidable p] (t f:T R):T R
 |call {R α:Type} (c:aK α) (σ:List (Nat×Nat)) (k:α->T R):T R
 |name {R:Type} (i:Nat) (e:Int) (k:Int->T R):T R
 |loop {R σ τ:Type} (I:St->σ->St) (e:Ex) (J:St->τ->St) (body:σ->T (aA σ τ R)) (x0:σ) (l:List Nat) (k:τ->T R):T R
 |cut {R τ:Type} (d:Nat) (J:St->τ->St) (body:T (aA Unit τ R)) (k:τ->T R):T R
 |unroll {R:Type} (n:Nat) (k:T R):T R
 |clo {R:Type} (i:Nat) (c:Conv) (k:T R):T R
 |split {R:Type} (b:Bool) (t f:T R):T R
 |known {R:Type} (b:Bool) (t:T R):T R
 |lit {R:Type} (i:Nat) (n:Int) (k:T R):T R
 |cas {R:Type} (i:Nat) (e n:Int) (t f:T R):T R
 |both {R:Type} (t f:T R):T R
 |gst {R:Type} (q i h:Nat) (c:Conv) (k:T R):T R
 |stop {R:Type}:T R
def pkF (s:St):List Nat->List (Nat×ac)
 |[]=>[]
 |t::l=>(t,s.get t)::pkF s l
def pkM (m:Mem):List Nat->Mem
 |[]=>[]
 |i::l=>match m.get i with
  |some r=>(i,r)::pkM m l
  |none=>pkM m l
abbrev pk (s:St)(l m:List Nat)(d:List (Nat×ac))(e:Mem):St:=⟨d++pkF s l,e++pkM s.mem m,s.df,s.nx+64⟩
def iter {σ τ R:Type}(f:σ->Option (aA σ τ R)):Nat->σ->Option (τ ⊕ R)
 |0,_=>Z
 |n+1,x=>match f x with
  |some (.next a)=>iter f n a
  |some (.out y)=>Y (.inl y)
  |some (.fin r)=>Y (.inr r)
  |none=>Z
def andK {τ R:Type}(o:Option (τ ⊕ R))(k:τ->Option R):Option R:=
 match o with
 |some (.inl y)=>k y
 |some (.inr r)=>Y r
 |none=>Z
def andC {τ R:Type}(o:Option (aA Unit τ R))(k:τ->Option R):Option R:=
 match o with
 |some (.out y)=>k y
 |some (.fin r)=>Y r
 |_=>Z
def grd {R:Type}(p:Prop)[Decidable p](k:Option R):Option R:=if p then k else Z
def T.run (N:Nat):{R:Type}->T R->Option R
 |_,.ret r=>Y r
 |_,.retW _ r=>Y r
 |_,.ok _ _ k=>k.run N
 |_,.conv _ _ k=>k.run N
 |_,@T.grd _ p d k=>@Go.Abs.grd _ p d (k.run N)
 |_,.br b t f=>bif b then t.run N else f.run N
 |_,@T.brP _ p d t f=>bif @decide p d then t.run N else f.run N
 |_,.call c _ k=>c.o.bind λy=>(k y).run N
 |_,.name _ e k=>(k e).run N
 |_,.loop _ _ _ a g _ k=>andK (iter (λx=>(a x).run N) N g) λy=>(k y).run N
 |_,.cut _ _ a k=>andC (a.run N) λy=>(k y).run N
 |_,.unroll _ k=>k.run N
 |_,.clo _ _ k=>k.run N
 |_,.split b t f=>bif b then t.run N else f.run N
 |_,.known _ t=>t.run N
 |_,.lit _ _ k=>k.run N
 |_,.cas _ e n t f=>bif e==n then t.run N else f.run N
 |_,.both t _=>t.run N
 |_,.gst _ _ _ _ k=>k.run N
 |_,.stop=>Z
variable {p:Prop}
theorem grd_some{R:Type}[Decidable p]{k:Option R}{r:R}:grd p k=Y r↔p/\k=Y r:=by grind[grd]
theorem ao{R:Type}[Decidable p]{k:Option R}(h:p):grd p k=k:=by unfold grd;grind
def exEq:Ex->Ex->Bool
 | .normal,.normal=>AD
 | .ret,.ret=>AD
 | .exit a,.exit b=>decide (a=b)
 |_,_=>AE
theorem agS {a b:Ex}(h:exEq a b=AD):a=b:=by cases a<;>cases b<;>simp_all [exEq]
def gw:Ex->Bool
 | .normal=>AD
 |_=>AE
def oN {R:Type}(t:T R)(K:T R->Ob):Ob:=
 match t with
 | .split b t f=>.and (.imp (b=AD) (oN t K)) (.imp (b=AE) (oN f K))
 | .stop=>.tru
 |t=>K t
theorem QY {R:Type}{N:Nat}{r:R}{K:T R->Ob}:∀ (t:T R),(oN t K).holds->t.run N=Y r->∃e,(K e).holds/\e.run N=Y r:=by
 intro t;induction t with
 |split b t f d c=>
  intro h a;cases b with
  |true=>exact d (h.1 rfl) a
  |false=>exact c (h.2 rfl) a
 |stop=>grind[T.run]
 |_=>intro h a;exact⟨_,h,a⟩
def aiq (o:Oper):Bool:=
 match o.op with
 | .call c=>match c.callee with
   | .value _=>AD
   | .invoke _ _=>AD
   |_=>AE
 |_=>AE
def ais (o:Oper):Bool:=
 match o.op with
 | .next _ AD=>AD
 |_=>AE
def UN (k:Nat):Hint:=⟨[],k,[],[],.any,[],.none⟩
def air (o:Oper):Bool:=
 match o.op with
 | .makeSlice _ _ _=>AD
 | .slice _ _ _ _ _=>AD
 | .binOp a _ _ y _=>sU a y
 |_=>AE
def Ud (o:Oper)(n:Nat):Nat:=
 match o.op with
 | .alloc _=>if 1000<=n then n-999 else 0
 | .buildSlice _ _ _=>if n=1000 then 1 else 0
 | .store _ _ _=>if n=998 then 1 else if 1100<=n then n-1098 else 0
 | .load _ _=>if 1100<=n then n-1098 else 0
 | .call c=>match c.callee with
   | .builtin .append=>if n=1002 then 1 else 0
   |_=>0
 |_=>0
def unT {R:Type}(o:Oper)(t:T R):Nat×T R:=
 if air o then(match t with
  | .unroll n a=>(n,a)
  |t=>(0,t))else(match t with
  | .unroll n a=>if Ud o n=0 then(0,.unroll n a)else(Ud o n,a)
  |t=>(0,t))
theorem ahV {R:Type}{N:Nat}(o:Oper)(t:T R):(unT o t).2.run N=t.run N:=by unfold unT;grind[T.run]
def cvT {R:Type}(j:Nat)(t:T R):Conv×T R:=
 match t with
 | .conv i c a=>if i=j then(c,a)else(.none,.conv i c a)
 |t=>(.none,t)
theorem agO {R:Type}{N j:Nat}(t:T R):(cvT j t).2.run N=t.run N:=by unfold cvT;grind[T.run]
def opH (k:Nat)(c:Conv):Hint:=⟨[],k,[],[],.any,[],c⟩
def F4 (c:Conv)(out:Out):Ob:=
 match c with
 | .none=>.tru
 | .val _ p _ _=>(match out.val with
   | .pure x=>.eq x p
   | .clip x=>.eq x p
   |_=>.no)
 | .res _ r _ _=>(match out.wr with
   |(_,x)::_=>.eq x r
   |_=>.no)
def o7:Conv->Option Prop
 | .none=>Z
 | .val a _ _ _=>a
 | .res a _ _ _=>a
def preO (a b:Option Prop):Ob:=
 match a,b with
 |none,_=>.tru
 |some p,Y q=>.eq p q
 |some _,Z=>.no
theorem sX {a b:Option Prop}(h:(preO a b).holds)(c:holds b):holds a:=by
 unfold preO at h;split at h;{trivial}
 ·have h:_=_:=h;simp_all
 exact h.elim
variable {c:Conv}
theorem agK{out:Out}(h:(F4 c out).holds)(b:holds (o7 c)):ot c out:=by
 unfold F4 at h;unfold ot;split at h;{trivial}
 ·split at h;{rename_i a;rw[a];exact⟨h,b⟩};{rename_i a;rw[a];exact⟨h,b⟩};exact h.elim
 split at h;{rename_i a;rw[a];exact⟨h,b⟩};exact h.elim
def aK.hint {a:Type}(c:aK a)(σ:List (Nat×Nat))(y:a):Hint:=⟨σ,c.k,c.args,c.m,c.res y,c.m' y,.none⟩
section
variable (P:qn) (nt:Nat) (rid:Nat) (ops:List Oper)
def Ek (o:Oper)(s:St):Option (ov×List ac):=
 match o.op with
 | .call c=>match c.callee with
   | .value x=>match aL s x with
     | .func f b d=>Y (.fn f,b++c.args.toList.map (aL s)++d)
     | .yld l=>Y (.yld l,c.args.toList.map (aL s))
     |_=>Z
   | .invoke x e=>match aL s x with
     | .iface t a=>match og P t e with
       |some f=>Y (.fn f,a::c.args.toList.map (aL s))
       |none=>Z
     |_=>Z
   |_=>Z
 |_=>Z
def Uz {a:Type}(c:aK a)(σ:List (Nat×Nat))(f:ov)(b:List ac)(id:Nat)(s:St):Ob:=
 .and (gL (bP s.mem c.args (b7 s.mem c.args b).1).1 (ac.renL (bn σ c.k id) c.args)) (.and (subM s.mem (Mem.ren (bn σ c.k id) c.m)) (.and (.eq c.P P) (.eq c.f f)))
theorem ael {t:Type}{c:aK t}{σ:List (Nat×Nat)}{f:ov}{u:List ac}{i id:Nat}{o:Oper}{s:St}{y:t}{out:Out}{b:Bool}(j:Ek P o s=Y (f,u))(z:c.o=Y y)
 (h:(Uz P c σ f u id s).holds) (d:eL P (λ_=>Y (c.hint σ y)) i o id s=Y (out,b)):holds out.obl:=by
 have k:=c.ok y z;obtain⟨q,m,C,B⟩:=h;rw[C,B]at k;unfold Ek at j;unfold eL at d;split at j
 ·rename_i E n;rw[n]at d;simp only at d;split at j
  ·rename_i x r;rw[r]at d;simp only at d;split at j;{rename_i g p w e;rw[e]at d;obtain⟨rfl,rfl⟩:=j;obtain⟨_,d⟩:=jE.1 d;cases d;exact⟨hI q,hY m,k⟩};{rename_i l e;rw[e]at d;obtain⟨rfl,rfl⟩:=j;obtain⟨_,d⟩:=jE.1 d;cases d;exact⟨hI q,hY m,k⟩};simp_all
  ·rename_i x v r;rw[r]at d;simp only at d;split at j
   ·rename_i D a e;rw[e]at d;split at j;{rename_i g A;obtain⟨rfl,rfl⟩:=j;simp only[aK.hint,A]at d;obtain⟨_,d⟩:=jE.1 d;cases d;exact⟨hI q,hY m,k⟩};simp_all
   simp_all
  simp_all
 simp_all
section
variable (i:Nat) (o:Oper) (id:Nat) (tr:List aP) {R:Type} (K:St->List aP->T R->Ob)
def fe (s:St)(out:Out)(t:T R):Ob:=if cY nt o.dst&&eC id out then K (dr s o out) (tr++[ez ops o id out]) t else .no
def gJ (s:St)(out:Out)(t:T R):Ob:=
 match t with
 | .name j e k=>if j=rid * 1000+i then(match out.val with
   | .pure (.int a b)=>.and (.eq b e) (.all λz=>fe nt ops o id tr K s {out with val:=.pure (.int a z)} (k z))
   |_=>.no)else fe nt ops o id tr K s out (.name j e k)
 | .lit j e k=>if j=rid * 1000+i then(match out.val with
   | .pure (.int a b)=>.and (.eq b e) (fe nt ops o id tr K s {out with val:=.pure (.int a e)} k)
   |_=>.no)else fe nt ops o id tr K s out (.lit j e k)
 | .cas j e n t f=>if j=rid * 1000+i then(match out.val with
   | .pure (.int a b)=>.and (.eq b e) (.and (.imp (e=n) (fe nt ops o id tr K s {out with val:=.pure (.int a n)} t)) (.imp (¬e=n) (gJ s out f)))
   |_=>.no)else fe nt ops o id tr K s out (.cas j e n t f)
 | .stop=>.tru
 |t=>fe nt ops o id tr K s out t
def Fs (s:St)(t:T R):Ob:=
 match t with
 | .call c σ k=>match Ek P o s with
   |some (f,as)=>.and (Uz P c σ f as id s) (.all λy=>.imp (c.o=Y y) (match eL P (λ_=>Y (c.hint σ y)) i o id s with
    |some (out,_)=>gJ nt rid ops i o id tr K s out (k y)
    |none=>.no))
   |none=>.no
 |_=>.no
def Ft (s:St)(t:T R):Ob:=
 match t with
 |@T.brP _ p _ a b=>.and (.imp p (match eL P (λ_=>Y (UN 1)) i o id s with
  |some (out,_)=>(match out.obl with
   |some q=>.and (.eq q p) (fe nt ops o id tr K s out a)
   |none=>fe nt ops o id tr K s out a)
  |none=>.no)) (.imp (¬p) (match eL P (λ_=>Y (UN 0)) i o id s with
  |some (out,_)=>(match out.obl with
   |some q=>.and (.eq q (¬p)) (fe nt ops o id tr K s out b)
   |none=>fe nt ops o id tr K s out b)
  |none=>.no))
 |_=>.no
def Gd (s:St)(m:Nat)(c:Conv)(t:T R):Ob:=
 match eL P (λ_=>Y (opH m c)) i o id s with
 |some (out,_)=>match lj c out with
  |some a=>.and (F4 c out) (match out.obl with
   |none=>.and (preO (o7 c) Z) (gJ nt rid ops i o id tr K s a t)
   |some q=>match t with
    |@T.grd _ p _ k=>.imp p (.and (.eq q p) (.and (preO (o7 c) (Y p)) (gJ nt rid ops i o id tr K s a k)))
    | .ok p _ k=>.and (.eq q p) (.and (preO (o7 c) (Y p)) (gJ nt rid ops i o id tr K s a k))
    |_=>.no)
  |none=>.no
 |none=>.no
def runO (s:St)(t:T R):Ob:=
 if aiq o then Fs P nt rid ops i o id tr K s t
 else if ais o then Ft P nt ops i o id tr K s t
 else Gd P nt rid ops i o id tr K s (unT o t).1 (cvT (rid * 1000+i) (unT o t).2).1 (cvT (rid * 1000+i) (unT o t).2).2
def lG (s:St)(t:T R):Ob:=if cY nt o.dst then K (s.putD o.dst (.tup [])) (tr++[⟨o.dst,fb ops o,id,.tup [],[],[]⟩]) t else .no
def opO (s:St)(t:T R):Ob:=
 match cB ops s o with
 | .run=>runO P nt rid ops i o id tr K s t
 | .skip=>lG nt ops o id tr K s t
 | .bad=>.no
 | .ask q b a=>match t with
   | .br e d f=>.and (.eq b e) (.and (.imp (e=AD) (if a then runO P nt rid ops i o id tr K (s.put q .tt) d else lG nt ops o id tr K (s.put q .tt) d)) (.imp (e=AE) (if a then lG nt ops o id tr K (s.put q .ff) f else runO P nt rid ops i o id tr K (s.put q .ff) f)))
   | .known AD d=>.and (.eq b AD) (if a then runO P nt rid ops i o id tr K (s.put q .tt) d else lG nt ops o id tr K (s.put q .tt) d)
   | .known AE d=>.and (.eq b AE) (if a then lG nt ops o id tr K (s.put q .ff) d else runO P nt rid ops i o id tr K (s.put q .ff) d)
   |_=>.no
end
def tv {R:Type}:(i:Nat)->List Oper->(id:Nat)->St->List aP->T R->(St->List aP->T R->Ob)->Ob
 |_,[],_,s,tr,t,K=>K s tr t
 |i,o::a,id,s,tr,t,K=>oN t λt=>opO P nt rid ops i o id tr (λs tr t=>tv (i+1) a (id+64) s tr t K) s t
end
def finT {R:Type}(t:T R)(s:St):Option (R×St):=
 match t with
 | .ret r=>Y (r,s)
 | .retW l r=>Y (r,s.weak l)
 |_=>Z
def TT (_:Mem)(_:Nat):Option (Res×Nat×Res):=Z
def T9:Res->Bool
 | .vec ..=>AD
 |_=>AE
def TS (_:Mem)(_:Nat):Option (Res×Nat×Res):=Z
def closeU (m:Mem)(i:Nat)(b:Bool):Option (Res×Nat×Nat×Nat):=
 match m.get i with
 |some (.vecU x n f k e p a j ((h,w)::o))=>match m.get w with
  |some (.vec d l g 0 c)=>if d=a&&c=j then(if b then Y (.vecU x n (c9 f h p (.lst a l g)) (k+1) e p a j o,w,h,k)
   else Y (.vecU x n (c9 f h p (.lst a l g)) k e p a j o,w,k,n))else Z
  |_=>Z
 |_=>Z
def Gb (h:Nat):List (Nat×Nat)->Prop->Prop
 |[],p=>p
 |x::a,p=>x.1≠h/\Gb h a p
def openU (m:Mem)(i h a:Nat):Option (Res×Res×Prop):=
 match m.get i with
 |some (.vecU w n f k e p c d j)=>match(f h).cells[p]? with
  |some (.lst b l g)=>if b=c then Y (.vecU w n f k e p c d (j++[(h,a)]),.vec c l g 0 d,Gb h j (h<k))else Z
  |_=>Z
 |_=>Z
def grdO {R:Type}(p:Prop)(t:T R)(K:T R->Ob):Ob:=
 match t with
 |@T.grd _ a _ k=>.imp a (.and (.eq p a) (K k))
 | .ok a _ k=>.and (.eq p a) (K k)
 |_=>.no
def cnvU {R:Type}(i:Nat)(c:Conv)(s:St)(t:T R)(K:T R->St->Ob):Ob:=
 match s.mem.get i with
 |some x=>(match c with
  | .res Z r a _=>if Res.lt s.nx a then .and (.eq x r) (K t {s with mem:=(i,a)::s.mem})else .no
  | .res (Y p) r a _=>if Res.lt s.nx a then .and (.eq x r) (grdO p t λt=>K t {s with mem:=(i,a)::s.mem})else .no
  |_=>.no)
 |none=>.no
def tM {R:Type}(t:T R)(s:St)(K:T R->St->Ob):Ob:=
 match t with
 | .gst 0 i h _ a=>match openU s.mem i h s.nx with
   |some (x,y,p)=>grdO p a λt=>K t {s with mem:=(i,x)::(s.nx,y)::s.mem,nx:=s.nx+64}
   |none=>.no
 | .gst 3 i _ c a=>cnvU i c s a K
 |t=>K t s
def opnO {R:Type}(t:T R)(s:St)(K:T R->St->Ob):Ob:=tM t s λt s=>tM t s K
def cloK {R:Type}(i d:Nat)(x:Res)(c:Conv)(s:St)(t:T R)(K:T R->St->Ob):Ob:=
 match c with
 | .none=>K t {s with mem:=(i,x)::(d,.gone)::s.mem}
 | .res Z r a _=>if Res.lt s.nx a then .and (.eq x r) (K t {s with mem:=(i,a)::(d,.gone)::s.mem})else .no
 |_=>.no
def cloU {R:Type}(q i:Nat)(c:Conv)(s:St)(t:T R)(K:T R->St->Ob):Ob:=
 match closeU s.mem i (q==2)with
 |some (x,d,a,b)=>if q==2 then grdO (a=b) t λt=>cloK i d x c s t K else .and (.eq a b) (cloK i d x c s t K)
 |none=>.no
def finU {R:Type}(t:T R)(s:St)(K:T R->St->Ob):Ob:=
 match t with
 | .gst 3 i _ c t=>cnvU i c s t K
 | .gst (q+1) i _ c t=>cloU (q+1) i c s t K
 |t=>K t s
def oS {R:Type}(t:T R)(s:St)(K:T R->St->Ob):Ob:=
 match t with
 | .clo i c t=>match c with
   | .none=>match TS s.mem i with
     |some (x,k,y)=>oS t {s with mem:=(i,x)::(k,y)::s.mem} K
     |none=>.no
   | .res a r b _=>match TT s.mem i with
     |some (x,k,y)=>if T9 b then .and (.eq x r) (.and (preO a Z) (oS t {s with mem:=(i,b)::(k,y)::s.mem} K))else .no
     |none=>.no
   |_=>.no
 |t=>K t s
def finO {R:Type}(t:T R)(s:St)(K:T R->St->Ob):Ob:=finU t s λt s=>finU t s λt s=>finU t s λt s=>oS t s K
def sj {R:Type}(a:T R->St->(Ex->T R->St->Ob)->Ob):Nat->T R->St->(Ex->T R->St->Ob)->Ob
 |0,_,_,_=>.no
 |k+1,t,s,K=>a t s λe t s=>match e with
  | .normal=>sj a k t s K
  |e=>K e t s
section
variable (P:qn) (nt n0:Nat) (drawOk:List Oper->List aP->Bool)
def okO {σ:Type}(I:σ->St):Ob:=.all λx=>.and (.eq (I x).ok AD) (.eq (decide (n0<=(I x).nx)) AD)
def vcT:Code->{R:Type}->T R->St->(Ex->T R->St->Ob)->Ob
 | .skip,_,t,s,K=>K .normal t s
 | .label _,_,t,s,K=>K .normal t s
 | .region v ops o,_,t,s,K=>opnO t s λt s=>match(if o then Z else mh ops.toList)with
   |some (l,x)=>tv P nt v ops.toList 0 l s.nx s [] t λi _ m=>match aL i x with
    | .func f a b=>K .normal m {i with df:=.func f a b::i.df,nx:=s.nx+64 * ops.toList.length}
    |_=>.no
   |none=>tv P nt v ops.toList 0 ops.toList s.nx s [] t λi tr m=>
    if !o||drawOk ops.toList tr then K .normal m {i with nx:=s.nx+64 * ops.toList.length}else .no
 | .seq a b,_,t,s,K=>match t with
   | .cut 0 J h k=>.and (okO n0 (J s)) (.and (vcT a h s (λe C B=>finO C B λC B=>match finT C B with
    |some (.out y,A)=>if gw e then entO n0 A (J s y)else .no
    |some (.fin r,A)=>if gw e then .no else K e (.ret r) A
    |_=>.no)) (.all λy=>vcT b (k y) (J s y) K))
   | .cut (d+1) J h k=>vcT a (.cut d J h k) s λe t s=>match e with
     | .normal=>vcT b t s K
     |e=>K e t s
   |t=>vcT a t s λe t s=>match e with
    | .normal=>vcT b t s K
    |e=>K e t s
 | .cond c a b,_,t,s,K=>match aL s c with
   | .tt=>vcT a t s K
   | .ff=>vcT b t s K
   | .anyb=>match t with
     | .both p z=>.and (.all λN:Nat=>.eq (T.run N p) (T.run N z)) (.and (vcT a p s K) (vcT b z s K))
     |t=>.and (vcT a t s K) (vcT b t s K)
   | .pure (.bool x)=>match t with
     | .br w p z=>.and (.eq x w) (.and (.imp (w=AD) (vcT a p s K)) (.imp (w=AE) (vcT b z s K)))
     | .known AD p=>.and (.eq x AD) (vcT a p s K)
     | .known AE p=>.and (.eq x AE) (vcT b p s K)
     |_=>.no
   |_=>.no
 | .block id g,_,t,s,K=>vcT g t s λe t s=>match e with
   | .exit j=>if j=id then K .normal t s else K (.exit j) t s
   |e=>K e t s
 | .loop h,_,t,s,K=>match t with
   | .unroll n t=>sj (vcT h) n t s K
   | .loop I e J bodyT G l k=>.and (okO n0 (I s)) (.and (okO n0 (J s)) (.and (entO n0 (s.weak l) (I s G)) (.and
    (.all λx=>vcT h (bodyT x) (I s x) λD C B=>finO C B λC B=>match finT C B with
     |some (.next F,A)=>if gw D then entO n0 A (I s F)else .no
     |some (.out y,A)=>if exEq D e&& !gw D then entO n0 A (J s y)else .no
     |some (.fin r,A)=>if gw D then .no else K D (.ret r) A
     |_=>.no) (.all λy=>oN (k y) λt=>K e t (J s y)))))
   |_=>.no
 | .scope g,_,t,s,K=>vcT g t s K
 | .exit id,_,t,s,K=>K (.exit id) t s
 | .ret,_,t,s,K=>K .ret t s
 |_,_,_,_,_=>.no
end
theorem FQ {a:Nat}{σ:Type}{I:σ->St}(h:(okO a I).holds)(x:σ):(I x).ok=AD/\a<=(I x).nx:=by obtain⟨b,c⟩:=h x;exact⟨b,of_decide_eq_true c⟩
variable {X:Cx}{F:Cells}{w:qm}{a:Act}
theorem ach{ρ:Env}{s:St}{i k:Nat}{x y o:Res}(C:TT s.mem i=Y (x,k,y))(_:T9 o=AD)(_:RSub x o)(_:Sat X F w ρ s a)(_:s.ok=AD):
 ∃c,Sat X c w ρ {s with mem:=(i,o)::(k,y)::s.mem} a/\({s with mem:=(i,o)::(k,y)::s.mem}:St).ok=true:=by cases (show Z=Y _ from C)
theorem Ru {b i:Nat}{r:Res}:∀ {m:Mem},b6 b m=true->m.get i=Y r->Res.lt b r=AD
 |[],_,h=>by simp[Mem.get]at h
 |(j,q)::m,h,a=>by
  simp only[b6,ql,qf]at h;rw[Mem.get]at a;split at a;{cases a;exact h.1.2};exact Ru h.2 a
variable {x y:Res}
theorem acg{ρ:Env}{s:St}{i k:Nat}(G:TS s.mem i=Y (x,k,y))(_:Sat X F w ρ s a)(_:s.ok=AD):
 ∃c,Sat X c w ρ {s with mem:=(i,x)::(k,y)::s.mem} a/\({s with mem:=(i,x)::(k,y)::s.mem}:St).ok=true:=by cases (show Z=Y _ from G)
theorem Fm{N:Nat}{R:Type}{r:R}{t:T R}{K:T R->Ob}(h:(grdO p t K).holds)(e:t.run N=Y r):∃f,p/\(K f).holds/\f.run N=Y r:=by
 unfold grdO at h;split at h
 ·rename_i b d k;obtain⟨c,e⟩:=grd_some.1 e;obtain⟨a,g⟩:=h c;have a:p=b:=a;grind
 ·rename_i b c k;obtain⟨a,g⟩:=h;have a:p=b:=a;grind[T.run]
 exact h.elim
theorem SB {h:Nat}{p:Prop}:∀ {b:List (Nat×Nat)},Gb h b p->dj b h=AE/\p
 |[],a=>⟨rfl,a⟩
 |x::b,a=>by
  obtain⟨d,c⟩:=SB a.2;exact⟨by rw[Dn,d];simp[a.1],c⟩
theorem adM{ρ:Env}{s:St}{i h:Nat}(l:openU s.mem i h s.nx=Y (x,y,p))(I:p)(d:Sat X F w ρ s a)(J:s.ok=AD)(P:X.n0<=s.nx):
 ∃ρ',Sat X F w ρ' {s with mem:=(i,x)::(s.nx,y)::s.mem,nx:=s.nx+64} a/\({s with mem:=(i,x)::(s.nx,y)::s.mem,nx:=s.nx+64}:St).ok=true:=by
 unfold openU at l;split at l
 ·rename_i U n f k e S K B v m;split at l
  ·rename_i A M g j;split at l
   ·rename_i H;subst H;cases l;obtain⟨C,G⟩:=SB I;have b:=J;simp only[St.ok,ql]at b;have u:s.mem.get s.nx=none:=by
     cases E:s.mem.get s.nx with
     |none=>rfl
     |some r=>have:=(ft b.1.2 E).1;omega
    obtain⟨z,D⟩:=d.mem.openU m j G C u (λq r c=>my (wg _) (ft b.1.2 c).2);have o:∀q,q≠s.nx->(ρ.setVec s.nx z).blk q=ρ.blk q/\(ρ.setVec s.nx z).vec q=ρ.vec q:=λq c=>⟨rfl,by simp[Env.setVec,c]⟩
    refine⟨ρ.setVec s.nx z,⟨d.size,λt=>?_,D,?_,d.good,d.from0,λq c=>?_⟩,?_⟩
    ·refine(d.fr t).mono (λq=>q≠s.nx) (λ_ _ h=>h) (λ_ _ _=>rfl) o (λq c=>?_);have:q=s.nx:=xC λh=>c h
     subst this;exact iZ (wg _) (oc b.1.1 t)
    ·refine mG (λq=>q≠s.nx) (λ_ _ h=>h) (λ_ _ _=>rfl) o d.df (λq c=>?_);have:q=s.nx:=xC λh=>c h
     subst this;exact ia (wg _) b.2
    ·obtain⟨O,N⟩:=d.env0 q c;grind
    simp only[St.ok,ql,b6,qf];have L:Res.lt s.nx (.vecU U n f k e S A B v)=true:=(ft b.1.2 m).2;refine⟨⟨DL qa b.1.1,⟨by have:=(ft b.1.2 m).1;omega,?_⟩,⟨qa,rfl⟩,Dm qa b.1.2⟩,kY qa b.2⟩;grind[Res.lt]
   simp_all
  simp_all
 simp_all
theorem Ta{N:Nat}{R:Type}{r:R}{ρ:Env}{K:T R->St->Ob}{i:Nat}{t:T R}{s:St}(h:(cnvU i c s t K).holds)(C:t.run N=Y r)(g:Sat X F w ρ s a)(W:s.ok=AD)(P:X.n0<=s.nx):
 ∃D p,(K D p).holds/\D.run N=Y r/\Sat X F w ρ p a/\p.ok=AD/\X.n0<=p.nx:=by
 unfold cnvU at h;split at h
 ·rename_i x hi;have o:∀e,Res.lt s.nx e=true->RSub x e->Sat X F w ρ {s with mem:=(i,e)::s.mem} a/\({s with mem:=(i,e)::s.mem}:St).ok=true:=by
   intro e u C;have l:=g.mem;have d:∀j q,Mem.get ((i,e)::s.mem) j=Y q->∃n,Mem.get s.mem j=Y n/\RSub n q:=by
    grind[Mem.get,RSub.refl]
   refine⟨⟨g.size,g.fr,⟨λj q m=>?_,λj q b m A=>?_,λj H q J b m z A B=>?_⟩,g.df,g.good,g.from0,g.env0⟩,?_⟩;{obtain⟨n,f,k⟩:=d j q m;exact(k.rel _ _ _ _ (l.ok _ _ f)).1};{obtain⟨n,f,k⟩:=d j q m;exact l.mine _ _ _ f ((k.rel _ _ _ _ (l.ok _ _ f)).2 b A)};{obtain⟨n,f,k⟩:=d j q m;obtain⟨S,E,I⟩:=d H J z;exact l.disj _ _ _ _ b f E ((k.rel _ _ _ _ (l.ok _ _ f)).2 b A) ((I.rel _ _ _ _ (l.ok _ _ E)).2 b B)};grind[St.ok,b6,lf]
  split at h
  ·rename_i O e v;split at h
   ·rename_i u;obtain⟨y,G⟩:=h;subst y;obtain⟨f,k⟩:=o e u (v trivial);grind
   exact h.elim
  ·rename_i Q O e v;split at h
   ·rename_i u;obtain⟨y,G⟩:=h;subst y;obtain⟨V,M,U,L⟩:=Fm G C;obtain⟨f,k⟩:=o e u (v M);grind
   exact h.elim
  exact h.elim
 exact h.elim
theorem SC{N:Nat}{R:Type}{r:R}{K:T R->St->Ob}{t:T R}{s:St}{ρ:Env}(h:(tM t s K).holds)(d:t.run N=Y r)(g:Sat X F w ρ s a)(j:s.ok=AD)(f:X.n0<=s.nx):
 ∃c ρ' b,(K c b).holds/\c.run N=Y r/\Sat X F w ρ' b a/\b.ok=AD/\X.n0<=b.nx:=by
 unfold tM at h;split at h
 ·split at h
  ·obtain⟨e,l,k,i⟩:=Fm h (by simpa[T.run]using d);grind[adM]
  exact h.elim
 ·obtain⟨e,m,q⟩:=Ta h (by simpa[T.run]using d) g j f;grind
 grind
theorem aho{N:Nat}{R:Type}{r:R}{K:T R->St->Ob}{t:T R}{s:St}{ρ:Env}(h:(opnO t s K).holds)(e:t.run N=Y r)(d:Sat X F w ρ s a)(j:s.ok=AD)(i:X.n0<=s.nx):
 ∃c ρ' b,(K c b).holds/\c.run N=Y r/\Sat X F w ρ' b a/\b.ok=AD/\X.n0<=b.nx:=by
 obtain⟨p,l,o,n,k,f,m,g⟩:=SC h e d j i;exact SC n k f m g
theorem Qr{ρ:Env}{s:St}{i kk p q:Nat}{b:Bool}{x v:Res}(o:closeU s.mem i b=Y (x,kk,p,q))(A:p=q)(K:Res.lt s.nx v=AD)(V:RSub x v)(l:Sat X F w ρ s a)(z:s.ok=AD):
 Sat X F w ρ {s with mem:=(i,v)::(kk,.gone)::s.mem} a/\({s with mem:=(i,v)::(kk,.gone)::s.mem}:St).ok=true:=by
 have H:aG F w ρ X.Mine ((i,x)::(kk,.gone)::s.mem)/\i<s.nx/\kk<s.nx:=by
  have d:=z;simp only[St.ok,ql]at d;unfold closeU at o;split at o
  ·rename_i sz n f k e off R T h N M hi;split at o
   ·rename_i L U g J t;split at o
    ·rename_i B;simp only[ql,qf]at B;obtain⟨rfl,rfl⟩:=B;split at o;{cases o;exact⟨l.mem.closeU hi t (.inr ⟨A,rfl⟩),lf d.1.2 hi,lf d.1.2 t⟩};cases o;exact⟨l.mem.closeU hi t (.inl ⟨A,rfl⟩),lf d.1.2 hi,lf d.1.2 t⟩
    simp_all
   simp_all
  simp_all
 obtain⟨r,hi,t⟩:=H;have c:∀j q,Mem.get ((i,v)::(kk,.gone)::s.mem) j=Y q->∃u,Mem.get ((i,x)::(kk,.gone)::s.mem) j=Y u/\RSub u q:=by
  grind[Mem.get,RSub.refl]
 refine⟨⟨l.size,l.fr,⟨λj q y=>?_,λj q b y E=>?_,λj P q O b y G E D=>?_⟩,l.df,l.good,l.from0,l.env0⟩,?_⟩;{obtain⟨u,m,C⟩:=c j q y;exact(C.rel _ _ _ _ (r.ok _ _ m)).1};{obtain⟨u,m,C⟩:=c j q y;exact r.mine _ _ _ m ((C.rel _ _ _ _ (r.ok _ _ m)).2 b E)};{obtain⟨u,m,C⟩:=c j q y;obtain⟨S,I,Q⟩:=c P O G;exact r.disj _ _ _ _ b m I ((C.rel _ _ _ _ (r.ok _ _ m)).2 b E) ((Q.rel _ _ _ _ (r.ok _ _ I)).2 b D)};simp only[St.ok,ql]at z⊢;simp only[b6,ql,qf];exact⟨⟨z.1.1,⟨hi,K⟩,⟨t,rfl⟩,z.1.2⟩,z.2⟩
theorem ad4{m:Mem}{i y p q b:Nat}{g:Bool}(a:closeU m i g=Y (x,y,p,q))(j:b6 b m=AD):Res.lt b x=true:=by
 unfold closeU at a;split at a
 ·rename_i A n f k e z l r h c d w;have o:=Ru j w;grind[Res.lt]
 simp_all
theorem agE{N:Nat}{R:Type}{r:R}{ρ:Env}{K:T R->St->Ob}{q i:Nat}{t:T R}{s:St}(h:(cloU q i c s t K).holds)(g:t.run N=Y r)(n:Sat X F w ρ s a)(v:s.ok=AD)(D:X.n0<=s.nx):
 ∃e b,(K e b).holds/\e.run N=Y r/\Sat X F w ρ b a/\b.ok=AD/\X.n0<=b.nx:=by
 unfold cloU at h;split at h
 ·rename_i x E p j k;have f:∀t:T R,t.run N=Y r->p=j->(cloK i E x c s t K).holds->∃e b,(K e b).holds/\e.run N=Y r/\Sat X F w ρ b a/\b.ok=AD/\X.n0<=b.nx:=by
   intro t g u d;unfold cloK at d;split at d;{grind[St.ok,Qr,ad4,RSub.refl]}
   ·rename_i A y l;split at d
    ·rename_i o;obtain⟨m,C⟩:=d;subst m;obtain⟨B,z⟩:=Qr k u o (l trivial) n v;grind
    exact d.elim
   exact d.elim
  split at h;{grind[Fm]};exact f t g h.1 h.2
 exact h.elim
theorem Fj{N:Nat}{R:Type}{r:R}{ρ:Env}{K:T R->St->Ob}{t:T R}{s:St}(h:(finU t s K).holds)(d:t.run N=Y r)(g:Sat X F w ρ s a)(c:s.ok=AD)(e:X.n0<=s.nx):
 ∃f b,(K f b).holds/\f.run N=Y r/\Sat X F w ρ b a/\b.ok=AD/\X.n0<=b.nx:=by
 unfold finU at h;split at h;{exact Ta h (by simpa[T.run]using d) g c e};{exact agE h (by simpa[T.run]using d) g c e};grind
theorem aex{N:Nat}{R:Type}{r:R}{ρ:Env}{K:T R->St->Ob}:∀ (t:T R) {s:St} {F:Cells},(oS t s K).holds->t.run N=Y r->Sat X F w ρ s a->s.ok=true->X.n0<=s.nx->
 ∃j D b,(K j b).holds/\j.run N=Y r/\Sat X D w ρ b a/\b.ok=AD/\X.n0<=b.nx:=by
 intro t;induction t with
 |clo i c k B=>
  intro s F h g e d f;simp only[oS]at h;split at h
  ·split at h;{grind[acg,T.run]};exact h.elim
  ·rename_i v q C n;split at h
   ·rename_i x E y o;split at h
    ·rename_i u;obtain⟨z,m,A⟩:=h;subst z;obtain⟨D,p,l⟩:=ach o u (n (sX m trivial)) e d;grind[T.run]
    exact h.elim
   exact h.elim
  exact h.elim
 |_=>intro s F h g e d f;exact⟨_,F,s,h,g,e,d,f⟩
theorem sR{N:Nat}{R:Type}{r:R}{ρ:Env}{K:T R->St->Ob}(t:T R){s:St}(h:(finO t s K).holds)(p:t.run N=Y r)(q:Sat X F w ρ s a)(n:s.ok=AD)(m:X.n0<=s.nx):
 ∃c I b,(K c b).holds/\c.run N=Y r/\Sat X I w ρ b a/\b.ok=AD/\X.n0<=b.nx:=by
 obtain⟨E,D,l,i,y,A,x⟩:=Fj h p q n m;obtain⟨C,G,u,e,f,j,B⟩:=Fj l i y A x;obtain⟨d,H,o,z,v,g,k⟩:=Fj u e f j B;exact aex d o z v g k
theorem gY {N:Nat}{R:Type}{t:T R}{s b:St}{r a:R}(h:finT t s=Y (a,b))(c:t.run N=Y r):a=r:=by unfold finT at h;grind[T.run]
theorem gZ{R:Type}{t:T R}{s b:St}{r:R}(h:finT t s=Y (r,b)){ρ:Env}(e:Sat X F w ρ s a)(c:s.ok=AD)(d:X.n0<=s.nx):
 Sat X F w ρ b a/\b.ok=AD/\X.n0<=b.nx:=by
 unfold finT at h;split at h;{simp_all};{cases h;exact⟨St.weak_sat e,St.weak_ok c,d⟩};grind
theorem Qn {P:qn}{nt:Nat}{ops:List Oper}{hint a:Nat->Option Hint}{K:St->List aP->Prop}:
 ∀ (c:List Oper) (i id:Nat) (s:St) (tr:List aP),(∀j,i<=j->hint j=a j)->cG P nt ops hint i c id s tr K->cG P nt ops a i c id s tr K
 |[],i,id,s,tr,_,h=>h
 |o::c,i,id,s,tr,p,h=>by
  have k:∀s,cU P a i o id s=cU P hint i o id s:=λs=>by
   unfold cU eL;rw[p i (wg i)]
  have n:=λs tr=>Qn (P:=P) (nt:=nt) (ops:=ops) (K:=K) c (i+1) (id+64) s tr (λj q=>p j qa)
  have g:∀ (s:St),(match cU P hint i o id s with
   |some (out,_)=>if cY nt o.dst&&eC id out then gc out.obl (cG P nt ops hint (i+1) c (id+64) (dr s o out) (tr++[ez ops o id out]) K)else False
   |none=>False)->(match cU P a i o id s with
   |some (out,_)=>if cY nt o.dst&&eC id out then gc out.obl (cG P nt ops a (i+1) c (id+64) (dr s o out) (tr++[ez ops o id out]) K)else False
   |none=>False):=by
   intro s h;rw[k];split at h
   ·split at h;{rename_i m;simp only[m,if_true];rw[andO_iff]at h⊢;exact⟨h.1,n _ _ h.2⟩};exact h.elim
   exact h.elim
  have e:∀ (s:St),(if cY nt o.dst then cG P nt ops hint (i+1) c (id+64) (s.putD o.dst (.tup [])) (tr++[⟨o.dst,fb ops o,id,.tup [],[],[]⟩]) K else False)->
   (if cY nt o.dst then cG P nt ops a (i+1) c (id+64) (s.putD o.dst (.tup [])) (tr++[⟨o.dst,fb ops o,id,.tup [],[],[]⟩]) K else False):=by
   intro s h;split at h;{rename_i m;simp only[m,if_true];exact n _ _ h};exact h.elim
  simp only[cG]at h⊢;split at h;{exact g s h};{exact e s h};{exact h.elim};rename_i t b f _;refine⟨λl=>?_,λl=>?_⟩
  ·have:=h.1 l;cases f;{exact e _ this};exact g _ this
  have:=h.2 l;cases f;{exact g _ this};exact e _ this
theorem rq {P:qn}{h:Hint}(a:h.cv=.none){i:Nat}{o:Oper}{id:Nat}{s:St}:cU P (λ_=>Y h) i o id s=eL P (λ_=>Y h) i o id s:=by unfold cU;simp only[cvOf,a,lj];split;{rename_i out b e;rw[e];rfl};simp_all
def tx (P:qn)(nt:Nat)(ops:List Oper){R:Type}(N:Nat)(r:R)(i:Nat)(a:List Oper)(id:Nat)(s:St)(tr:List aP)(K:St->List aP->T R->Ob):Prop:=
 ∃hint b,T.run N b=Y r/\cG P nt ops hint i a id s tr (λs tr=>(K s tr b).holds)
section
variable {P:qn} {nt rid:Nat} {ops:List Oper} {R:Type} {N:Nat} {r:R} {K:St->List aP->T R->Ob} {rest:List Oper} {i:Nat} {o:Oper} {id:Nat} {tr:List aP} {K':St->List aP->T R->Ob}
def lA (P:qn)(nt:Nat)(ops:List Oper){R:Type}(N:Nat)(r:R)(K:St->List aP->T R->Ob)(a:List Oper)(i:Nat)(o:Oper)(id:Nat)(tr:List aP)(s:St):Prop:=
 ∃hint b,T.run N b=Y r/\(match cU P hint i o id s with
  |some (out,_)=>if cY nt o.dst&&eC id out then gc out.obl (cG P nt ops hint (i+1) a (id+64) (dr s o out) (tr++[ez ops o id out]) (λs tr=>(K s tr b).holds))else False
  |none=>False)
variable (ih:∀s tr t,(K' s tr t).holds->T.run N t=Y r->tx P nt ops N r (i+1) rest (id+64) s tr K)
include ih
theorem fX {s:St}{g:Option Hint}{out a:Out}{b:Bool}(w:cU P (λ_=>g) i o id s=Y (out,b))(v:holds out.obl)(e:a={out with obl:=a.obl}){t:T R}
 (c:(fe nt ops o id tr K' s a t).holds) (k:t.run N=Y r):lA P nt ops N r K rest i o id tr s:=by
 have l:eC id a=eC id out:=by rw[e];rfl
 have m:dr s o a=dr s o out:=by rw[e];rfl
 have u:ez ops o id a=ez ops o id out:=by rw[e];rfl
 unfold fe at c;split at c
 ·obtain⟨hint,h,d,n⟩:=ih _ _ _ c k;refine⟨λj=>if j=i then g else hint j,h,d,?_⟩;grind[cU,eL,andO_iff,Qn]
 exact c.elim
variable {E:Option Hint}
theorem SA{s:St}{out a:Out}{b:Bool}(p:cU P (λ_=>E) i o id s=Y (out,b))(u:holds out.obl)(m:a={out with obl:=a.obl}):∀ {t:T R},
 (gJ nt rid ops i o id tr K' s a t).holds->t.run N=Y r->lA P nt ops N r K rest i o id tr s:=by
 intro t;induction t with
 |name j e k=>
  intro c g;simp only[gJ]at c;split at c
  ·split at c
   ·rename_i h v B;obtain⟨l,x⟩:=c;have l:v=e:=l;have:=x e;simp only at this;have d:({a with val:=.pure (.int h e)}:Out)=a:=by grind
    rw[d]at this;exact fX ih p u m this (by simpa[T.run]using g)
   exact c.elim
  exact fX ih p u m c g
 |lit j e k=>
  intro c g;simp only[gJ]at c;split at c
  ·split at c
   ·rename_i h v B;obtain⟨l,x⟩:=c;have l:v=e:=l;have d:({a with val:=.pure (.int h e)}:Out)=a:=by grind
    rw[d]at x;exact fX ih p u m x (by simpa[T.run]using g)
   exact c.elim
  exact fX ih p u m c g
 |cas j e n t f _ y=>
  intro c g;simp only[gJ]at c;split at c
  ·split at c
   ·rename_i h v B;obtain⟨l,w,D⟩:=c;have l:v=e:=l;simp only[T.run]at g;by_cases z:e=n
    ·have w:=w z;have d:({a with val:=.pure (.int h n)}:Out)=a:=by grind
     rw[d]at w;exact fX ih p u m w jX
    exact y ih (D z) jX
   exact c.elim
  exact fX ih p u m c g
 |stop=>grind[T.run]
 |_=>intro c g;exact fX ih p u m c g
theorem acK {s:St}{t:T R}(h:(Fs P nt rid ops i o id tr K' s t).holds)(d:t.run N=Y r):lA P nt ops N r K rest i o id tr s:=by
 unfold Fs at h;split at h
 ·rename_i α c σ k;split at h
  ·rename_i f as l;obtain⟨j,a⟩:=h;simp only[T.run]at d;obtain⟨y,g,d⟩:=Option.bind_eq_some_iff.1 d;have a:=a y g;split at a;{rename_i out b e;exact SA ih ((rq rfl).trans e) (ael P l g j e) rfl a d};exact a.elim
  exact h.elim
 exact h.elim
theorem acL {s:St}{t:T R}(h:(Ft P nt ops i o id tr K' s t).holds)(a:t.run N=Y r):lA P nt ops N r K rest i o id tr s:=by
 unfold Ft at h;split at h
 ·rename_i p d m u;simp only[T.run]at a;by_cases g:p
  ·have h:=h.1 g;rw[qg g]at a;split at h
   ·rename_i out b f;split at h;{rename_i q c;obtain⟨e,j⟩:=h;have e:q=p:=e;exact fX ih ((rq rfl).trans f) (by rw[c];show q;simp_all) rfl j a};rename_i c;exact fX ih ((rq rfl).trans f) (by rw[c];trivial) rfl h a
   exact h.elim
  have h:=h.2 g;rw[qh g]at a;split at h
  ·rename_i out b f;split at h;{rename_i q c;obtain⟨e,j⟩:=h;have e:q=¬p:=e;exact fX ih ((rq rfl).trans f) (by rw[c];show q;simp_all) rfl j a};rename_i c;exact fX ih ((rq rfl).trans f) (by rw[c];trivial) rfl h a
  exact h.elim
 exact h.elim
theorem afK{s:St}{m:Nat}{t:T R}(h:(Gd P nt rid ops i o id tr K' s m c t).holds)(f:t.run N=Y r):lA P nt ops N r K rest i o id tr s:=by
 unfold Gd at h;split at h
 ·rename_i out b G;split at h
  ·rename_i a H;obtain⟨C,g⟩:=h;have e:holds out.obl->holds (o7 c)->∀t:T R,(gJ nt rid ops i o id tr K' s a t).holds->t.run N=Y r->lA P nt ops N r K rest i o id tr s:=by
    intro B j t E f;have z:cU P (λ_=>Y (opH m c)) i o id s=Y ({a with obl:=sP c out},b):=by
     grind[cU,cvOf,opH]
    refine SA ih z ?_ rfl E f;have:=agK C j;cases c with
    |none=>exact B
    |val w p q D=>exact andO_iff.2 ⟨B,this⟩
    |res w p q D=>exact andO_iff.2 ⟨B,this⟩
   split at g;{rename_i v;exact e (by rw[v];trivial) (sX g.1 trivial) _ g.2 f};rename_i q v;split at g;{rename_i p d k;obtain⟨j,f⟩:=grd_some.1 f;obtain⟨l,x,y⟩:=g j;have l:q=p:=l;exact e (by rw[v];show q;simp_all) (sX x j) _ y f};{rename_i p j k;obtain⟨l,x,y⟩:=g;have l:q=p:=l;exact e (by rw[v];show q;simp_all) (sX x j) _ y f};exact g.elim
  exact h.elim
 exact h.elim
theorem oD {s:St}{t:T R}(h:(runO P nt rid ops i o id tr K' s t).holds)(c:t.run N=Y r):lA P nt ops N r K rest i o id tr s:=by grind[runO,acK,acL,afK,agO,ahV]
theorem oh {s:St}{t:T R}(h:(lG nt ops o id tr K' s t).holds)(d:t.run N=Y r):
 ∃hint a,T.run N a=Y r/\(if cY nt o.dst then cG P nt ops hint (i+1) rest (id+64) (s.putD o.dst (.tup [])) (tr++[⟨o.dst,fb ops o,id,.tup [],[],[]⟩]) (λs tr=>(K s tr a).holds)else False):=by
 unfold lG at h;split at h
 ·obtain⟨hint,a,c,e⟩:=ih _ _ t h d;grind
 exact h.elim
theorem aiI {s:St}{t:T R}(h:(opO P nt rid ops i o id tr K' s t).holds)(e:t.run N=Y r):tx P nt ops N r i (o::rest) id s tr K:=by
 unfold tx;simp only[cG];unfold opO at h;generalize cB ops s o=g at h⊢;cases g with
 |run=>exact oD ih h e
 |skip=>exact oh ih h e
 |bad=>exact h.elim
 |ask q b c=>
  simp only at h⊢;split at h
  ·obtain⟨k,d,m⟩:=h;subst k;cases b with
   |true=>
    have d:=d rfl;cases c with
    |true=>
     obtain⟨hint,l,a,j⟩:=oD ih d e;grind
    |false=>
     obtain⟨hint,l,a,j⟩:=oh ih d e;grind
   |false=>
    have m:=m rfl;cases c with
    |true=>
     obtain⟨hint,l,a,j⟩:=oh ih m e;grind
    |false=>
     obtain⟨hint,l,a,j⟩:=oD ih m e;grind
  ·obtain⟨k,d⟩:=h;have k:b=true:=k;cases c with
   |true=>
    obtain⟨hint,l,a,j⟩:=oD ih d e;grind
   |false=>
    obtain⟨hint,l,a,j⟩:=oh ih d e;grind
  ·obtain⟨k,d⟩:=h;have k:b=false:=k;cases c with
   |true=>
    obtain⟨hint,l,a,j⟩:=oh ih d e;grind
   |false=>
    obtain⟨hint,l,a,j⟩:=oD ih d e;grind
  exact h.elim
end
theorem Ec {P:qn}{nt c:Nat}{ops:List Oper}{R:Type}{N:Nat}{r:R}{K:St->List aP->T R->Ob}:
 ∀ (a:List Oper) (i id:Nat) (s:St) (tr:List aP) (t:T R),(tv P nt c ops i a id s tr t K).holds->t.run N=Y r->tx P nt ops N r i a id s tr K
 |[],i,id,s,tr,t,h,b=>⟨λ_=>Z,t,b,h⟩
 |o::a,i,id,s,tr,t,h,b=>by
  obtain⟨t,h,b⟩:=QY t h b;exact aiI (λs tr t=>Ec a (i+1) (id+64) s tr t) h b
end Go.Abs
