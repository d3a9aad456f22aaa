/-
  Tree (a part of a claim: our own text).
-/
import Derived.Test.YtciomjhdpbiaeaaGreatYEOb
namespace Go.Abs
inductive Step3 (σ τ R:Type)where
 |next (x:σ)
 |out (y:τ)
 |fin (r:R)
structure CallS (α:Type)where
 P:Program
 f:Tgt
 o:Option α
 k:Nat
 args:List AVal
 m:Mem
 res:α->AVal
 m':α->Mem
 ok:∀y,o=some y->az3z P f k args m (res y) (m' y)
inductive T:Type->Type 1 where
 |ret {R:Type} (r:R):T R
 |retW {R:Type} (l:List Nat) (r:R):T R
 |grd {R:Type} (p:Prop) [d:Decidable p] (k:T R):T R
 |ok {R:Type} (p:Prop) (h:p) (k:T R):T R
 |conv {R:Type} (i:Nat) (c:Conv) (k:T R):T R
 |br {R:Type} (b:Bool) (t f:T R):T R
 |brP {R:Type} (p:Prop) [d:Decidable p] (t f:T R):T R
 |call {R α:Type} (c:CallS α) (σ:List (Nat×Nat)) (k:α->T R):T R
 |name {R:Type} (i:Nat) (e:Int) (k:Int->T R):T R
 |loop {R σ τ:Type} (I:σ->St) (e:Ex) (J:τ->St) (body:σ->T (Step3 σ τ R)) (x0:σ) (l:List Nat) (k:τ->T R):T R
 |cut {R τ:Type} (d:Nat) (J:τ->St) (body:T (Step3 Unit τ R)) (k:τ->T R):T R
 |unroll {R:Type} (n:Nat) (k:T R):T R
 |clo {R:Type} (i:Nat) (c:Conv) (k:T R):T R
 |split {R:Type} (b:Bool) (t f:T R):T R
 |known {R:Type} (b:Bool) (t:T R):T R
 |lit {R:Type} (i:Nat) (n:Int) (k:T R):T R
 |cas {R:Type} (i:Nat) (e n:Int) (t f:T R):T R
 |both {R:Type} (t f:T R):T R
 |stop {R:Type}:T R
def iter {σ τ R:Type}(f:σ->Option (Step3 σ τ R)):Nat->σ->Option (τ ⊕ R)
 |0,_=>none
 |n+1,x=>match f x with
  |some (.next x')=>iter f n x'
  |some (.out y)=>some (.inl y)
  |some (.fin r)=>some (.inr r)
  |none=>none
def andK {τ R:Type}(o:Option (τ ⊕ R))(k:τ->Option R):Option R:=
 match o with
 |some (.inl y)=>k y
 |some (.inr r)=>some r
 |none=>none
def andC {τ R:Type}(o:Option (Step3 Unit τ R))(k:τ->Option R):Option R:=
 match o with
 |some (.out y)=>k y
 |some (.fin r)=>some r
 |_=>none
def grd {R:Type}(p:Prop)[Decidable p](k:Option R):Option R:=if p then k else none
def T.run (N:Nat):{R:Type}->T R->Option R
 |_,.ret r=>some r
 |_,.retW _ r=>some r
 |_,.ok _ _ k=>k.run N
 |_,.conv _ _ k=>k.run N
 |_,@T.grd _ p d k=>@Go.Abs.grd _ p d (k.run N)
 |_,.br b t f=>bif b then t.run N else f.run N
 |_,@T.brP _ p d t f=>bif @decide p d then t.run N else f.run N
 |_,.call c _ k=>c.o.bind fun y=>(k y).run N
 |_,.name _ e k=>(k e).run N
 |_,.loop _ _ _ body x0 _ k=>andK (iter (fun x=>(body x).run N) N x0) fun y=>(k y).run N
 |_,.cut _ _ body k=>andC (body.run N) fun y=>(k y).run N
 |_,.unroll _ k=>k.run N
 |_,.clo _ _ k=>k.run N
 |_,.split b t f=>bif b then t.run N else f.run N
 |_,.known _ t=>t.run N
 |_,.lit _ _ k=>k.run N
 |_,.cas _ e n t f=>bif e==n then t.run N else f.run N
 |_,.both t _=>t.run N
 |_,.stop=>none
theorem grd_some {R:Type}{p:Prop}[Decidable p]{k:Option R}{r:R}:grd p k=some r↔p/\k=some r:=by
 unfold grd;split<;>simp_all
def exEq:Ex->Ex->Bool
 | .normal,.normal=>true
 | .ret,.ret=>true
 | .exit a,.exit b=>decide (a=b)
 |_,_=>false
theorem az0q {a b:Ex}(h:exEq a b=true):a=b:=by
 cases a<;>cases b<;>simp_all [exEq]
def zzh:Ex->Bool
 | .normal=>true
 |_=>false
def Lz3 {R:Type}(t:T R)(K:T R->Ob):Ob:=
 match t with
 | .split b t f=>.and (.imp (b=true) (Lz3 t K)) (.imp (b=false) (Lz3 f K))
 | .stop=>.tru
 |t=>K t
theorem Lz4 {R:Type}{N:Nat}{r:R}{K:T R->Ob}:∀ (t:T R),(Lz3 t K).holds->t.run N=some r->∃t',(K t').holds/\t'.run N=some r:=by
 intro t
 induction t with
 |split b t f iht ihf=>
  intro h hr
  simp only[Lz3]at h
  simp only[T.run]at hr
  cases b with
  |true=>exact iht (h.1 rfl) hr
  |false=>exact ihf (h.2 rfl) hr
 |stop=>intro _ hr;simp[T.run]at hr
 |_=>intro h hr;exact⟨_,h,hr⟩
def az2p (o:Oper):Bool:=
 match o.op with
 | .call c=>match c.callee with
   | .value _=>true
   | .invoke _ _=>true
   |_=>false
 |_=>false
def az2r (o:Oper):Bool:=
 match o.op with
 | .next _ true=>true
 |_=>false
def az3a (k:Nat):Hint:=⟨[],k,[],[],.any,[],.none⟩
def az2q (o:Oper):Bool:=
 match o.op with
 | .makeSlice _ _ _=>true
 | .slice _ _ _ _ _=>true
 | .binOp op _ _ y _=>Mzl op y
 |_=>false
def az03 (o:Oper)(n:Nat):Nat:=
 match o.op with
 | .alloc _=>if 1000≤n then n-999 else 0
 | .buildSlice _ _ _=>if n=1000 then 1 else 0
 | .store _ _ _=>if n=998 then 1 else 0
 |_=>0
def unT {R:Type}(o:Oper)(t:T R):Nat×T R:=
 if az2q o then(match t with
  | .unroll n t'=>(n,t')
  |t=>(0,t))else(match t with
  | .unroll n t'=>if az03 o n=0 then(0,.unroll n t')else(az03 o n,t')
  |t=>(0,t))
theorem az23 {R:Type}{N:Nat}(o:Oper)(t:T R):(unT o t).2.run N=t.run N:=by
 unfold unT
 split
 ·split<;>simp[T.run]
 ·split
  ·split<;>simp[T.run]
  ·rfl
def cvT {R:Type}(j:Nat)(t:T R):Conv×T R:=
 match t with
 | .conv i c t'=>if i=j then(c,t')else(.none,.conv i c t')
 |t=>(.none,t)
theorem az0n {R:Type}{N j:Nat}(t:T R):(cvT j t).2.run N=t.run N:=by
 unfold cvT
 split
 ·split<;>simp[T.run]
 ·rfl
def opH (k:Nat)(c:Conv):Hint:=⟨[],k,[],[],.any,[],c⟩
def az0l (c:Conv)(out:Out):Ob:=
 match c with
 | .none=>.tru
 | .val _ p _ _=>(match out.val with
   | .pure x=>.eq x p
   | .clip x=>.eq x p
   |_=>.no)
 | .res _ r _ _=>(match out.wr with
   |(_,x)::_=>.eq x r
   |_=>.no)
def Rzc:Conv->Option Prop
 | .none=>none
 | .val pre _ _ _=>pre
 | .res pre _ _ _=>pre
def preO (a b:Option Prop):Ob:=
 match a,b with
 |none,_=>.tru
 |some p,some q=>.eq p q
 |some _,none=>.no
theorem Mzq {a b:Option Prop}(h:(preO a b).holds)(hb:holds b):holds a:=by
 unfold preO at h
 split at h
 ·trivial
 ·have h:_=_:=h
  subst h;exact hb
 ·exact h.elim
theorem az0m {c:Conv}{out:Out}(h:(az0l c out).holds)(hp:holds (Rzc c)):Hzn c out:=by
 unfold az0l at h
 unfold Hzn
 split at h
 ·trivial
 ·simp only[Rzc]at hp
  split at h
  ·rename_i hx;rw[hx];exact⟨h,hp⟩
  ·rename_i hx;rw[hx];exact⟨h,hp⟩
  ·exact h.elim
 ·simp only[Rzc]at hp
  split at h
  ·rename_i hx;rw[hx];exact⟨h,hp⟩
  ·exact h.elim
def CallS.hint {α:Type}(c:CallS α)(σ:List (Nat×Nat))(y:α):Hint:=⟨σ,c.k,c.args,c.m,c.res y,c.m' y,.none⟩
section
variable (P:Program) (nt:Nat) (rid:Nat) (ops:List Oper)
def Lzd (o:Oper)(s:St):Option (Tgt×List AVal):=
 match o.op with
 | .call c=>match c.callee with
   | .value x=>match czb s x with
     | .func f first caps=>some (.fn f,first++c.args.toList.map (czb s)++caps)
     | .yld l=>some (.yld l,c.args.toList.map (czb s))
     |_=>none
   | .invoke x name=>match czb s x with
     | .iface t a=>match Cz4 P t name with
       |some f=>some (.fn f,a::c.args.toList.map (czb s))
       |none=>none
     |_=>none
   |_=>none
 |_=>none
def az2a {α:Type}(c:CallS α)(σ:List (Nat×Nat))(f:Tgt)(as:List AVal)(id:Nat)(s:St):Ob:=
 .and (Nzg (bzw s.mem c.args (czj s.mem c.args as).1).1 (AVal.renL (ez8 σ c.k id) c.args)) (.and (subM s.mem (Mem.ren (ez8 σ c.k id) c.m)) (.and (.eq c.P P) (.eq c.f f)))
theorem Xzm {α:Type}{c:CallS α}{σ:List (Nat×Nat)}{f:Tgt}{as:List AVal}{i id:Nat}{o:Oper}{s:St}{y:α}{out:Out}{b:Bool}(hc:Lzd P o s=some (f,as))(hy:c.o=some y)
 (h:(az2a P c σ f as id s).holds) (hs:mzz P (fun _=>some (c.hint σ y)) i o id s=some (out,b)):holds out.obl:=by
 have hsp:=c.ok y hy
 obtain⟨h1,h2,h3,h4⟩:=h
 have h3:c.P=P:=h3
 have h4:c.f=f:=h4
 rw[h3,h4]at hsp
 unfold Lzd at hc
 unfold mzz at hs
 split at hc
 ·rename_i cc hop
  rw[hop]at hs
  simp only at hs
  split at hc
  ·rename_i x hx
   rw[hx]at hs
   simp only at hs
   split at hc
   ·rename_i g first caps hfx
    rw[hfx]at hs
    simp only[Option.some.injEq,Prod.mk.injEq]at hc
    obtain⟨rfl,rfl⟩:=hc
    simp only[CallS.hint]at hs
    obtain⟨_,hs⟩:=Option.ite_none_right_eq_some.1 hs
    cases hs;exact⟨nzr h1,Ezz h2,hsp⟩
   ·rename_i l hfx
    rw[hfx]at hs
    simp only[Option.some.injEq,Prod.mk.injEq]at hc
    obtain⟨rfl,rfl⟩:=hc
    simp only[CallS.hint]at hs
    obtain⟨_,hs⟩:=Option.ite_none_right_eq_some.1 hs
    cases hs;exact⟨nzr h1,Ezz h2,hsp⟩
   ·cases hc
  ·rename_i x name hx
   rw[hx]at hs
   simp only at hs
   split at hc
   ·rename_i tt a hfx
    rw[hfx]at hs
    split at hc
    ·rename_i g hm
     simp only[Option.some.injEq,Prod.mk.injEq]at hc
     obtain⟨rfl,rfl⟩:=hc
     simp only[CallS.hint,hm]at hs
     obtain⟨_,hs⟩:=Option.ite_none_right_eq_some.1 hs
     cases hs;exact⟨nzr h1,Ezz h2,hsp⟩
    ·cases hc
   ·cases hc
  ·cases hc
 ·cases hc
section
variable (i:Nat) (o:Oper) (id:Nat) (tr:List Eff) {R:Type} (K:St->List Eff->T R->Ob)
def Czg (s:St)(out:Out)(t:T R):Ob:=if lzg nt o.dst&&Azv id out then K (gz7 s o out) (tr++[yzv ops o id out]) t else .no
def Mzk (s:St)(out:Out)(t:T R):Ob:=
 match t with
 | .name j e k=>if j=rid * 1000+i then(match out.val with
   | .pure (.int kk e')=>.and (.eq e' e) (.all fun z=>Czg nt ops o id tr K s {out with val:=.pure (.int kk z)} (k z))
   |_=>.no)else Czg nt ops o id tr K s out (.name j e k)
 | .lit j e k=>if j=rid * 1000+i then(match out.val with
   | .pure (.int kk e')=>.and (.eq e' e) (Czg nt ops o id tr K s {out with val:=.pure (.int kk e)} k)
   |_=>.no)else Czg nt ops o id tr K s out (.lit j e k)
 | .cas j e n t f=>if j=rid * 1000+i then(match out.val with
   | .pure (.int kk e')=>.and (.eq e' e) (.and (.imp (e=n) (Czg nt ops o id tr K s {out with val:=.pure (.int kk n)} t)) (.imp (¬e=n) (Mzk s out f)))
   |_=>.no)else Czg nt ops o id tr K s out (.cas j e n t f)
 | .stop=>.tru
 |t=>Czg nt ops o id tr K s out t
def Rzn (s:St)(t:T R):Ob:=
 match t with
 | .call c σ k=>match Lzd P o s with
   |some (f,as)=>.and (az2a P c σ f as id s) (.all fun y=>.imp (c.o=some y) (match mzz P (fun _=>some (c.hint σ y)) i o id s with
    |some (out,_)=>Czg nt ops o id tr K s out (k y)
    |none=>.no))
   |none=>.no
 |_=>.no
def Rzo (s:St)(t:T R):Ob:=
 match t with
 |@T.brP _ p _ t1 t2=>.and (.imp p (match mzz P (fun _=>some (az3a 1)) i o id s with
  |some (out,_)=>(match out.obl with
   |some q=>.and (.eq q p) (Czg nt ops o id tr K s out t1)
   |none=>Czg nt ops o id tr K s out t1)
  |none=>.no)) (.imp (¬p) (match mzz P (fun _=>some (az3a 0)) i o id s with
  |some (out,_)=>(match out.obl with
   |some q=>.and (.eq q (¬p)) (Czg nt ops o id tr K s out t2)
   |none=>Czg nt ops o id tr K s out t2)
  |none=>.no))
 |_=>.no
def az1k (s:St)(m:Nat)(c:Conv)(t:T R):Ob:=
 match mzz P (fun _=>some (opH m c)) i o id s with
 |some (out,_)=>match Ez5 c out with
  |some out1=>.and (az0l c out) (match out.obl with
   |none=>.and (preO (Rzc c) none) (Mzk nt rid ops i o id tr K s out1 t)
   |some q=>match t with
    |@T.grd _ p _ k=>.imp p (.and (.eq q p) (.and (preO (Rzc c) (some p)) (Mzk nt rid ops i o id tr K s out1 k)))
    | .ok p _ k=>.and (.eq q p) (.and (preO (Rzc c) (some p)) (Mzk nt rid ops i o id tr K s out1 k))
    |_=>.no)
  |none=>.no
 |none=>.no
def runO (s:St)(t:T R):Ob:=
 if az2p o then Rzn P nt ops i o id tr K s t
 else if az2r o then Rzo P nt ops i o id tr K s t
 else az1k P nt rid ops i o id tr K s (unT o t).1 (cvT (rid * 1000+i) (unT o t).2).1 (cvT (rid * 1000+i) (unT o t).2).2
def Rzu (s:St)(t:T R):Ob:=if lzg nt o.dst then K (s.putD o.dst (.tup [])) (tr++[⟨o.dst,szy ops o,id,.tup [],[],[]⟩]) t else .no
def opO (s:St)(t:T R):Ob:=
 match czr ops s o with
 | .run=>runO P nt rid ops i o id tr K s t
 | .skip=>Rzu nt ops o id tr K s t
 | .bad=>.no
 | .ask q b want=>match t with
   | .br b' t1 t2=>.and (.eq b b') (.and (.imp (b'=true) (if want then runO P nt rid ops i o id tr K (s.put q .tt) t1 else Rzu nt ops o id tr K (s.put q .tt) t1)) (.imp (b'=false) (if want then Rzu nt ops o id tr K (s.put q .ff) t2 else runO P nt rid ops i o id tr K (s.put q .ff) t2)))
   | .known true t1=>.and (.eq b true) (if want then runO P nt rid ops i o id tr K (s.put q .tt) t1 else Rzu nt ops o id tr K (s.put q .tt) t1)
   | .known false t1=>.and (.eq b false) (if want then Rzu nt ops o id tr K (s.put q .ff) t1 else runO P nt rid ops i o id tr K (s.put q .ff) t1)
   |_=>.no
end
def Qz3 {R:Type}:(i:Nat)->List Oper->(id:Nat)->St->List Eff->T R->(St->List Eff->T R->Ob)->Ob
 |_,[],_,s,tr,t,K=>K s tr t
 |i,o::rest,id,s,tr,t,K=>Lz3 t fun t=>opO P nt rid ops i o id tr (fun s tr t=>Qz3 (i+1) rest (id+64) s tr t K) s t
end
def finT {R:Type}(t:T R)(s:St):Option (R×St):=
 match t with
 | .ret r=>some (r,s)
 | .retW l r=>some (r,s.weak l)
 |_=>none
def closeX (m:Mem)(i:Nat):Option (Res×Nat×Res):=
 match m.get i with
 |some (.vecX sz n f e h off k)=>match m.get k with
  |some (.vec sz' n' g _ e')=>some (.vec sz n (fz1 f h off (.lst sz' n' g)) 0 e,k,.vec sz' n' g n' e')
  |_=>none
 |_=>none
def Vzd:Res->Bool
 | .vec ..=>true
 |_=>false
def finO {R:Type}(t:T R)(s:St)(K:T R->St->Ob):Ob:=
 match t with
 | .clo i c t=>match closeX s.mem i with
   |some (x,k,y)=>match c with
    | .res pre r r' _=>if Vzd r' then .and (.eq x r) (.and (preO pre none) (finO t {s with mem:=(i,r')::(k,y)::s.mem} K))else .no
    |_=>.no
   |none=>.no
 |t=>K t s
def Dzu {R:Type}(step:T R->St->(Ex->T R->St->Ob)->Ob):Nat->T R->St->(Ex->T R->St->Ob)->Ob
 |0,_,_,_=>.no
 |k+1,t,s,K=>step t s fun e t s=>match e with
  | .normal=>Dzu step k t s K
  |e=>K e t s
section
variable (P:Program) (nt n0:Nat) (drawOk:List Oper->List Eff->Bool)
def okO {σ:Type}(I:σ->St):Ob:=.all fun x=>.and (.eq (I x).ok true) (.eq (decide (n0≤(I x).nx)) true)
def vcT:Code->{R:Type}->T R->St->(Ex->T R->St->Ob)->Ob
 | .skip,_,t,s,K=>K .normal t s
 | .label _,_,t,s,K=>K .normal t s
 | .region rid ops draw,_,t,s,K=>match(if draw then none else kzz ops.toList)with
   |some (l,x)=>Qz3 P nt rid ops.toList 0 l s.nx s [] t fun s' _ t'=>match czb s' x with
    | .func f a b=>K .normal t' {s' with df:=.func f a b::s'.df,nx:=s.nx+64 * ops.toList.length}
    |_=>.no
   |none=>Qz3 P nt rid ops.toList 0 ops.toList s.nx s [] t fun s' tr t'=>
    if !draw||drawOk ops.toList tr then K .normal t' {s' with nx:=s.nx+64 * ops.toList.length}else .no
 | .seq a b,_,t,s,K=>match t with
   | .cut 0 J body k=>.and (okO n0 J) (.and (vcT a body s (fun e t' s'=>finO t' s' fun t' s'=>match finT t' s' with
    |some (.out y,s'')=>if zzh e then entO n0 s'' (J y)else .no
    |some (.fin r,s'')=>if zzh e then .no else K e (.ret r) s''
    |_=>.no)) (.all fun y=>vcT b (k y) (J y) K))
   | .cut (d+1) J body k=>vcT a (.cut d J body k) s fun e t s=>match e with
     | .normal=>vcT b t s K
     |e=>K e t s
   |t=>vcT a t s fun e t s=>match e with
    | .normal=>vcT b t s K
    |e=>K e t s
 | .cond c a b,_,t,s,K=>match czb s c with
   | .tt=>vcT a t s K
   | .ff=>vcT b t s K
   | .anyb=>match t with
     | .both t1 t2=>.and (.all fun N:Nat=>.eq (T.run N t1) (T.run N t2)) (.and (vcT a t1 s K) (vcT b t2 s K))
     |t=>.and (vcT a t s K) (vcT b t s K)
   | .pure (.bool x)=>match t with
     | .br x' t1 t2=>.and (.eq x x') (.and (.imp (x'=true) (vcT a t1 s K)) (.imp (x'=false) (vcT b t2 s K)))
     | .known true t1=>.and (.eq x true) (vcT a t1 s K)
     | .known false t1=>.and (.eq x false) (vcT b t1 s K)
     |_=>.no
   |_=>.no
 | .block id body,_,t,s,K=>vcT body t s fun e t s=>match e with
   | .exit j=>if j=id then K .normal t s else K (.exit j) t s
   |e=>K e t s
 | .loop body,_,t,s,K=>match t with
   | .unroll n t=>Dzu (vcT body) n t s K
   | .loop I e J bodyT x0 l k=>.and (okO n0 I) (.and (okO n0 J) (.and (entO n0 (s.weak l) (I x0)) (.and
    (.all fun x=>vcT body (bodyT x) (I x) fun e' t' s'=>finO t' s' fun t' s'=>match finT t' s' with
     |some (.next x',s'')=>if zzh e' then entO n0 s'' (I x')else .no
     |some (.out y,s'')=>if exEq e' e&& !zzh e' then entO n0 s'' (J y)else .no
     |some (.fin r,s'')=>if zzh e' then .no else K e' (.ret r) s''
     |_=>.no) (.all fun y=>Lz3 (k y) fun t=>K e t (J y)))))
   |_=>.no
 | .scope body,_,t,s,K=>vcT body t s K
 | .exit id,_,t,s,K=>K (.exit id) t s
 | .ret,_,t,s,K=>K .ret t s
 |_,_,_,_,_=>.no
end
theorem Vzz {n0:Nat}{σ:Type}{I:σ->St}(h:(okO n0 I).holds)(x:σ):(I x).ok=true/\n0≤(I x).nx:=by
 obtain⟨h1,h2⟩:=h x
 exact⟨h1,of_decide_eq_true h2⟩
theorem Tz6 {X:Cx}{F:Cells}{w:World}{ρ:Env}{a:Act}{s:St}{i k:Nat}{x y r':Res}(hc:closeX s.mem i=some (x,k,y))(hv:Vzd r'=true)(hr:RSub x r')(hs:Sat X F w ρ s a)(ho:s.ok=true):
 ∃F',Sat X F' w ρ {s with mem:=(i,r')::(k,y)::s.mem} a/\({s with mem:=(i,r')::(k,y)::s.mem}:St).ok=true:=by
 unfold closeX at hc
 split at hc
 ·rename_i sz n f e h off k' hi
  split at hc
  ·rename_i sz' n' g sh e' hk
   cases hc
   obtain⟨F',st,hm⟩:=hs.mem.closeX hs.good hi hk
   have hget:∀j q,Mem.get ((i,r')::(k,Res.vec sz' n' g n' e')::s.mem) j=some q->∃q0,Mem.get ((i,Res.vec sz n (fz1 f h off (.lst sz' n' g)) 0 e)::(k,Res.vec sz' n' g n' e')::s.mem) j=some q0/\RSub q0 q:=by
    intro j q hq
    rw[Mem.get]at hq⊢
    split at hq
    ·rename_i e1;cases hq;rw[if_pos e1];exact⟨_,rfl,hr⟩
    ·rename_i e1;rw[if_neg e1];exact⟨q,hq,RSub.refl q⟩
   refine⟨F',⟨hs.size,fun t=>(hs.fr t).mono' st.sub st.cell,⟨fun j q hq=>?_,fun j q b hq hb=>?_,fun j j' q q' b hq hq' hb hb'=>?_⟩,Lz7 (fun _=>True) st.sub st.cell (fun _ _=>⟨rfl,rfl⟩) hs.df (fun _ h=>absurd trivial h),st.good hs.good,hs.from0.trans st,hs.env0⟩,?_⟩
   ·obtain⟨q0,q1,q2⟩:=hget j q hq;exact(q2.rel _ _ _ _ (hm.ok _ _ q1)).1
   ·obtain⟨q0,q1,q2⟩:=hget j q hq;exact hm.mine _ _ _ q1 ((q2.rel _ _ _ _ (hm.ok _ _ q1)).2 b hb)
   ·obtain⟨q0,q1,q2⟩:=hget j q hq
    obtain⟨q3,q4,q5⟩:=hget j' q' hq'
    exact hm.disj _ _ _ _ b q1 q4 ((q2.rel _ _ _ _ (hm.ok _ _ q1)).2 b hb) ((q5.rel _ _ _ _ (hm.ok _ _ q4)).2 b hb')
   ·simp only[St.ok,Bool.and_eq_true]at ho⊢
    have hl:Res.lt s.nx r'=true:=by cases r'<;>simp[Vzd]at hv;rfl
    simp only[mzg,Bool.and_eq_true,decide_eq_true_eq]
    exact⟨⟨ho.1.1,⟨Hz2 ho.1.2 hi,hl⟩,⟨Hz2 ho.1.2 hk,rfl⟩,ho.1.2⟩,ho.2⟩
  ·cases hc
 ·cases hc
theorem Mz0 {X:Cx}{N:Nat}{R:Type}{r:R}{w:World}{ρ:Env}{a:Act}{K:T R->St->Ob}:∀ (t:T R) {s:St} {F:Cells},(finO t s K).holds->t.run N=some r->Sat X F w ρ s a->s.ok=true->X.n0≤s.nx->
 ∃t' F' s',(K t' s').holds/\t'.run N=some r/\Sat X F' w ρ s' a/\s'.ok=true/\X.n0≤s'.nx:=by
 intro t
 induction t with
 |clo i c k ih=>
  intro s F h hr hs ho h0
  simp only[finO]at h
  split at h
  ·rename_i x kk y hc
   split at h
   ·rename_i pre q q' hh
    split at h
    ·rename_i hv
     obtain⟨h1,h2,h3⟩:=h
     have h1:x=q:=h1
     subst h1
     obtain⟨F',hs',ho'⟩:=Tz6 hc hv (hh (Mzq h2 trivial)) hs ho
     exact ih h3 (by simpa[T.run]using hr) hs' ho' h0
    ·exact h.elim
   ·exact h.elim
  ·exact h.elim
 |_=>intro s F h hr hs ho h0;exact⟨_,F,s,h,hr,hs,ho,h0⟩
theorem tza {N:Nat}{R:Type}{t:T R}{s s':St}{r r':R}(h:finT t s=some (r',s'))(hr:t.run N=some r):r'=r:=by
 unfold finT at h
 split at h
 ·cases h;simpa[T.run]using hr
 ·cases h;simpa[T.run]using hr
 ·cases h
theorem tzb {R:Type}{t:T R}{s s':St}{r:R}(h:finT t s=some (r,s')){X:Cx}{F:Cells}{w:World}{ρ:Env}{a:Act}(hs:Sat X F w ρ s a)(ho:s.ok=true)(h0:X.n0≤s.nx):
 Sat X F w ρ s' a/\s'.ok=true/\X.n0≤s'.nx:=by
 unfold finT at h
 split at h
 ·cases h;exact⟨hs,ho,h0⟩
 ·cases h;exact⟨St.weak_sat hs,St.weak_ok ho,h0⟩
 ·cases h
theorem Jzo {P:Program}{nt:Nat}{ops:List Oper}{hint hint':Nat->Option Hint}{K:St->List Eff->Prop}:
 ∀ (rest:List Oper) (i id:Nat) (s:St) (tr:List Eff),(∀j,i≤j->hint j=hint' j)->iz7 P nt ops hint i rest id s tr K->iz7 P nt ops hint' i rest id s tr K
 |[],i,id,s,tr,_,h=>h
 |o::rest,i,id,s,tr,he,h=>by
  have hstep:∀s,gz3 P hint' i o id s=gz3 P hint i o id s:=fun s=>by
   unfold gz3 mzz;rw[he i (Nat.le_refl i)]
  have ih:=fun s tr=>Jzo (P:=P) (nt:=nt) (ops:=ops) (K:=K) rest (i+1) (id+64) s tr (fun j hj=>he j (by omega))
  have run:∀ (s:St),(match gz3 P hint i o id s with
   |some (out,_)=>if lzg nt o.dst&&Azv id out then andO out.obl (iz7 P nt ops hint (i+1) rest (id+64) (gz7 s o out) (tr++[yzv ops o id out]) K)else False
   |none=>False)->(match gz3 P hint' i o id s with
   |some (out,_)=>if lzg nt o.dst&&Azv id out then andO out.obl (iz7 P nt ops hint' (i+1) rest (id+64) (gz7 s o out) (tr++[yzv ops o id out]) K)else False
   |none=>False):=by
   intro s h
   rw[hstep]
   split at h
   ·split at h
    ·rename_i hc;simp only[hc,if_true];rw[andO_iff]at h⊢;exact⟨h.1,ih _ _ h.2⟩
    ·exact h.elim
   ·exact h.elim
  have skip:∀ (s:St),(if lzg nt o.dst then iz7 P nt ops hint (i+1) rest (id+64) (s.putD o.dst (.tup [])) (tr++[⟨o.dst,szy ops o,id,.tup [],[],[]⟩]) K else False)->
   (if lzg nt o.dst then iz7 P nt ops hint' (i+1) rest (id+64) (s.putD o.dst (.tup [])) (tr++[⟨o.dst,szy ops o,id,.tup [],[],[]⟩]) K else False):=by
   intro s h
   split at h
   ·rename_i hc;simp only[hc,if_true];exact ih _ _ h
   ·exact h.elim
  simp only[iz7]at h⊢
  split at h
  ·exact run s h
  ·exact skip s h
  ·exact h.elim
  ·rename_i t b want _
   refine⟨fun hb=>?_,fun hb=>?_⟩
   ·have:=h.1 hb
    cases want
    ·exact skip _ this
    ·exact run _ this
   ·have:=h.2 hb
    cases want
    ·exact run _ this
    ·exact skip _ this
theorem lzw {P:Program}{h:Hint}(hc:h.cv=.none){i:Nat}{o:Oper}{id:Nat}{s:St}:gz3 P (fun _=>some h) i o id s=mzz P (fun _=>some h) i o id s:=by
 unfold gz3
 simp only[cvOf,hc,Ez5]
 split
 ·rename_i out b e;rw[e];rfl
 ·rename_i e;rw[e]
def Xze (P:Program)(nt:Nat)(ops:List Oper){R:Type}(N:Nat)(r:R)(i:Nat)(rest:List Oper)(id:Nat)(s:St)(tr:List Eff)(K:St->List Eff->T R->Ob):Prop:=
 ∃hint t',T.run N t'=some r/\iz7 P nt ops hint i rest id s tr (fun s tr=>(K s tr t').holds)
section
variable {P:Program} {nt rid:Nat} {ops:List Oper} {R:Type} {N:Nat} {r:R} {K:St->List Eff->T R->Ob} {rest:List Oper} {i:Nat} {o:Oper} {id:Nat} {tr:List Eff} {K':St->List Eff->T R->Ob}
def Qz7 (P:Program)(nt:Nat)(ops:List Oper){R:Type}(N:Nat)(r:R)(K:St->List Eff->T R->Ob)(rest:List Oper)(i:Nat)(o:Oper)(id:Nat)(tr:List Eff)(s:St):Prop:=
 ∃hint t',T.run N t'=some r/\(match gz3 P hint i o id s with
  |some (out,_)=>if lzg nt o.dst&&Azv id out then andO out.obl (iz7 P nt ops hint (i+1) rest (id+64) (gz7 s o out) (tr++[yzv ops o id out]) (fun s tr=>(K s tr t').holds))else False
  |none=>False)
variable (ih:∀s tr t,(K' s tr t).holds->T.run N t=some r->Xze P nt ops N r (i+1) rest (id+64) s tr K)
include ih
theorem vza {s:St}{h?:Option Hint}{out out0:Out}{b:Bool}(hs:gz3 P (fun _=>h?) i o id s=some (out,b))(ho:holds out.obl)(he:out0={out with obl:=out0.obl}){t:T R}
 (hn:(Czg nt ops o id tr K' s out0 t).holds) (hr:t.run N=some r):Qz7 P nt ops N r K rest i o id tr s:=by
 have e1:Azv id out0=Azv id out:=by rw[he];rfl
 have e2:gz7 s o out0=gz7 s o out:=by rw[he];rfl
 have e3:yzv ops o id out0=yzv ops o id out:=by rw[he];rfl
 unfold Czg at hn
 split at hn
 ·rename_i hc
  rw[e1]at hc
  rw[e2,e3]at hn
  obtain⟨hint,t',hr',hv⟩:=ih _ _ _ hn hr
  refine⟨fun j=>if j=i then h? else hint j,t',hr',?_⟩
  have hst:gz3 P (fun j=>if j=i then h? else hint j) i o id s=gz3 P (fun _=>h?) i o id s:=by
   unfold gz3 mzz;simp only[if_true]
  rw[hst,hs]
  simp only[hc,if_true]
  rw[andO_iff]
  exact⟨ho,Jzo _ _ _ _ _ (fun j hj=>by rw[if_neg (by omega)]) hv⟩
 ·exact hn.elim
theorem Yzs {s:St}{h?:Option Hint}{out out0:Out}{b:Bool}(hs:gz3 P (fun _=>h?) i o id s=some (out,b))(ho:holds out.obl)(he:out0={out with obl:=out0.obl}):∀ {t:T R},
 (Mzk nt rid ops i o id tr K' s out0 t).holds->t.run N=some r->Qz7 P nt ops N r K rest i o id tr s:=by
 intro t
 induction t with
 |name j e k=>
  intro hn hr
  simp only[Mzk]at hn
  split at hn
  ·split at hn
   ·rename_i kk e' hv
    obtain⟨h1,hz⟩:=hn
    have h1:e'=e:=h1
    have:=hz e
    simp only at this
    have ho':({out0 with val:=.pure (.int kk e)}:Out)=out0:=by rw[←h1,←hv]
    rw[ho']at this
    exact vza ih hs ho he this (by simpa[T.run]using hr)
   ·exact hn.elim
  ·exact vza ih hs ho he hn hr
 |lit j e k=>
  intro hn hr
  simp only[Mzk]at hn
  split at hn
  ·split at hn
   ·rename_i kk e' hv
    obtain⟨h1,hz⟩:=hn
    have h1:e'=e:=h1
    have ho':({out0 with val:=.pure (.int kk e)}:Out)=out0:=by rw[←h1,←hv]
    rw[ho']at hz
    exact vza ih hs ho he hz (by simpa[T.run]using hr)
   ·exact hn.elim
  ·exact vza ih hs ho he hn hr
 |cas j e n t f _ ihf=>
  intro hn hr
  simp only[Mzk]at hn
  split at hn
  ·split at hn
   ·rename_i kk e' hv
    obtain⟨h1,h2,h3⟩:=hn
    have h1:e'=e:=h1
    simp only[T.run]at hr
    by_cases en:e=n
    ·have h2:=h2 en
     have ho':({out0 with val:=.pure (.int kk n)}:Out)=out0:=by rw[←en,←h1,←hv]
     rw[ho']at h2
     exact vza ih hs ho he h2 (by simpa[en]using hr)
    ·exact ihf ih (h3 en) (by rw[show(e==n)=false by simp[en]]at hr;exact hr)
   ·exact hn.elim
  ·exact vza ih hs ho he hn hr
 |stop=>intro _ hr;simp[T.run]at hr
 |_=>intro hn hr;exact vza ih hs ho he hn hr
theorem Tzs {s:St}{t:T R}(h:(Rzn P nt ops i o id tr K' s t).holds)(hr:t.run N=some r):Qz7 P nt ops N r K rest i o id tr s:=by
 unfold Rzn at h
 split at h
 ·rename_i α c σ k
  split at h
  ·rename_i f as hc
   obtain⟨h1,h2⟩:=h
   simp only[T.run]at hr
   obtain⟨y,hy,hr⟩:=Option.bind_eq_some_iff.1 hr
   have h2:=h2 y hy
   split at h2
   ·rename_i out b hs
    exact vza ih ((lzw rfl).trans hs) (Xzm P hc hy h1 hs) rfl h2 hr
   ·exact h2.elim
  ·exact h.elim
 ·exact h.elim
theorem Tzt {s:St}{t:T R}(h:(Rzo P nt ops i o id tr K' s t).holds)(hr:t.run N=some r):Qz7 P nt ops N r K rest i o id tr s:=by
 unfold Rzo at h
 split at h
 ·rename_i p d t1 t2
  simp only[T.run]at hr
  by_cases hp:p
  ·have h:=h.1 hp
   rw[decide_eq_true hp]at hr
   split at h
   ·rename_i out b hs
    split at h
    ·rename_i q hq
     obtain⟨h1,h2⟩:=h
     have h1:q=p:=h1
     exact vza ih ((lzw rfl).trans hs) (by rw[hq];show q;rw[h1];exact hp) rfl h2 hr
    ·rename_i hq;exact vza ih ((lzw rfl).trans hs) (by rw[hq];trivial) rfl h hr
   ·exact h.elim
  ·have h:=h.2 hp
   rw[decide_eq_false hp]at hr
   split at h
   ·rename_i out b hs
    split at h
    ·rename_i q hq
     obtain⟨h1,h2⟩:=h
     have h1:q=¬p:=h1
     exact vza ih ((lzw rfl).trans hs) (by rw[hq];show q;rw[h1];exact hp) rfl h2 hr
    ·rename_i hq;exact vza ih ((lzw rfl).trans hs) (by rw[hq];trivial) rfl h hr
   ·exact h.elim
 ·exact h.elim
theorem Zz1 {s:St}{m:Nat}{c:Conv}{t:T R}(h:(az1k P nt rid ops i o id tr K' s m c t).holds)(hr:t.run N=some r):Qz7 P nt ops N r K rest i o id tr s:=by
 unfold az1k at h
 split at h
 ·rename_i out b hs
  split at h
  ·rename_i out1 hc
   obtain⟨h1,h2⟩:=h
   have fin:holds out.obl->holds (Rzc c)->∀t:T R,(Mzk nt rid ops i o id tr K' s out1 t).holds->t.run N=some r->Qz7 P nt ops N r K rest i o id tr s:=by
    intro ho hp t hn hr
    have hst:gz3 P (fun _=>some (opH m c)) i o id s=some ({out1 with obl:=Lzi c out},b):=by
     unfold gz3;rw[hs];simp only[cvOf,opH,hc]
    refine Yzs ih hst ?_ rfl hn hr
    have:=az0m h1 hp
    cases c with
    |none=>exact ho
    |val pre p q hh=>exact andO_iff.2 ⟨ho,this⟩
    |res pre p q hh=>exact andO_iff.2 ⟨ho,this⟩
   split at h2
   ·rename_i hq;exact fin (by rw[hq];trivial) (Mzq h2.1 trivial) _ h2.2 hr
   ·rename_i q hq
    split at h2
    ·rename_i p d k
     simp only[T.run]at hr
     obtain⟨hp,hr⟩:=grd_some.1 hr
     obtain⟨h3,h4,h5⟩:=h2 hp
     have h3:q=p:=h3
     exact fin (by rw[hq];show q;rw[h3];exact hp) (Mzq h4 hp) _ h5 hr
    ·rename_i p hp k
     simp only[T.run]at hr
     obtain⟨h3,h4,h5⟩:=h2
     have h3:q=p:=h3
     exact fin (by rw[hq];show q;rw[h3];exact hp) (Mzq h4 hp) _ h5 hr
    ·exact h2.elim
  ·exact h.elim
 ·exact h.elim
theorem Jz9 {s:St}{t:T R}(h:(runO P nt rid ops i o id tr K' s t).holds)(hr:t.run N=some r):Qz7 P nt ops N r K rest i o id tr s:=by
 unfold runO at h
 split at h
 ·exact Tzs ih h hr
 ·split at h
  ·exact Tzt ih h hr
  ·exact Zz1 ih h (by rw[az0n,az23];exact hr)
theorem Dzj {s:St}{t:T R}(h:(Rzu nt ops o id tr K' s t).holds)(hr:t.run N=some r):
 ∃hint t',T.run N t'=some r/\(if lzg nt o.dst then iz7 P nt ops hint (i+1) rest (id+64) (s.putD o.dst (.tup [])) (tr++[⟨o.dst,szy ops o,id,.tup [],[],[]⟩]) (fun s tr=>(K s tr t').holds)else False):=by
 unfold Rzu at h
 split at h
 ·rename_i hc
  obtain⟨hint,t',hr',hv⟩:=ih _ _ t h hr
  exact⟨hint,t',hr',by simp only[hc,if_true];exact hv⟩
 ·exact h.elim
theorem az3b {s:St}{t:T R}(h:(opO P nt rid ops i o id tr K' s t).holds)(hr:t.run N=some r):Xze P nt ops N r i (o::rest) id s tr K:=by
 unfold Xze
 simp only[iz7]
 unfold opO at h
 generalize czr ops s o=g at h⊢
 cases g with
 |run=>exact Jz9 ih h hr
 |skip=>exact Dzj ih h hr
 |bad=>exact h.elim
 |ask q b want=>
  simp only at h⊢
  split at h
  ·rename_i b' t1 t2
   obtain⟨h0,h1,h2⟩:=h
   have h0:b=b':=h0
   subst h0
   simp only[T.run]at hr
   cases b with
   |true=>
    have h1:=h1 rfl
    cases want with
    |true=>
     obtain⟨hint,t',hr',hv⟩:=Jz9 ih h1 hr
     exact⟨hint,t',hr',fun _=>hv,fun h=>Bool.noConfusion h⟩
    |false=>
     obtain⟨hint,t',hr',hv⟩:=Dzj ih h1 hr
     exact⟨hint,t',hr',fun _=>hv,fun h=>Bool.noConfusion h⟩
   |false=>
    have h2:=h2 rfl
    cases want with
    |true=>
     obtain⟨hint,t',hr',hv⟩:=Dzj ih h2 hr
     exact⟨hint,t',hr',fun h=>Bool.noConfusion h,fun _=>hv⟩
    |false=>
     obtain⟨hint,t',hr',hv⟩:=Jz9 ih h2 hr
     exact⟨hint,t',hr',fun h=>Bool.noConfusion h,fun _=>hv⟩
  ·rename_i t1
   obtain⟨h0,h1⟩:=h
   have h0:b=true:=h0
   subst h0
   simp only[T.run]at hr
   cases want with
   |true=>
    obtain⟨hint,t',hr',hv⟩:=Jz9 ih h1 hr
    exact⟨hint,t',hr',fun _=>hv,fun h=>Bool.noConfusion h⟩
   |false=>
    obtain⟨hint,t',hr',hv⟩:=Dzj ih h1 hr
    exact⟨hint,t',hr',fun _=>hv,fun h=>Bool.noConfusion h⟩
  ·rename_i t1
   obtain⟨h0,h1⟩:=h
   have h0:b=false:=h0
   subst h0
   simp only[T.run]at hr
   cases want with
   |true=>
    obtain⟨hint,t',hr',hv⟩:=Dzj ih h1 hr
    exact⟨hint,t',hr',fun h=>Bool.noConfusion h,fun _=>hv⟩
   |false=>
    obtain⟨hint,t',hr',hv⟩:=Jz9 ih h1 hr
    exact⟨hint,t',hr',fun h=>Bool.noConfusion h,fun _=>hv⟩
  ·exact h.elim
end
theorem Jzn {P:Program}{nt rid:Nat}{ops:List Oper}{R:Type}{N:Nat}{r:R}{K:St->List Eff->T R->Ob}:
 ∀ (rest:List Oper) (i id:Nat) (s:St) (tr:List Eff) (t:T R),(Qz3 P nt rid ops i rest id s tr t K).holds->t.run N=some r->Xze P nt ops N r i rest id s tr K
 |[],i,id,s,tr,t,h,hr=>⟨fun _=>none,t,hr,h⟩
 |o::rest,i,id,s,tr,t,h,hr=>by
  simp only[Qz3]at h
  obtain⟨t,h,hr⟩:=Lz4 t h hr
  exact az3b (fun s tr t=>Jzn rest (i+1) (id+64) s tr t) h hr
end Go.Abs
