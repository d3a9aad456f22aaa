/-
  Ob (a part of a claim: our own text).
-/
import Derived.Test.YtciomjhdpbiaeaaGreatYELib
namespace Go.Abs
inductive Ob:Type 1 where
 |tru
 |no
 |eq {α:Type} (a b:α)
 |and (a b:Ob)
 |imp (p:Prop) (a:Ob)
 |all {α:Type} (f:α->Ob)
def Ob.holds:Ob->Prop
 | .tru=>True
 | .no=>False
 | .eq a b=>a=b
 | .and a b=>a.holds/\b.holds
 | .imp p a=>p->a.holds
 | .all f=>∀x,(f x).holds
inductive Dt:Type 1 where
 |u
 |n (b:Bool)
 |v {α:Type} (a:α)
 |and (a b:Dt)
 |all {α:Type} (f:α->Dt)
def az3e {α:Type}(l:Bool)(a b:α):α:=
 match l with
 |true=>a
 |false=>b
def Ob.side (l:Bool):Ob->Dt
 | .tru=>.u
 | .no=>.n l
 | .eq a b=>.v (az3e l a b)
 | .and a b=>.and (a.side l) (b.side l)
 | .imp _ a=>a.side l
 | .all f=>.all fun x=>(f x).side l
theorem Ob.of_side:∀ {o:Ob},o.side true=o.side false->o.holds:=by
 intro o
 induction o with
 |tru=>intro _;trivial
 |no=>intro h;simp[Ob.side]at h
 |eq a b=>intro h;simp only[Ob.side,az3e,Dt.v.injEq,heq_eq_eq,true_and]at h;exact h
 |and a b iha ihb=>intro h;simp only[Ob.side,Dt.and.injEq]at h;exact⟨iha h.1,ihb h.2⟩
 |imp p a ih=>intro h _;exact ih h
 |all f ih=>intro h x;simp only[Ob.side,Dt.all.injEq,heq_eq_eq,true_and]at h;exact ih x (congrFun h x)
mutual
def subP:PVal->PVal->Ob
 | .lst 0 n _,.lst _ m _=>.and (.eq n 0) (.eq m 0)
 | .agg ps,.agg qs=>Kze ps qs
 |p,q=>.eq p q
def Kze:List PVal->List PVal->Ob
 |[],[]=>.tru
 |p::ps,q::qs=>.and (subP p q) (Kze ps qs)
 |_,_=>.no
end
mutual
def subA:AVal->AVal->Ob
 |_,.any=>.tru
 | .tt,.pure q=>.eq (PVal.bool true) q
 | .ff,.pure q=>.eq (PVal.bool false) q
 | .pure p,.pure q=>subP p q
 | .agg cs,.agg ds=>Nzg cs ds
 | .tup cs,.tup ds=>Nzg cs ds
 |a,b=>.eq a b
def Nzg:List AVal->List AVal->Ob
 |[],[]=>.tru
 |p::ps,q::qs=>.and (subA p q) (Nzg ps qs)
 |_,_=>.no
end
def subR:Res->Res->Ob
 |_,.gone=>.tru
 | .nilv,.vec _ n _ k _=>.and (.eq n 0) (.eq k 0)
 | .box cs,.box ds=>Nzg cs ds
 |r,r'=>.eq r r'
def subM (m:Mem):Mem->Ob
 |[]=>.tru
 |(i,r)::l=>.and (match m.get i with|some r0=>subR r0 r|none=>.no) (subM m l)
mutual
theorem Xz5:∀ {p q:PVal},(subP p q).holds->PSub p q:=by
 intro p q h
 unfold subP at h
 split at h
 ·exact PSub.nil h.1 h.2
 ·exact PSub.agg (Nzh h)
 ·exact PSub.of_eq h
theorem Nzh:∀ {p q:List PVal},(Kze p q).holds->PSubs p q:=by
 intro p q h
 unfold Kze at h
 split at h
 ·trivial
 ·exact⟨Xz5 h.1,Nzh h.2⟩
 ·exact h.elim
end
theorem az4g {l l':List AVal}(h:yzr l l'):ASub (.tup l) (.tup l'):=by
 refine⟨fun F w ρ v hv=>?_⟩
 obtain⟨h1,h2⟩:=sz1 (F:=F) (w:=w) (ρ:=ρ) h
 cases hv with
 |tup hl hr=>
  refine .tup (by omega) (fun j q u hq hu=>?_)
  obtain⟨p,hp,hs⟩:=h2 j q hq
  exact hs u (hr j p u hp hu)
mutual
theorem Xz4:∀ {p q:AVal},(subA p q).holds->ASub p q:=by
 intro p q h
 unfold subA at h
 split at h
 ·exact ASub.any
 ·have h:PVal.bool true=_:=h
  subst h;exact ASub.tt rfl
 ·have h:PVal.bool false=_:=h
  subst h;exact ASub.ff rfl
 ·exact(Xz5 h).a
 ·exact ASub.agg (nzr h)
 ·exact az4g (nzr h)
 ·exact ASub.of_eq h
theorem nzr:∀ {p q:List AVal},(Nzg p q).holds->yzr p q:=by
 intro p q h
 unfold Nzg at h
 split at h
 ·trivial
 ·exact⟨Xz4 h.1,nzr h.2⟩
 ·exact h.elim
end
theorem az20 {r r':Res}(h:(subR r r').holds):RSub r r':=by
 unfold subR at h
 split at h
 ·exact RSub.gone
 ·exact RSub.nilv h.1 h.2
 ·exact RSub.box (nzr h)
 ·exact RSub.of_eq h
theorem Ezz {m:Mem}:∀ {l:Mem},(subM m l).holds->MSub m l
 |[],_=>trivial
 |(i,r)::l,h=>by
  obtain⟨h1,h2⟩:=h
  refine⟨?_,Ezz h2⟩
  split at h1
  ·rename_i hg;rw[hg];exact az20 h1
  ·exact h1.elim
def Vz1 (s:St)(τ:Nat->Nat):List (Nat×AVal)->Ob
 |[]=>.tru
 |(t,a)::l=>.and (subA (nilP s.mem (s.get t) a) (a.ren τ)) (Vz1 s τ l)
def entO (n0:Nat)(s s':St):Ob:=
 let τ:=idOf n0 (Mzf n0 s s')
 if injB τ s'.mem&&s'.df.all isFn then .and (Vz1 s τ s'.fr) (.and (subM s.mem (Mem.ren τ s'.mem)) (Nzg s.df (AVal.renL τ s'.df)))else .no
theorem Oz6 {s:St}{τ:Nat->Nat}:∀ {l:List (Nat×AVal)},(Vz1 s τ l).holds->Xzw s τ l
 |[],_=>trivial
 |(_,_)::_,h=>⟨Xz4 h.1,Oz6 h.2⟩
theorem Lzk {n0:Nat}{s s':St}(h:(entO n0 s s').holds):Ent n0 s s':=by
 unfold entO at h
 unfold Ent
 simp only at h⊢
 split at h
 ·rename_i hc;rw[if_pos hc];exact⟨Oz6 h.1,Ezz h.2.1,nzr h.2.2⟩
 ·exact h.elim
structure GuardS (P:Program)where
 f:FuncId
 ok:GuardFn P f
def Ozb {P:Program}(gs:List (GuardS P)):List AVal->Ob
 |[]=>.tru
 | .func g _ _::l=>if gs.any (fun x=>x.f==g)then Ozb gs l else .no
 |_::_=>.no
theorem Ozc {P:Program}{gs:List (GuardS P)}:∀ {l:List AVal},(Ozb gs l).holds->Bzn P l
 |[],_=>trivial
 | .func g _ _::l,h=>by
   simp only[Ozb]at h
   split at h
   ·rename_i hc
    obtain⟨x,_,he⟩:=List.any_eq_true.1 hc
    exact⟨by have:=eq_of_beq he;rw[←this];exact x.ok,Ozc h⟩
   ·exact h.elim
 | .any::_,h| .pure _::_,h| .tt::_,h| .ff::_,h| .agg _::_,h| .tup _::_,h| .vec _::_,h| .ptr _ _::_,h| .eptr _ _ _ _::_,h| .ref _::_,h| .map _::_,h| .bsl _ _::_,h| .iface _ _::_,h| .anyb::_,h| .clip _::_,h| .view _ _ _ _::_,h| .yld _::_,h=>by
   simp[Ozb,Ob.holds]at h
def retO (P:Program)(gs:List (GuardS P))(n0 k:Nat)(results:List ResultVar)(res:AVal)(m':Mem)(s:St):Ob:=
 match kzp P s results with
 |none=>.no
 |some vs=>
  let hb:=gzn s.mem vs (gzz res)
  let τ:=idOf n0 (Mzg n0 s hb.1 (gzz res) m')
  if injB τ m'&&Vzt n0 k m'&&AVal.inL n0 k (gzz res)&&((results.length==1) !=Ozg res)then
   .and (Nzg hb.1 (AVal.renL τ (gzz res))) (.and (subM (bzk s.mem hb.2++s.mem) (Mem.ren τ m')) (Ozb gs s.df))
  else .no
theorem Wzl {P:Program}{gs:List (GuardS P)}{n0 k:Nat}{results:List ResultVar}{res:AVal}{m':Mem}{s:St}(h:(retO P gs n0 k results res m' s).holds):Wzm P n0 k results res m' s:=by
 unfold retO at h
 unfold Wzm
 split at h
 ·exact h.elim
 ·rename_i hv
  rw[hv]
  simp only at h⊢
  split at h
  ·rename_i hc;rw[if_pos hc];exact⟨nzr h.1,Ezz h.2.1,Ozc h.2.2⟩
  ·exact h.elim
def Jzp (m:Mem):List Nat->Mem
 |[]=>[]
 |id::l=>match m.get id with
  |some (.vec sz n f _ e)=>(id,.vec sz n f n e)::Jzp m l
  |_=>Jzp m l
def St.weak (l:List Nat)(s:St):St:={s with mem:=Jzp s.mem l++s.mem}
theorem RSub.share {sz n k:Nat}{f:Nat->PVal}{e:TypeId}:RSub (.vec sz n f k e) (.vec sz n f n e):=by
 refine⟨fun F w ρ id hr=>⟨?_,fun b hb=>hb⟩⟩
 obtain⟨hk,hr⟩:=hr
 refine⟨Nat.le_refl _,?_⟩
 rcases hr with h1|⟨b,cap,c,h1,h2,h3,h4,h5,h6,h7,h8⟩
 ·exact .inl h1
 ·exact .inr ⟨b,cap,c,h1,h2,h3,h4,h5,fun o ho=>Nat.lt_of_lt_of_le (h6 o ho) (Nat.mul_le_mul_right _ hk),h7,h8⟩
theorem nzu {m:Mem}:∀ {l:List Nat} {i:Nat} {r:Res},(Jzp m l++m).get i=some r->∃r0,m.get i=some r0/\RSub r0 r
 |[],i,r,h=>⟨r,h,RSub.refl r⟩
 |id::l,i,r,h=>by
  unfold Jzp at h
  split at h
  ·rename_i sz n f k e hg
   simp only[List.cons_append,Mem.get]at h
   split at h
   ·rename_i e;subst e;cases h;exact⟨_,hg,RSub.share⟩
   ·exact nzu h
  ·exact nzu h
theorem Hz2 {b i:Nat}{r:Res}:∀ {m:Mem},mzg b m=true->m.get i=some r->i<b
 |[],_,h=>by simp[Mem.get]at h
 |(j,q)::m,h,hg=>by
  simp only[mzg,Bool.and_eq_true,decide_eq_true_eq]at h
  simp only[Mem.get]at hg
  split at hg
  ·rename_i e;subst e;exact h.1.1
  ·exact Hz2 h.2 hg
theorem Jzq {m:Mem}{b:Nat}(h:mzg b m=true):∀ {l:List Nat},mzg b (Jzp m l)=true
 |[]=>rfl
 |id::l=>by
  unfold Jzp
  split
  ·rename_i sz n f k e hg
   simp only[mzg,Bool.and_eq_true,decide_eq_true_eq]
   exact⟨⟨Hz2 h hg,rfl⟩,Jzq h⟩
  ·exact Jzq h
theorem Vzu {b:Nat}{m m':Mem}(h:mzg b m=true)(h':mzg b m'=true):mzg b (m++m')=true:=by
 induction m with
 |nil=>exact h'
 |cons x m ih=>obtain⟨i,r⟩:=x;simp only[List.cons_append,mzg,Bool.and_eq_true]at h⊢;exact⟨h.1,ih h.2⟩
theorem St.weak_ok {l:List Nat}{s:St}(h:s.ok=true):(s.weak l).ok=true:=by
 simp only[St.ok,St.weak,Bool.and_eq_true]at h⊢
 exact⟨⟨h.1.1,Vzu (Jzq h.1.2) h.1.2⟩,h.2⟩
theorem St.weak_sat {X:Cx}{F:Cells}{w:World}{ρ:Env}{s:St}{a:Act}{l:List Nat}(hs:Sat X F w ρ s a):Sat X F w ρ (s.weak l) a:=by
 refine⟨hs.size,hs.fr,⟨fun i r hi=>?_,fun i r b hi hb=>?_,fun i i' r r' b hi hi' hb hb'=>?_⟩,hs.df,hs.good,hs.from0,hs.env0⟩
 ·obtain⟨r0,q1,q2⟩:=nzu hi
  exact(q2.rel _ _ _ _ (hs.mem.ok _ _ q1)).1
 ·obtain⟨r0,q1,q2⟩:=nzu hi
  exact hs.mem.mine _ _ _ q1 ((q2.rel _ _ _ _ (hs.mem.ok _ _ q1)).2 b hb)
 ·obtain⟨r0,q1,q2⟩:=nzu hi
  obtain⟨r1,q3,q4⟩:=nzu hi'
  exact hs.mem.disj _ _ _ _ b q1 q3 ((q2.rel _ _ _ _ (hs.mem.ok _ _ q1)).2 b hb) ((q4.rel _ _ _ _ (hs.mem.ok _ _ q3)).2 b hb')
end Go.Abs
