/-
  Ob (a part of a claim: our own text).
-/
import Derived.Test.YtkbjjlfpbebiaaaGreatDoorYKLib
namespace Go.Abs
inductive Ob:Type 1 where
 |tru
 |no
 |eq {α:Type} (a b:α)
 |and (a b:Ob)
 |imp (p:Prop) (a:Ob)
 |all {α:Type} (f:α->Ob)
def Ob.holds:Ob->Prop
 | .tru=>True
 | .no=>False
 | .eq a b=>a=b
 | .and a b=>a.holds/\b.holds
 | .imp p a=>p->a.holds
 | .all f=>∀x,(f x).holds
inductive Dt:Type 1 where
 |u
 |n (b:Bool)
 |v {α:Type} (a:α)
 |and (a b:Dt)
 |all {α:Type} (f:α->Dt)
def Vza {α:Type}(l:Bool)(a b:α):α:=
 match l with
 |true=>a
 |false=>b
def Ob.side (l:Bool):Ob->Dt
 | .tru=>.u
 | .no=>.n l
 | .eq a b=>.v (Vza l a b)
 | .and a b=>.and (a.side l) (b.side l)
 | .imp _ a=>a.side l
 | .all f=>.all fun x=>(f x).side l
theorem Ob.of_side:∀ {o:Ob},o.side true=o.side false->o.holds:=by
 intro o
 induction o with
 |tru=>intro _;trivial
 |no=>intro h;simp[Ob.side]at h
 |eq a b=>intro h;simp only[Ob.side,Vza,Dt.v.injEq,heq_eq_eq,true_and]at h;exact h
 |and a b iha ihb=>intro h;simp only[Ob.side,Dt.and.injEq]at h;exact⟨iha h.1,ihb h.2⟩
 |imp p a ih=>intro h _;exact ih h
 |all f ih=>intro h x;simp only[Ob.side,Dt.all.injEq,heq_eq_eq,true_and]at h;exact ih x (congrFun h x)
mutual
def subP:PVal->PVal->Ob
 | .lst 0 n _,.lst _ m _=>.and (.eq n 0) (.eq m 0)
 | .agg ps,.agg qs=>Szg ps qs
 |p,q=>.eq p q
def Szg:List PVal->List PVal->Ob
 |[],[]=>.tru
 |p::ps,q::qs=>.and (subP p q) (Szg ps qs)
 |_,_=>.no
end
mutual
def subA:AVal->AVal->Ob
 |_,.any=>.tru
 | .tt,.pure q=>.eq (PVal.bool true) q
 | .ff,.pure q=>.eq (PVal.bool false) q
 | .pure p,.pure q=>subP p q
 | .agg cs,.agg ds=>Fz9 cs ds
 | .tup cs,.tup ds=>Fz9 cs ds
 |a,b=>.eq a b
def Fz9:List AVal->List AVal->Ob
 |[],[]=>.tru
 |p::ps,q::qs=>.and (subA p q) (Fz9 ps qs)
 |_,_=>.no
end
def subR:Res->Res->Ob
 |_,.gone=>.tru
 | .nilv,.vec _ n _ k _=>.and (.eq n 0) (.eq k 0)
 | .box cs,.box ds=>Fz9 cs ds
 |r,r'=>.eq r r'
def subM (m:Mem):Mem->Ob
 |[]=>.tru
 |(i,r)::l=>.and (match m.get i with|some r0=>subR r0 r|none=>.no) (subM m l)
mutual
theorem Iz8:∀ {p q:PVal},(subP p q).holds->PSub p q:=by
 intro p q h
 unfold subP at h
 split at h
 ·exact PSub.nil h.1 h.2
 ·exact PSub.agg (Iz9 h)
 ·exact PSub.of_eq h
theorem Iz9:∀ {p q:List PVal},(Szg p q).holds->PSubs p q:=by
 intro p q h
 unfold Szg at h
 split at h
 ·trivial
 ·exact⟨Iz8 h.1,Iz9 h.2⟩
 ·exact h.elim
end
theorem Wzb {l l':List AVal}(h:rzb l l'):ASub (.tup l) (.tup l'):=by
 refine⟨fun F w ρ v hv=>?_⟩
 obtain⟨h1,h2⟩:=lz1 (F:=F) (w:=w) (ρ:=ρ) h
 cases hv with
 |tup hl hr=>
  refine .tup (by omega) (fun j q u hq hu=>?_)
  obtain⟨p,hp,hs⟩:=h2 j q hq
  exact hs u (hr j p u hp hu)
mutual
theorem Pzs:∀ {p q:AVal},(subA p q).holds->ASub p q:=by
 intro p q h
 unfold subA at h
 split at h
 ·exact ASub.any
 ·have h:PVal.bool true=_:=h
  subst h;exact ASub.tt rfl
 ·have h:PVal.bool false=_:=h
  subst h;exact ASub.ff rfl
 ·exact(Iz8 h).a
 ·exact ASub.agg (jza h)
 ·exact Wzb (jza h)
 ·exact ASub.of_eq h
theorem jza:∀ {p q:List AVal},(Fz9 p q).holds->rzb p q:=by
 intro p q h
 unfold Fz9 at h
 split at h
 ·trivial
 ·exact⟨Pzs h.1,jza h.2⟩
 ·exact h.elim
end
theorem Uzf {r r':Res}(h:(subR r r').holds):RSub r r':=by
 unfold subR at h
 split at h
 ·exact RSub.gone
 ·exact RSub.nilv h.1 h.2
 ·exact RSub.box (jza h)
 ·exact RSub.of_eq h
theorem mzw {m:Mem}:∀ {l:Mem},(subM m l).holds->MSub m l
 |[],_=>trivial
 |(i,r)::l,h=>by
  obtain⟨h1,h2⟩:=h
  refine⟨?_,mzw h2⟩
  split at h1
  ·rename_i hg;rw[hg];exact Uzf h1
  ·exact h1.elim
def Oz9 (s:St)(τ:Nat->Nat):List (Nat×AVal)->Ob
 |[]=>.tru
 |(t,a)::l=>.and (subA (nilP s.mem (s.get t) a) (a.ren τ)) (Oz9 s τ l)
def entO (n0:Nat)(s s':St):Ob:=
 let τ:=idOf n0 (Hz7 n0 s s')
 if injB τ s'.mem&&s'.df.all isFn then .and (Oz9 s τ s'.fr) (.and (subM s.mem (Mem.ren τ s'.mem)) (Fz9 s.df (AVal.renL τ s'.df)))else .no
theorem Izy {s:St}{τ:Nat->Nat}:∀ {l:List (Nat×AVal)},(Oz9 s τ l).holds->Qz7 s τ l
 |[],_=>trivial
 |(_,_)::_,h=>⟨Pzs h.1,Izy h.2⟩
theorem Gzb {n0:Nat}{s s':St}(h:(entO n0 s s').holds):Ent n0 s s':=by
 unfold entO at h
 unfold Ent
 simp only at h⊢
 split at h
 ·rename_i hc;rw[if_pos hc];exact⟨Izy h.1,mzw h.2.1,jza h.2.2⟩
 ·exact h.elim
structure GuardS (P:Program)where
 f:FuncId
 ok:GuardFn P f
def Fzn {P:Program}(gs:List (GuardS P)):List AVal->Ob
 |[]=>.tru
 | .func g _ _::l=>if gs.any (fun x=>x.f==g)then Fzn gs l else .no
 |_::_=>.no
theorem Bzi {P:Program}{gs:List (GuardS P)}:∀ {l:List AVal},(Fzn gs l).holds->nzo P l
 |[],_=>trivial
 | .func g _ _::l,h=>by
   simp only[Fzn]at h
   split at h
   ·rename_i hc
    obtain⟨x,_,he⟩:=List.any_eq_true.1 hc
    exact⟨by have:=eq_of_beq he;rw[←this];exact x.ok,Bzi h⟩
   ·exact h.elim
 | .any::_,h| .pure _::_,h| .tt::_,h| .ff::_,h| .agg _::_,h| .tup _::_,h| .vec _::_,h| .ptr _ _::_,h| .eptr _ _ _ _::_,h| .ref _::_,h| .map _::_,h| .bsl _ _::_,h| .iface _ _::_,h| .anyb::_,h| .nilp::_,h| .clip _::_,h| .view _ _ _ _::_,h| .yld _::_,h=>by
   simp[Fzn,Ob.holds]at h
def retO (P:Program)(gs:List (GuardS P))(n0 k:Nat)(results:List ResultVar)(res:AVal)(m':Mem)(s:St):Ob:=
 match izx P s results with
 |none=>.no
 |some vs=>
  let hb:=gz5 s.mem vs (gzd res)
  let τ:=idOf n0 (Hz8 n0 s hb.1 (gzd res) m')
  if injB τ m'&&Pz0 n0 k m'&&AVal.inL n0 k (gzd res)&&((results.length==1) !=Jz6 res)then
   .and (Fz9 hb.1 (AVal.renL τ (gzd res))) (.and (subM (bz6 s.mem hb.2++s.mem) (Mem.ren τ m')) (Fzn gs s.df))
  else .no
theorem Hzl {P:Program}{gs:List (GuardS P)}{n0 k:Nat}{results:List ResultVar}{res:AVal}{m':Mem}{s:St}(h:(retO P gs n0 k results res m' s).holds):Hzm P n0 k results res m' s:=by
 unfold retO at h
 unfold Hzm
 split at h
 ·exact h.elim
 ·rename_i hv
  rw[hv]
  simp only at h⊢
  split at h
  ·rename_i hc;rw[if_pos hc];exact⟨jza h.1,mzw h.2.1,Bzi h.2.2⟩
  ·exact h.elim
def Dzf (m:Mem):List Nat->Mem
 |[]=>[]
 |id::l=>match m.get id with
  |some (.vec sz n f _ e)=>(id,.vec sz n f n e)::Dzf m l
  |_=>Dzf m l
def St.weak (l:List Nat)(s:St):St:={s with mem:=Dzf s.mem l++s.mem}
theorem RSub.share {sz n k:Nat}{f:Nat->PVal}{e:TypeId}:RSub (.vec sz n f k e) (.vec sz n f n e):=by
 refine⟨fun F w ρ id hr=>⟨?_,fun b hb=>hb⟩⟩
 obtain⟨hk,hr⟩:=hr
 refine⟨Nat.le_refl _,?_⟩
 rcases hr with h1|⟨b,cap,c,h1,h2,h3,h4,h5,h6,h7,h8⟩
 ·exact .inl h1
 ·exact .inr ⟨b,cap,c,h1,h2,h3,h4,h5,fun o ho=>Nat.lt_of_lt_of_le (h6 o ho) (Nat.mul_le_mul_right _ hk),h7,h8⟩
theorem kzx {m:Mem}:∀ {l:List Nat} {i:Nat} {r:Res},(Dzf m l++m).get i=some r->∃r0,m.get i=some r0/\RSub r0 r
 |[],i,r,h=>⟨r,h,RSub.refl r⟩
 |id::l,i,r,h=>by
  unfold Dzf at h
  split at h
  ·rename_i sz n f k e hg
   simp only[List.cons_append,Mem.get]at h
   split at h
   ·rename_i e;subst e;cases h;exact⟨_,hg,RSub.share⟩
   ·exact kzx h
  ·exact kzx h
theorem hzp {b i:Nat}{r:Res}:∀ {m:Mem},fz6 b m=true->m.get i=some r->i<b
 |[],_,h=>by simp[Mem.get]at h
 |(j,q)::m,h,hg=>by
  simp only[fz6,Bool.and_eq_true,decide_eq_true_eq]at h
  simp only[Mem.get]at hg
  split at hg
  ·rename_i e;subst e;exact h.1.1
  ·exact hzp h.2 hg
theorem Dzg {m:Mem}{b:Nat}(h:fz6 b m=true):∀ {l:List Nat},fz6 b (Dzf m l)=true
 |[]=>rfl
 |id::l=>by
  unfold Dzf
  split
  ·rename_i sz n f k e hg
   simp only[fz6,Bool.and_eq_true,decide_eq_true_eq]
   exact⟨⟨hzp h hg,rfl⟩,Dzg h⟩
  ·exact Dzg h
theorem Pz1 {b:Nat}{m m':Mem}(h:fz6 b m=true)(h':fz6 b m'=true):fz6 b (m++m')=true:=by
 induction m with
 |nil=>exact h'
 |cons x m ih=>obtain⟨i,r⟩:=x;simp only[List.cons_append,fz6,Bool.and_eq_true]at h⊢;exact⟨h.1,ih h.2⟩
theorem St.weak_ok {l:List Nat}{s:St}(h:s.ok=true):(s.weak l).ok=true:=by
 simp only[St.ok,St.weak,Bool.and_eq_true]at h⊢
 exact⟨⟨h.1.1,Pz1 (Dzg h.1.2) h.1.2⟩,h.2⟩
theorem St.weak_sat {X:Cx}{F:Cells}{w:World}{ρ:Env}{s:St}{a:Act}{l:List Nat}(hs:Sat X F w ρ s a):Sat X F w ρ (s.weak l) a:=by
 refine⟨hs.size,hs.fr,⟨fun i r hi=>?_,fun i r b hi hb=>?_,fun i i' r r' b hi hi' hb hb'=>?_⟩,hs.df,hs.good,hs.from0,hs.env0⟩
 ·obtain⟨r0,q1,q2⟩:=kzx hi
  exact(q2.rel _ _ _ _ (hs.mem.ok _ _ q1)).1
 ·obtain⟨r0,q1,q2⟩:=kzx hi
  exact hs.mem.mine _ _ _ q1 ((q2.rel _ _ _ _ (hs.mem.ok _ _ q1)).2 b hb)
 ·obtain⟨r0,q1,q2⟩:=kzx hi
  obtain⟨r1,q3,q4⟩:=kzx hi'
  exact hs.mem.disj _ _ _ _ b q1 q3 ((q2.rel _ _ _ _ (hs.mem.ok _ _ q1)).2 b hb) ((q4.rel _ _ _ _ (hs.mem.ok _ _ q3)).2 b hb')
end Go.Abs
