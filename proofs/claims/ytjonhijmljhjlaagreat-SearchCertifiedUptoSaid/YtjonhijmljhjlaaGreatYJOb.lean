import Derived.Test.YtjonhijmljhjlaaGreatYJLib
open Bool renaming and_eq_true->qm
open Go renaming Program->qo
open List renaming cons_append->xn
namespace Go.Abs
inductive Ob:Type 1 where
 |tru
 |no
 |eq {α:Type} (a b:α)
 |and (a b:Ob)
 |imp (p:Prop) (a:Ob)
 |all {α:Type} (f:α->Ob)
def Ob.holds:Ob->Prop
 | .tru=>True
 | .no=>False
 | .eq a b=>a=b
 | .and a b=>a.holds/\b.holds
 | .imp p a=>p->a.holds
 | .all f=>∀x,(f x).holds
inductive Dt:Type 1 where
 |u
 |n (b:Bool)
 |v {α:Type} (a:α)
 |and (a b:Dt)
 |all {α:Type} (f:α->Dt)
def azbo {α:Type}(l:Bool)(a b:α):α:=
 match l with
 |true=>a
 |false=>b
def Ob.side (l:Bool):Ob->Dt
 | .tru=>.u
 | .no=>.n l
 | .eq a b=>.v (azbo l a b)
 | .and a b=>.and (a.side l) (b.side l)
 | .imp _ a=>a.side l
 | .all f=>.all λx=>(f x).side l
theorem Ob.of_side:∀ {o:Ob},o.side true=o.side false->o.holds:=by
 intro o;induction o with
 |tru=>intro _;trivial
 |no=>intro h;simp[Ob.side]at h
 |eq a b=>intro h;simp only[Ob.side,azbo,Dt.v.injEq,heq_eq_eq,true_and]at h;exact h
 |and a b iha ihb=>intro h;simp only[Ob.side,Dt.and.injEq]at h;exact⟨iha h.1,ihb h.2⟩
 |imp p a ih=>intro h _;exact ih h
 |all f ih=>intro h x;simp only[Ob.side,Dt.all.injEq,heq_eq_eq,true_and]at h;exact ih x (congrFun h x)
mutual
def subP:PVal->PVal->Ob
 | .lst 0 n _,.lst _ m _=>.and (.eq n 0) (.eq m 0)
 | .agg ps,.agg qs=>Nzx ps qs
 |p,q=>.eq p q
def Nzx:List PVal->List PVal->Ob
 |[],[]=>.tru
 |p::ps,q::qs=>.and (subP p q) (Nzx ps qs)
 |_,_=>.no
end
mutual
def subA:AVal->AVal->Ob
 |_,.any=>.tru
 | .tt,.pure q=>.eq (PVal.bool true) q
 | .ff,.pure q=>.eq (PVal.bool false) q
 | .pure p,.pure q=>subP p q
 | .agg cs,.agg ds=>Nzw cs ds
 | .tup cs,.tup ds=>Nzw cs ds
 |a,b=>.eq a b
def Nzw:List AVal->List AVal->Ob
 |[],[]=>.tru
 |p::ps,q::qs=>.and (subA p q) (Nzw ps qs)
 |_,_=>.no
end
def subR:Res->Res->Ob
 |_,.gone=>.tru
 | .nilv,.vec _ n _ k _=>.and (.eq n 0) (.eq k 0)
 | .box cs,.box ds=>Nzw cs ds
 |r,r'=>.eq r r'
def subM (m:Mem):Mem->Ob
 |[]=>.tru
 |(i,r)::l=>.and (match m.get i with|some r0=>subR r0 r|none=>.no) (subM m l)
mutual
theorem az3l:∀ {p q:PVal},(subP p q).holds->PSub p q:=by
 intro p q h;unfold subP at h;split at h
 ·exact PSub.nil h.1 h.2
 ·exact PSub.agg (Rzj h)
 ·exact PSub.of_eq h
theorem Rzj:∀ {p q:List PVal},(Nzx p q).holds->PSubs p q:=by
 intro p q h;unfold Nzx at h;split at h
 ·trivial
 ·exact⟨az3l h.1,Rzj h.2⟩
 ·exact h.elim
end
theorem azcv {l l':List AVal}(h:Bzn l l'):ASub (.tup l) (.tup l'):=by
 refine⟨λF w ρ v hv=>?_⟩;obtain⟨h1,h2⟩:=qz3 (F:=F) (w:=w) (ρ:=ρ) h;cases hv with
 |tup hl hr=>
  refine .tup qa (λj q u hq hu=>?_);obtain⟨p,hp,hs⟩:=h2 j q hq;exact hs u (hr j p u hp hu)
mutual
theorem az3k:∀ {p q:AVal},(subA p q).holds->ASub p q:=by
 intro p q h;unfold subA at h;split at h
 ·exact ASub.any
 ·have h:PVal.bool true=_:=h;subst h;exact ASub.tt rfl
 ·have h:PVal.bool false=_:=h;subst h;exact ASub.ff rfl
 ·exact(az3l h).a
 ·exact ASub.agg (nzk h)
 ·exact azcv (nzk h)
 ·exact ASub.of_eq h
theorem nzk:∀ {p q:List AVal},(Nzw p q).holds->Bzn p q:=by
 intro p q h;unfold Nzw at h;split at h
 ·trivial
 ·exact⟨az3k h.1,nzk h.2⟩
 ·exact h.elim
end
theorem az9v {r r':Res}(h:(subR r r').holds):RSub r r':=by
 unfold subR at h;split at h
 ·exact RSub.gone
 ·exact RSub.nilv h.1 h.2
 ·exact RSub.box (nzk h)
 ·exact RSub.of_eq h
theorem uzi {m:Mem}:∀ {l:Mem},(subM m l).holds->MSub m l
 |[],_=>trivial
 |(i,r)::l,h=>by
  obtain⟨h1,h2⟩:=h;refine⟨?_,uzi h2⟩;split at h1
  ·rename_i hg;rw[hg];exact az9v h1
  ·exact h1.elim
def az12 (s:St)(τ:Nat->Nat):List (Nat×AVal)->Ob
 |[]=>.tru
 |(t,a)::l=>.and (subA (nilP s.mem (s.get t) a) (a.ren τ)) (az12 s τ l)
def entO (n0:Nat)(s s':St):Ob:=
 let τ:=idOf n0 (Qze n0 s s')
 if injB τ s'.mem&&s'.df.all isFn then .and (az12 s τ s'.fr) (.and (subM s.mem (Mem.ren τ s'.mem)) (Nzw s.df (AVal.renL τ s'.df)))else .no
theorem Szk {s:St}{τ:Nat->Nat}:∀ {l:List (Nat×AVal)},(az12 s τ l).holds->az4o s τ l
 |[],_=>trivial
 |(_,_)::_,h=>⟨az3k h.1,Szk h.2⟩
theorem Pzk {n0:Nat}{s s':St}(h:(entO n0 s s').holds):Ent n0 s s':=by
 unfold entO at h;unfold Ent;simp only at h⊢;split at h
 ·rename_i hc;rw[qc hc];exact⟨Szk h.1,uzi h.2.1,nzk h.2.2⟩
 ·exact h.elim
structure GuardS (P:qo)where
 f:FuncId
 ok:GuardFn P f
def Oz9 {P:qo}(gs:List (GuardS P)):List AVal->Ob
 |[]=>.tru
 | .func g _ _::l=>if gs.any (λx=>x.f==g)then Oz9 gs l else .no
 |_::_=>.no
theorem Lz0 {P:qo}{gs:List (GuardS P)}:∀ {l:List AVal},(Oz9 gs l).holds->vzg P l
 |[],_=>trivial
 | .func g _ _::l,h=>by
   simp only[Oz9]at h;split at h
   ·rename_i hc;obtain⟨x,_,he⟩:=List.any_eq_true.1 hc;exact⟨by have:=eq_of_beq he;rw[<-this];exact x.ok,Lz0 h⟩
   ·exact h.elim
 | .any::_,h| .pure _::_,h| .tt::_,h| .ff::_,h| .agg _::_,h| .tup _::_,h| .vec _::_,h| .ptr _ _::_,h| .eptr _ _ _ _::_,h| .ref _::_,h| .map _::_,h| .bsl _ _::_,h| .iface _ _::_,h| .anyb::_,h| .clip _::_,h| .view _ _ _ _::_,h| .yld _::_,h=>by
   simp[Oz9,Ob.holds]at h
def retO (P:qo)(gs:List (GuardS P))(n0 k:Nat)(results:List ResultVar)(res:AVal)(m':Mem)(s:St):Ob:=
 match mzr P s results with
 |none=>.no
 |some vs=>
  let hb:=izm s.mem vs (jz4 res);let τ:=idOf n0 (Qzf n0 s hb.1 (jz4 res) m')
  if injB τ m'&&az1z n0 k m'&&AVal.inL n0 k (jz4 res)&&((results.length==1) !=Szw res)then
   .and (Nzw hb.1 (AVal.renL τ (jz4 res))) (.and (subM (bzp s.mem hb.2++s.mem) (Mem.ren τ m')) (Oz9 gs s.df))
  else .no
theorem Rz6 {P:qo}{gs:List (GuardS P)}{n0 k:Nat}{results:List ResultVar}{res:AVal}{m':Mem}{s:St}(h:(retO P gs n0 k results res m' s).holds):Rz7 P n0 k results res m' s:=by
 unfold retO at h;unfold Rz7;split at h
 ·exact h.elim
 ·rename_i hv;rw[hv];simp only at h⊢;split at h
  ·rename_i hc;rw[qc hc];exact⟨nzk h.1,uzi h.2.1,Lz0 h.2.2⟩
  ·exact h.elim
def Mzw (m:Mem):List Nat->Mem
 |[]=>[]
 |id::l=>match m.get id with
  |some (.vec sz n f _ e)=>(id,.vec sz n f n e)::Mzw m l
  |_=>Mzw m l
def St.weak (l:List Nat)(s:St):St:={s with mem:=Mzw s.mem l++s.mem}
theorem RSub.share {sz n k:Nat}{f:Nat->PVal}{e:TypeId}:RSub (.vec sz n f k e) (.vec sz n f n e):=by
 refine⟨λF w ρ id hr=>⟨?_,λb hb=>hb⟩⟩;obtain⟨hk,hr⟩:=hr;refine⟨Nat.le_refl _,?_⟩;rcases hr with h1|⟨b,cap,c,h1,h2,h3,h4,h5,h6,h7,h8⟩
 ·exact .inl h1
 ·exact .inr ⟨b,cap,c,h1,h2,h3,h4,h5,λo ho=>Nat.lt_of_lt_of_le (h6 o ho) (Nat.mul_le_mul_right _ hk),h7,h8⟩
theorem pzw {m:Mem}:∀ {l:List Nat} {i:Nat} {r:Res},(Mzw m l++m).get i=some r->∃r0,m.get i=some r0/\RSub r0 r
 |[],i,r,h=>⟨r,h,RSub.refl r⟩
 |id::l,i,r,h=>by
  unfold Mzw at h;split at h
  ·rename_i sz n f k e hg;simp only[xn,Mem.get]at h;split at h
   ·rename_i e;subst e;cases h;exact⟨_,hg,RSub.share⟩
   ·exact pzw h
  ·exact pzw h
theorem kzs {b i:Nat}{r:Res}:∀ {m:Mem},hz9 b m=true->m.get i=some r->i<b
 |[],_,h=>by simp[Mem.get]at h
 |(j,q)::m,h,hg=>by
  simp only[hz9,qm,qf]at h;simp only[Mem.get]at hg;split at hg
  ·rename_i e;subst e;exact h.1.1
  ·exact kzs h.2 hg
theorem Mzx {m:Mem}{b:Nat}(h:hz9 b m=true):∀ {l:List Nat},hz9 b (Mzw m l)=true
 |[]=>rfl
 |id::l=>by
  unfold Mzw;split
  ·rename_i sz n f k e hg;simp only[hz9,qm,qf];exact⟨⟨kzs h hg,rfl⟩,Mzx h⟩
  ·exact Mzx h
theorem az20 {b:Nat}{m m':Mem}(h:hz9 b m=true)(h':hz9 b m'=true):hz9 b (m++m')=true:=by
 induction m with
 |nil=>exact h'
 |cons x m ih=>obtain⟨i,r⟩:=x;simp only[xn,hz9,qm]at h⊢;exact⟨h.1,ih h.2⟩
theorem St.weak_ok {l:List Nat}{s:St}(h:s.ok=true):(s.weak l).ok=true:=by
 simp only[St.ok,St.weak,qm]at h⊢;exact⟨⟨h.1.1,az20 (Mzx h.1.2) h.1.2⟩,h.2⟩
theorem St.weak_sat {X:Cx}{F:Cells}{w:World}{ρ:Env}{s:St}{a:Act}{l:List Nat}(hs:Sat X F w ρ s a):Sat X F w ρ (s.weak l) a:=by
 refine⟨hs.size,hs.fr,⟨λi r hi=>?_,λi r b hi hb=>?_,λi i' r r' b hi hi' hb hb'=>?_⟩,hs.df,hs.good,hs.from0,hs.env0⟩
 ·obtain⟨r0,q1,q2⟩:=pzw hi;exact(q2.rel _ _ _ _ (hs.mem.ok _ _ q1)).1
 ·obtain⟨r0,q1,q2⟩:=pzw hi;exact hs.mem.mine _ _ _ q1 ((q2.rel _ _ _ _ (hs.mem.ok _ _ q1)).2 b hb)
 ·obtain⟨r0,q1,q2⟩:=pzw hi;obtain⟨r1,q3,q4⟩:=pzw hi';exact hs.mem.disj _ _ _ _ b q1 q3 ((q2.rel _ _ _ _ (hs.mem.ok _ _ q1)).2 b hb) ((q4.rel _ _ _ _ (hs.mem.ok _ _ q3)).2 b hb')
end Go.Abs
