import Derived.Test.YtagmfmidaochlaaGreatDoorZILib
open Bool renaming and_eq_true->ql
open Go renaming Program->qn
namespace Go.Abs
inductive Ob:Type 1 where
 |tru
 |no
 |eq {α:Type} (a b:α)
 |and (a b:Ob)
 |imp (p:Prop) (a:Ob)
 |all {α:Type} (f:α->Ob)
def Ob.holds:Ob->Prop
 | .tru=>True
 | .no=>False
 | .eq a b=>a=b
 | .and a b=>a.holds/\b.holds
 | .imp p a=>p->a.holds
 | .all f=>∀x,(f x).holds
inductive Dt:Type 1 where
 |u
 |n (b:Bool)
 |v {α:Type} (a:α)
 |and (a b:Dt)
 |all {α:Type} (f:α->Dt)
def UR {c:Type}(l:Bool)(a b:c):c:=
 match l with
 |true=>a
 |false=>b
def Ob.side (l:Bool):Ob->Dt
 | .tru=>.u
 | .no=>.n l
 | .eq a b=>.v (UR l a b)
 | .and a b=>.and (a.side l) (b.side l)
 | .imp _ a=>a.side l
 | .all f=>.all λx=>(f x).side l
theorem Ob.of_side:∀ {o:Ob},o.side true=o.side false->o.holds:=by
 intro o;induction o with
 |tru=>intro _;trivial
 |no=>grind[Ob.side]
 |eq a b=>intro h;simp only[Ob.side,UR,Dt.v.injEq,heq_eq_eq,true_and]at h;exact h
 |and a b e c=>intro h;simp only[Ob.side,Dt.and.injEq]at h;exact⟨e h.1,c h.2⟩
 |imp p a d=>intro h _;exact d h
 |all f d=>intro h x;simp only[Ob.side,Dt.all.injEq,heq_eq_eq,true_and]at h;exact d x (congrFun h x)
mutual
def subP:ae->ae->Ob
 | .lst 0 n _,.lst _ m _=>.and (.eq n 0) (.eq m 0)
 | .agg b,.agg a=>tQ b a
 |p,q=>.eq p q
def tQ:List ae->List ae->Ob
 |[],[]=>.tru
 |p::b,q::a=>.and (subP p q) (tQ b a)
 |_,_=>.no
end
mutual
def subA:ac->ac->Ob
 |_,.any=>.tru
 | .tt,.pure q=>.eq (ae.bool true) q
 | .ff,.pure q=>.eq (ae.bool false) q
 | .pure p,.pure q=>subP p q
 | .agg c,.agg d=>gL c d
 | .tup c,.tup d=>gL c d
 |a,b=>.eq a b
def gL:List ac->List ac->Ob
 |[],[]=>.tru
 |p::a,q::d=>.and (subA p q) (gL a d)
 |_,_=>.no
end
def subR:Res->Res->Ob
 |_,.gone=>.tru
 | .nilv,.vec _ n _ k _=>.and (.eq n 0) (.eq k 0)
 | .box b,.box c=>gL b c
 |r,a=>.eq r a
def subM (m:Mem):Mem->Ob
 |[]=>.tru
 |(i,r)::l=>.and (match m.get i with|some a=>subR a r|none=>.no) (subM m l)
mutual
theorem s7:∀ {p q:ae},(subP p q).holds->PSub p q:=by intro p q h;unfold subP at h;split at h;{exact PSub.nil h.1 h.2};{exact PSub.agg (E1 h)};exact PSub.of_eq h
theorem E1:∀ {p q:List ae},(tQ p q).holds->PSubs p q:=by intro p q h;unfold tQ at h;split at h;{trivial};{exact⟨s7 h.1,E1 h.2⟩};exact h.elim
end
theorem ajC {l a:List ac}(h:ei l a):bR (.tup l) (.tup a):=by
 refine⟨λF w ρ v b=>?_⟩;obtain⟨e,d⟩:=mi (F:=F) (w:=w) (ρ:=ρ) h;cases b with
 |tup i f=>
  refine .tup qa (λj q u c g=>?_);grind
mutual
theorem TH:∀ {p q:ac},(subA p q).holds->bR p q:=by
 intro p q h;unfold subA at h;split at h;{exact bR.any}
 ·have h:ae.bool true=_:=h;grind[bR.tt]
 ·have h:ae.bool false=_:=h;grind[bR.ff]
 {exact(s7 h).a};{exact bR.agg (hI h)};{exact ajC (hI h)};exact bR.of_eq h
theorem hI:∀ {p q:List ac},(gL p q).holds->ei p q:=by intro p q h;unfold gL at h;split at h;{trivial};{exact⟨TH h.1,hI h.2⟩};exact h.elim
end
theorem ahO {r a:Res}(h:(subR r a).holds):RSub r a:=by unfold subR at h;split at h;{exact RSub.gone};{exact RSub.nilv h.1 h.2};{grind[RSub.box,hI]};exact RSub.of_eq h
theorem hY {m:Mem}:∀ {l:Mem},(subM m l).holds->ej m l
 |[],_=>trivial
 |(i,r)::l,h=>by
  obtain⟨a,c⟩:=h;refine⟨?_,hY c⟩;split at a;{rename_i b;rw[b];exact ahO a};exact a.elim
def FI (s:St)(τ:Nat->Nat):List (Nat×ac)->Ob
 |[]=>.tru
 |(t,a)::l=>.and (subA (nilP s.mem (s.get t) a) (a.ren τ)) (FI s τ l)
def entO (b:Nat)(s a:St):Ob:=
 let τ:=idOf b (EQ b s a)
 if injB τ a.mem&&a.df.all isFn then .and (FI s τ a.fr) (.and (subM s.mem (Mem.ren τ a.mem)) (gL s.df (ac.renL τ a.df)))else .no
theorem Rj {s:St}{τ:Nat->Nat}:∀ {l:List (Nat×ac)},(FI s τ l).holds->tH s τ l
 |[],_=>trivial
 |(_,_)::_,h=>⟨TH h.1,Rj h.2⟩
variable {b:Nat}
theorem sQ{s a:St}(h:(entO b s a).holds):Ent b s a:=by unfold entO at h;unfold Ent;simp only at h⊢;split at h;{rename_i c;rw[qc c];exact⟨Rj h.1,hY h.2.1,hI h.2.2⟩};exact h.elim
structure GuardS (P:qn)where
 f:FuncId
 ok:GuardFn P f
def mS {P:qn}(a:List (GuardS P)):List ac->Ob
 |[]=>.tru
 | .func g _ _::l=>if a.any (λx=>x.f==g)then mS a l else .no
 |_::_=>.no
theorem DP {P:qn}{d:List (GuardS P)}:∀ {l:List ac},(mS d l).holds->k9 P l
 |[],_=>trivial
 | .func g _ _::l,h=>by
   simp only[mS]at h;split at h;{rename_i c;obtain⟨x,_,b⟩:=List.any_eq_true.1 c;exact⟨by have:=eq_of_beq b;rw[<-this];exact x.ok,DP h⟩};exact h.elim
 | .any::_,h| .pure _::_,h| .tt::_,h| .ff::_,h| .agg _::_,h| .tup _::_,h| .vec _::_,h| .ptr _ _::_,h| .eptr _ _ _ _::_,h| .ref _::_,h| .map _::_,h| .bsl _ _::_,h| .iface _ _::_,h| .anyb::_,h| .nilp::_,h| .clip _::_,h| .view _ _ _ _::_,h| .yld _::_,h=>by
   simp[mS,Ob.holds]at h
def retO (P:qn)(f:List (GuardS P))(d k:Nat)(a:List ResultVar)(b:ac)(c:Mem)(s:St):Ob:=
 match fR P s a with
 |none=>.no
 |some g=>
  let e:=fP s.mem g (et b);let τ:=idOf d (ER d s e.1 (et b) c)
  if injB τ c&&oZ d k c&&ac.inL d k (et b)&&((a.length==1) !=oT b)then
   .and (gL e.1 (ac.renL τ (et b))) (.and (subM (bG s.mem e.2++s.mem) (Mem.ren τ c)) (mS f s.df))
  else .no
variable {s:St}
theorem sZ{P:qn}{f:List (GuardS P)}{d k:Nat}{a:List ResultVar}{b:ac}{c:Mem}(h:(retO P f d k a b c s).holds):il P d k a b c s:=by unfold retO at h;unfold il;split at h;{exact h.elim};rename_i g;rw[g];simp only at h⊢;split at h;{rename_i e;rw[qc e];exact⟨hI h.1,hY h.2.1,DP h.2.2⟩};exact h.elim
def ly (m:Mem):List Nat->Mem
 |[]=>[]
 |id::l=>match m.get id with
  |some (.vec a n f _ e)=>(id,.vec a n f n e)::ly m l
  |_=>ly m l
def St.weak (l:List Nat)(s:St):St:={s with mem:=ly s.mem l++s.mem}
theorem RSub.share {g n k:Nat}{f:Nat->ae}{e:TypeId}:RSub (.vec g n f k e) (.vec g n f n e):=by refine⟨λF w ρ id a=>⟨?_,λb c=>c⟩⟩;obtain⟨d,a⟩:=a;refine⟨Nat.le_refl _,?_⟩;grind[Nat.lt_of_lt_of_le,Nat.mul_le_mul_right]
theorem nR {m:Mem}:∀ {l:List Nat} {i:Nat} {r:Res},(ly m l++m).get i=some r->∃a,m.get i=some a/\RSub a r
 |[],i,r,h=>⟨r,h,RSub.refl r⟩
 |id::l,i,r,h=>by
  unfold ly at h;split at h
  ·rename_i c n f k e b;simp only[List.cons_append,Mem.get]at h;split at h;{rename_i e;subst e;cases h;exact⟨_,b,RSub.share⟩};exact nR h
  exact nR h
theorem lf {b i:Nat}{r:Res}:∀ {m:Mem},b6 b m=true->m.get i=some r->i<b
 |[],_,h=>by simp[Mem.get]at h
 |(j,q)::m,h,a=>by
  simp only[b6,ql,qf]at h;simp only[Mem.get]at a;split at a;{omega};exact lf h.2 a
theorem Ed {m:Mem}{b:Nat}(h:b6 b m=true):∀ {l:List Nat},b6 b (ly m l)=true
 |[]=>rfl
 |id::l=>by
  unfold ly;split;{rename_i c n f k e a;simp only[b6,ql,qf];exact⟨⟨lf h a,rfl⟩,Ed h⟩};exact Ed h
theorem adC{m a:Mem}(h:b6 b m=true)(c:b6 b a=true):b6 b (m++a)=true:=by induction m<;>grind[b6]
theorem St.weak_ok{l:List Nat}(h:s.ok=true):(s.weak l).ok=true:=by grind[St.ok,St.weak,adC,Ed]
theorem St.weak_sat{X:Cx}{F:Cells}{w:World}{ρ:Env}{a:Act}{l:List Nat}(c:Sat X F w ρ s a):Sat X F w ρ (s.weak l) a:=by refine⟨c.size,c.fr,⟨λi r t=>?_,λi r b t f=>?_,λi o r n b t h f g=>?_⟩,c.df,c.good,c.from0,c.env0⟩;{obtain⟨j,d,e⟩:=nR t;exact(e.rel _ _ _ _ (c.mem.ok _ _ d)).1};{obtain⟨j,d,e⟩:=nR t;exact c.mem.mine _ _ _ d ((e.rel _ _ _ _ (c.mem.ok _ _ d)).2 b f)};obtain⟨j,d,e⟩:=nR t;obtain⟨p,k,m⟩:=nR h;exact c.mem.disj _ _ _ _ b d k ((e.rel _ _ _ _ (c.mem.ok _ _ d)).2 b f) ((m.rel _ _ _ _ (c.mem.ok _ _ k)).2 b g)
end Go.Abs
