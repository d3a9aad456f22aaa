import Derived.Test.YtnfbbidmdkfilaaGreatDoorZDLib
open Bool renaming and_eq_true->qm
open Go renaming Program->qo
namespace Go.Abs
inductive Ob:Type 1 where
 |tru
 |no
 |eq {α:Type} (a b:α)
 |and (a b:Ob)
 |imp (p:Prop) (a:Ob)
 |all {α:Type} (f:α->Ob)
def Ob.holds:Ob->Prop
 | .tru=>True
 | .no=>False
 | .eq a b=>a=b
 | .and a b=>a.holds/\b.holds
 | .imp p a=>p->a.holds
 | .all f=>∀x,(f x).holds
inductive Dt:Type 1 where
 |u
 |n (b:Bool)
 |v {α:Type} (a:α)
 |and (a b:Dt)
 |all {α:Type} (f:α->Dt)
def azp5 {c:Type}(l:Bool)(a b:c):c:=
 match l with
 |true=>a
 |false=>b
def Ob.side (l:Bool):Ob->Dt
 | .tru=>.u
 | .no=>.n l
 | .eq a b=>.v (azp5 l a b)
 | .and a b=>.and (a.side l) (b.side l)
 | .imp _ a=>a.side l
 | .all f=>.all λx=>(f x).side l
theorem Ob.of_side:∀ {o:Ob},o.side true=o.side false->o.holds:=by
 intro o;induction o with
 |tru=>intro _;trivial
 |no=>grind[Ob.side]
 |eq a b=>intro h;simp only[Ob.side,azp5,Dt.v.injEq,heq_eq_eq,true_and]at h;exact h
 |and a b e c=>intro h;simp only[Ob.side,Dt.and.injEq]at h;exact⟨e h.1,c h.2⟩
 |imp p a d=>intro h _;exact d h
 |all f d=>intro h x;simp only[Ob.side,Dt.all.injEq,heq_eq_eq,true_and]at h;exact d x (congrFun h x)
mutual
def subP:PVal->PVal->Ob
 | .lst 0 n _,.lst _ m _=>.and (.eq n 0) (.eq m 0)
 | .agg ps,.agg a=>az02 ps a
 |p,q=>.eq p q
def az02:List PVal->List PVal->Ob
 |[],[]=>.tru
 |p::ps,q::a=>.and (subP p q) (az02 ps a)
 |_,_=>.no
end
mutual
def subA:AVal->AVal->Ob
 |_,.any=>.tru
 | .tt,.pure q=>.eq (PVal.bool true) q
 | .ff,.pure q=>.eq (PVal.bool false) q
 | .pure p,.pure q=>subP p q
 | .agg c,.agg ds=>Vzr c ds
 | .tup c,.tup ds=>Vzr c ds
 |a,b=>.eq a b
def Vzr:List AVal->List AVal->Ob
 |[],[]=>.tru
 |p::ps,q::d=>.and (subA p q) (Vzr ps d)
 |_,_=>.no
end
def subR:Res->Res->Ob
 |_,.gone=>.tru
 | .nilv,.vec _ n _ k _=>.and (.eq n 0) (.eq k 0)
 | .box b,.box ds=>Vzr b ds
 |r,a=>.eq r a
def subM (m:Mem):Mem->Ob
 |[]=>.tru
 |(i,r)::l=>.and (match m.get i with|some a=>subR a r|none=>.no) (subM m l)
mutual
theorem az01:∀ {p q:PVal},(subP p q).holds->PSub p q:=by
 intro p q h;unfold subP at h;split at h
 ·exact PSub.nil h.1 h.2
 ·exact PSub.agg (az03 h)
 ·exact PSub.of_eq h
theorem az03:∀ {p q:List PVal},(az02 p q).holds->PSubs p q:=by
 intro p q h;unfold az02 at h;split at h
 ·trivial
 ·exact⟨az01 h.1,az03 h.2⟩
 ·exact h.elim
end
theorem azql {l a:List AVal}(h:Gza l a):ASub (.tup l) (.tup a):=by
 refine⟨λF w ρ v b=>?_⟩;obtain⟨e,d⟩:=rzo (F:=F) (w:=w) (ρ:=ρ) h;cases b with
 |tup i f=>
  refine .tup qa (λj q u c g=>?_)
  grind
mutual
theorem azey:∀ {p q:AVal},(subA p q).holds->ASub p q:=by
 intro p q h;unfold subA at h;split at h
 ·exact ASub.any
 ·have h:PVal.bool true=_:=h
  grind[ASub.tt]
 ·have h:PVal.bool false=_:=h
  grind[ASub.ff]
 ·exact(az01 h).a
 ·exact ASub.agg (oz9 h)
 ·exact azql (oz9 h)
 ·exact ASub.of_eq h
theorem oz9:∀ {p q:List AVal},(Vzr p q).holds->Gza p q:=by
 intro p q h;unfold Vzr at h;split at h
 ·trivial
 ·exact⟨azey h.1,oz9 h.2⟩
 ·exact h.elim
end
theorem azne {r a:Res}(h:(subR r a).holds):RSub r a:=by
 unfold subR at h;split at h
 ·exact RSub.gone
 ·exact RSub.nilv h.1 h.2
 ·grind[RSub.box,oz9]
 ·exact RSub.of_eq h
theorem xzh {m:Mem}:∀ {l:Mem},(subM m l).holds->MSub m l
 |[],_=>trivial
 |(i,r)::l,h=>by
  obtain⟨a,c⟩:=h;refine⟨?_,xzh c⟩;split at a
  ·rename_i b;rw[b];exact azne a
  ·exact a.elim
def azbn (s:St)(τ:Nat->Nat):List (Nat×AVal)->Ob
 |[]=>.tru
 |(t,a)::l=>.and (subA (nilP s.mem (s.get t) a) (a.ren τ)) (azbn s τ l)
def entO (b:Nat)(s a:St):Ob:=
 let τ:=idOf b (Yzm b s a)
 if injB τ a.mem&&a.df.all isFn then .and (azbn s τ a.fr) (.and (subM s.mem (Mem.ren τ a.mem)) (Vzr s.df (AVal.renL τ a.df)))else .no
theorem az1c {s:St}{τ:Nat->Nat}:∀ {l:List (Nat×AVal)},(azbn s τ l).holds->azg7 s τ l
 |[],_=>trivial
 |(_,_)::_,h=>⟨azey h.1,az1c h.2⟩
theorem Xzk {b:Nat}{s a:St}(h:(entO b s a).holds):Ent b s a:=by
 unfold entO at h;unfold Ent;simp only at h⊢;split at h
 ·rename_i c;rw[qc c];exact⟨az1c h.1,xzh h.2.1,oz9 h.2.2⟩
 ·exact h.elim
structure GuardS (P:qo)where
 f:FuncId
 ok:GuardFn P f
def Wzd {P:qo}(a:List (GuardS P)):List AVal->Ob
 |[]=>.tru
 | .func g _ _::l=>if a.any (λx=>x.f==g)then Wzd a l else .no
 |_::_=>.no
theorem Rzx {P:qo}{d:List (GuardS P)}:∀ {l:List AVal},(Wzd d l).holds->yzn P l
 |[],_=>trivial
 | .func g _ _::l,h=>by
   simp only[Wzd]at h;split at h
   ·rename_i c;obtain⟨x,_,b⟩:=List.any_eq_true.1 c;exact⟨by have:=eq_of_beq b;rw[<-this];exact x.ok,Rzx h⟩
   ·exact h.elim
 | .any::_,h| .pure _::_,h| .tt::_,h| .ff::_,h| .agg _::_,h| .tup _::_,h| .vec _::_,h| .ptr _ _::_,h| .eptr _ _ _ _::_,h| .ref _::_,h| .map _::_,h| .bsl _ _::_,h| .iface _ _::_,h| .anyb::_,h| .nilp::_,h| .clip _::_,h| .view _ _ _ _::_,h| .yld _::_,h=>by
   simp[Wzd,Ob.holds]at h
def retO (P:qo)(f:List (GuardS P))(d k:Nat)(a:List ResultVar)(b:AVal)(c:Mem)(s:St):Ob:=
 match pzt P s a with
 |none=>.no
 |some vs=>
  let e:=jzk s.mem vs (izz b);let τ:=idOf d (Yzn d s e.1 (izz b) c)
  if injB τ c&&azcr d k c&&AVal.inL d k (izz b)&&((a.length==1) !=azc2 b)then
   .and (Vzr e.1 (AVal.renL τ (izz b))) (.and (subM (bzk s.mem e.2++s.mem) (Mem.ren τ c)) (Wzd f s.df))
  else .no
theorem Zzd {P:qo}{f:List (GuardS P)}{d k:Nat}{a:List ResultVar}{b:AVal}{c:Mem}{s:St}(h:(retO P f d k a b c s).holds):Zze P d k a b c s:=by
 unfold retO at h;unfold Zze;split at h
 ·exact h.elim
 ·rename_i g;rw[g];simp only at h⊢;split at h
  ·rename_i e;rw[qc e];exact⟨oz9 h.1,xzh h.2.1,Rzx h.2.2⟩
  ·exact h.elim
def Uz5 (m:Mem):List Nat->Mem
 |[]=>[]
 |id::l=>match m.get id with
  |some (.vec sz n f _ e)=>(id,.vec sz n f n e)::Uz5 m l
  |_=>Uz5 m l
def St.weak (l:List Nat)(s:St):St:={s with mem:=Uz5 s.mem l++s.mem}
theorem RSub.share {sz n k:Nat}{f:Nat->PVal}{e:TypeId}:RSub (.vec sz n f k e) (.vec sz n f n e):=by
 refine⟨λF w ρ id a=>⟨?_,λb c=>c⟩⟩;obtain⟨d,a⟩:=a;refine⟨Nat.le_refl _,?_⟩
 grind[Nat.lt_of_lt_of_le,Nat.mul_le_mul_right]
theorem rzf {m:Mem}:∀ {l:List Nat} {i:Nat} {r:Res},(Uz5 m l++m).get i=some r->∃a,m.get i=some a/\RSub a r
 |[],i,r,h=>⟨r,h,RSub.refl r⟩
 |id::l,i,r,h=>by
  unfold Uz5 at h;split at h
  ·rename_i sz n f k e b;simp only[List.cons_append,Mem.get]at h;split at h
   ·rename_i e;subst e;cases h;exact⟨_,b,RSub.share⟩
   ·exact rzf h
  ·exact rzf h
theorem Az0 {b i:Nat}{r:Res}:∀ {m:Mem},hzt b m=true->m.get i=some r->i<b
 |[],_,h=>by simp[Mem.get]at h
 |(j,q)::m,h,a=>by
  simp only[hzt,qm,qf]at h;simp only[Mem.get]at a;split at a
  ·omega
  ·exact Az0 h.2 a
theorem Uz6 {m:Mem}{b:Nat}(h:hzt b m=true):∀ {l:List Nat},hzt b (Uz5 m l)=true
 |[]=>rfl
 |id::l=>by
  unfold Uz5;split
  ·rename_i sz n f k e a;simp only[hzt,qm,qf];exact⟨⟨Az0 h a,rfl⟩,Uz6 h⟩
  ·exact Uz6 h
theorem azcs {b:Nat}{m a:Mem}(h:hzt b m=true)(c:hzt b a=true):hzt b (m++a)=true:=by
 induction m<;>grind[hzt]
theorem St.weak_ok {l:List Nat}{s:St}(h:s.ok=true):(s.weak l).ok=true:=by
 grind[St.ok,St.weak,azcs,Uz6]
theorem St.weak_sat {X:Cx}{F:Cells}{w:World}{ρ:Env}{s:St}{a:Act}{l:List Nat}(c:Sat X F w ρ s a):Sat X F w ρ (s.weak l) a:=by
 refine⟨c.size,c.fr,⟨λi r hi=>?_,λi r b hi f=>?_,λi o r n b hi h f g=>?_⟩,c.df,c.good,c.from0,c.env0⟩
 ·obtain⟨j,d,e⟩:=rzf hi;exact(e.rel _ _ _ _ (c.mem.ok _ _ d)).1
 ·obtain⟨j,d,e⟩:=rzf hi;exact c.mem.mine _ _ _ d ((e.rel _ _ _ _ (c.mem.ok _ _ d)).2 b f)
 ·obtain⟨j,d,e⟩:=rzf hi;obtain⟨p,k,m⟩:=rzf h;exact c.mem.disj _ _ _ _ b d k ((e.rel _ _ _ _ (c.mem.ok _ _ d)).2 b f) ((m.rel _ _ _ _ (c.mem.ok _ _ k)).2 b g)
end Go.Abs
