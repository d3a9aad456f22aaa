/-
  Ob (a part of a claim: our own text).
-/
import Derived.Test.YtlmicknhpllbdaaGreatDoorYMLib
namespace Go.Abs
inductive Ob:Type 1 where
 |tru
 |no
 |eq {α:Type} (a b:α)
 |and (a b:Ob)
 |imp (p:Prop) (a:Ob)
 |all {α:Type} (f:α->Ob)
def Ob.holds:Ob->Prop
 | .tru=>True
 | .no=>False
 | .eq a b=>a=b
 | .and a b=>a.holds/\b.holds
 | .imp p a=>p->a.holds
 | .all f=>∀x,(f x).holds
inductive Dt:Type 1 where
 |u
 |n (b:Bool)
 |v {α:Type} (a:α)
 |and (a b:Dt)
 |all {α:Type} (f:α->Dt)
def azga {c:Type}(l:Bool)(a b:c):c:=
 match l with
 |true=>a
 |false=>b
def Ob.side (l:Bool):Ob->Dt
 | .tru=>.u
 | .no=>.n l
 | .eq a b=>.v (azga l a b)
 | .and a b=>.and (a.side l) (b.side l)
 | .imp _ a=>a.side l
 | .all f=>.all fun x=>(f x).side l
theorem Ob.of_side:∀ {o:Ob},o.side true=o.side false->o.holds:=by
 intro o
 induction o with
 |tru=>intro _;trivial
 |no=>grind[Ob.side]
 |eq a b=>intro h;simp only[Ob.side,azga,Dt.v.injEq,heq_eq_eq,true_and]at h;exact h
 |and a b e c=>intro h;simp only[Ob.side,Dt.and.injEq]at h;exact⟨e h.1,c h.2⟩
 |imp p a d=>intro h _;exact d h
 |all f d=>intro h x;simp only[Ob.side,Dt.all.injEq,heq_eq_eq,true_and]at h;exact d x (congrFun h x)
mutual
def subP:PVal->PVal->Ob
 | .lst 0 n _,.lst _ m _=>.and (.eq n 0) (.eq m 0)
 | .agg ps,.agg a=>azbg ps a
 |p,q=>.eq p q
def azbg:List PVal->List PVal->Ob
 |[],[]=>.tru
 |p::ps,q::a=>.and (subP p q) (azbg ps a)
 |_,_=>.no
end
mutual
def subA:AVal->AVal->Ob
 |_,.any=>.tru
 | .tt,.pure q=>.eq (PVal.bool true) q
 | .ff,.pure q=>.eq (PVal.bool false) q
 | .pure p,.pure q=>subP p q
 | .agg c,.agg ds=>Szt c ds
 | .tup c,.tup ds=>Szt c ds
 |a,b=>.eq a b
def Szt:List AVal->List AVal->Ob
 |[],[]=>.tru
 |p::ps,q::d=>.and (subA p q) (Szt ps d)
 |_,_=>.no
end
def subR:Res->Res->Ob
 |_,.gone=>.tru
 | .nilv,.vec _ n _ k _=>.and (.eq n 0) (.eq k 0)
 | .box b,.box ds=>Szt b ds
 |r,a=>.eq r a
def subM (m:Mem):Mem->Ob
 |[]=>.tru
 |(i,r)::l=>.and (match m.get i with|some a=>subR a r|none=>.no) (subM m l)
mutual
theorem Wzp:∀ {p q:PVal},(subP p q).holds->PSub p q:=by
 intro p q h
 unfold subP at h
 split at h
 ·exact PSub.nil h.1 h.2
 ·exact PSub.agg (Wzq h)
 ·exact PSub.of_eq h
theorem Wzq:∀ {p q:List PVal},(azbg p q).holds->PSubs p q:=by
 intro p q h
 unfold azbg at h
 split at h
 ·trivial
 ·exact⟨Wzp h.1,Wzq h.2⟩
 ·exact h.elim
end
theorem azhh {l a:List AVal}(h:Czz l a):ASub (.tup l) (.tup a):=by
 refine⟨fun F w ρ v b=>?_⟩
 obtain⟨e,d⟩:=rz5 (F:=F) (w:=w) (ρ:=ρ) h
 cases b with
 |tup i f=>
  refine .tup (by omega) (fun j q u c g=>?_)
  grind
mutual
theorem az82:∀ {p q:AVal},(subA p q).holds->ASub p q:=by
 intro p q h
 unfold subA at h
 split at h
 ·exact ASub.any
 ·have h:PVal.bool true=_:=h
  grind[ASub.tt]
 ·have h:PVal.bool false=_:=h
  grind[ASub.ff]
 ·exact(Wzp h).a
 ·exact ASub.agg (nzz h)
 ·exact azhh (nzz h)
 ·exact ASub.of_eq h
theorem nzz:∀ {p q:List AVal},(Szt p q).holds->Czz p q:=by
 intro p q h
 unfold Szt at h
 split at h
 ·trivial
 ·exact⟨az82 h.1,nzz h.2⟩
 ·exact h.elim
end
theorem azev {r a:Res}(h:(subR r a).holds):RSub r a:=by
 unfold subR at h
 split at h
 ·exact RSub.gone
 ·exact RSub.nilv h.1 h.2
 ·grind[RSub.box,nzz]
 ·exact RSub.of_eq h
theorem vze {m:Mem}:∀ {l:Mem},(subM m l).holds->MSub m l
 |[],_=>trivial
 |(i,r)::l,h=>by
  obtain⟨a,c⟩:=h
  refine⟨?_,vze c⟩
  split at a
  ·rename_i b;rw[b];exact azev a
  ·exact a.elim
def az5w (s:St)(τ:Nat->Nat):List (Nat×AVal)->Ob
 |[]=>.tru
 |(t,a)::l=>.and (subA (nilP s.mem (s.get t) a) (a.ren τ)) (az5w s τ l)
def entO (b:Nat)(s a:St):Ob:=
 let τ:=idOf b (Vza b s a)
 if injB τ a.mem&&a.df.all isFn then .and (az5w s τ a.fr) (.and (subM s.mem (Mem.ren τ a.mem)) (Szt s.df (AVal.renL τ a.df)))else .no
theorem Xzt {s:St}{τ:Nat->Nat}:∀ {l:List (Nat×AVal)},(az5w s τ l).holds->az8w s τ l
 |[],_=>trivial
 |(_,_)::_,h=>⟨az82 h.1,Xzt h.2⟩
theorem Uzj {b:Nat}{s a:St}(h:(entO b s a).holds):Ent b s a:=by
 unfold entO at h
 unfold Ent
 simp only at h⊢
 split at h
 ·rename_i c;rw[if_pos c];exact⟨Xzt h.1,vze h.2.1,nzz h.2.2⟩
 ·exact h.elim
structure GuardS (P:Program)where
 f:FuncId
 ok:GuardFn P f
def Tzc {P:Program}(a:List (GuardS P)):List AVal->Ob
 |[]=>.tru
 | .func g _ _::l=>if a.any (fun x=>x.f==g)then Tzc a l else .no
 |_::_=>.no
theorem Ozr {P:Program}{d:List (GuardS P)}:∀ {l:List AVal},(Tzc d l).holds->wzf P l
 |[],_=>trivial
 | .func g _ _::l,h=>by
   simp only[Tzc]at h
   split at h
   ·rename_i c
    obtain⟨x,_,b⟩:=List.any_eq_true.1 c
    exact⟨by have:=eq_of_beq b;rw[←this];exact x.ok,Ozr h⟩
   ·exact h.elim
 | .any::_,h| .pure _::_,h| .tt::_,h| .ff::_,h| .agg _::_,h| .tup _::_,h| .vec _::_,h| .ptr _ _::_,h| .eptr _ _ _ _::_,h| .ref _::_,h| .map _::_,h| .bsl _ _::_,h| .iface _ _::_,h| .anyb::_,h| .nilp::_,h| .clip _::_,h| .view _ _ _ _::_,h| .yld _::_,h=>by
   simp[Tzc,Ob.holds]at h
def retO (P:Program)(f:List (GuardS P))(d k:Nat)(a:List ResultVar)(b:AVal)(c:Mem)(s:St):Ob:=
 match pzd P s a with
 |none=>.no
 |some vs=>
  let e:=jzy s.mem vs (jz3 b)
  let τ:=idOf d (Vzb d s e.1 (jz3 b) c)
  if injB τ c&&az6q d k c&&AVal.inL d k (jz3 b)&&((a.length==1) !=az69 b)then
   .and (Szt e.1 (AVal.renL τ (jz3 b))) (.and (subM (bzi s.mem e.2++s.mem) (Mem.ren τ c)) (Tzc f s.df))
  else .no
theorem Wz2 {P:Program}{f:List (GuardS P)}{d k:Nat}{a:List ResultVar}{b:AVal}{c:Mem}{s:St}(h:(retO P f d k a b c s).holds):Wz3 P d k a b c s:=by
 unfold retO at h
 unfold Wz3
 split at h
 ·exact h.elim
 ·rename_i g
  rw[g]
  simp only at h⊢
  split at h
  ·rename_i e;rw[if_pos e];exact⟨nzz h.1,vze h.2.1,Ozr h.2.2⟩
  ·exact h.elim
def Rz6 (m:Mem):List Nat->Mem
 |[]=>[]
 |id::l=>match m.get id with
  |some (.vec sz n f _ e)=>(id,.vec sz n f n e)::Rz6 m l
  |_=>Rz6 m l
def St.weak (l:List Nat)(s:St):St:={s with mem:=Rz6 s.mem l++s.mem}
theorem RSub.share {sz n k:Nat}{f:Nat->PVal}{e:TypeId}:RSub (.vec sz n f k e) (.vec sz n f n e):=by
 refine⟨fun F w ρ id a=>⟨?_,fun b c=>c⟩⟩
 obtain⟨d,a⟩:=a
 refine⟨Nat.le_refl _,?_⟩
 grind[Nat.lt_of_lt_of_le,Nat.mul_le_mul_right]
theorem qzv {m:Mem}:∀ {l:List Nat} {i:Nat} {r:Res},(Rz6 m l++m).get i=some r->∃a,m.get i=some a/\RSub a r
 |[],i,r,h=>⟨r,h,RSub.refl r⟩
 |id::l,i,r,h=>by
  unfold Rz6 at h
  split at h
  ·rename_i sz n f k e b
   simp only[List.cons_append,Mem.get]at h
   split at h
   ·rename_i e;subst e;cases h;exact⟨_,b,RSub.share⟩
   ·exact qzv h
  ·exact qzv h
theorem xzo {b i:Nat}{r:Res}:∀ {m:Mem},hzw b m=true->m.get i=some r->i<b
 |[],_,h=>by simp[Mem.get]at h
 |(j,q)::m,h,a=>by
  simp only[hzw,Bool.and_eq_true,decide_eq_true_eq]at h
  simp only[Mem.get]at a
  split at a
  ·omega
  ·exact xzo h.2 a
theorem Rz7 {m:Mem}{b:Nat}(h:hzw b m=true):∀ {l:List Nat},hzw b (Rz6 m l)=true
 |[]=>rfl
 |id::l=>by
  unfold Rz6
  split
  ·rename_i sz n f k e a
   simp only[hzw,Bool.and_eq_true,decide_eq_true_eq]
   exact⟨⟨xzo h a,rfl⟩,Rz7 h⟩
  ·exact Rz7 h
theorem az6r {b:Nat}{m a:Mem}(h:hzw b m=true)(c:hzw b a=true):hzw b (m++a)=true:=by
 induction m<;>grind[hzw]
theorem St.weak_ok {l:List Nat}{s:St}(h:s.ok=true):(s.weak l).ok=true:=by
 grind[St.ok,St.weak,az6r,Rz7]
theorem St.weak_sat {X:Cx}{F:Cells}{w:World}{ρ:Env}{s:St}{a:Act}{l:List Nat}(c:Sat X F w ρ s a):Sat X F w ρ (s.weak l) a:=by
 refine⟨c.size,c.fr,⟨fun i r hi=>?_,fun i r b hi f=>?_,fun i o r n b hi h f g=>?_⟩,c.df,c.good,c.from0,c.env0⟩
 ·obtain⟨j,d,e⟩:=qzv hi
  exact(e.rel _ _ _ _ (c.mem.ok _ _ d)).1
 ·obtain⟨j,d,e⟩:=qzv hi
  exact c.mem.mine _ _ _ d ((e.rel _ _ _ _ (c.mem.ok _ _ d)).2 b f)
 ·obtain⟨j,d,e⟩:=qzv hi
  obtain⟨p,k,m⟩:=qzv h
  exact c.mem.disj _ _ _ _ b d k ((e.rel _ _ _ _ (c.mem.ok _ _ d)).2 b f) ((m.rel _ _ _ _ (c.mem.ok _ _ k)).2 b g)
end Go.Abs
