/-
  Lib (a part of a claim: our own text).
-/
import Derived.Test.YtkbjjlfpbebiaaaGreatDoorYKGuard
namespace Go.Abs
theorem ASub.of_eq {a b:AVal}(h:a=b):ASub a b:=h▸ASub.refl a
theorem ASub.any {a:AVal}:ASub a .any:=⟨fun _ _ _ _ _=>.any⟩
theorem ASub.tt {b:Bool}(h:b=true):ASub .tt (.pure (.bool b)):=⟨fun _ _ _ v hv=>by cases hv;rw[h];exact .pure .bool⟩
theorem ASub.ff {b:Bool}(h:b=false):ASub .ff (.pure (.bool b)):=⟨fun _ _ _ v hv=>by cases hv;rw[h];exact .pure .bool⟩
theorem PSub.refl (p:PVal):PSub p p:=⟨fun _ _ _ h=>h⟩
theorem PSub.of_eq {p q:PVal}(h:p=q):PSub p q:=h▸PSub.refl p
theorem PSub.a {p q:PVal}(h:PSub p q):ASub (.pure p) (.pure q):=⟨fun F w _ v hv=>.pure (h.rel F w v hv.pure_inv)⟩
theorem PSub.nil {sz sz' n n':Nat}{f g:Nat->PVal}(hn:n=0)(hn':n'=0):PSub (.lst sz n f) (.lst sz' n' g):=by
 subst hn;subst hn'
 refine⟨fun F w v hv=>?_⟩
 cases hv with
 |nil=>exact .nil
 |emp hq=>exact .emp hq
 |sl c h1 h2 h3 h4 h5=>exact .sl c h1 h2 (fun i hi=>by omega) (fun i j p hi hp=>by omega) (fun i j p hi hp=>by omega)
def PSubs:List PVal->List PVal->Prop
 |[],[]=>True
 |a::l,b::l'=>PSub a b/\PSubs l l'
 |_,_=>False
theorem PSubs.get:∀ {l l':List PVal},PSubs l l'->l.length=l'.length/\∀ (j:Nat) (q:PVal),l'[j]?=some q->∃p,l[j]?=some p/\PSub p q
 |[],[],_=>⟨rfl,by simp⟩
 |[],_::_,h=>h.elim
 |_::_,[],h=>h.elim
 |a::l,b::l',h=>by
  obtain⟨h1,h2⟩:=PSubs.get h.2
  refine⟨by simp[h1],fun j q hq=>?_⟩
  cases j with
  |zero=>simp at hq;subst hq;exact⟨a,by simp,h.1⟩
  |succ j=>obtain⟨p,hp,hs⟩:=h2 j q (by simpa using hq);exact⟨p,by simpa using hp,hs⟩
theorem PSub.agg {l l':List PVal}(h:PSubs l l'):PSub (.agg l) (.agg l'):=by
 obtain⟨h1,h2⟩:=h.get
 refine⟨fun F w v hv=>?_⟩
 cases hv with
 |agg hl hr=>
  refine .agg (by omega) (fun j q u hq hu=>?_)
  obtain⟨p,hp,hs⟩:=h2 j q hq
  exact hs.rel F w u (hr j p u hp hu)
theorem ASub.agg {l l':List AVal}(h:rzb l l'):ASub (.agg l) (.agg l'):=by
 refine⟨fun F w ρ v hv=>?_⟩
 obtain⟨h1,h2⟩:=lz1 (F:=F) (w:=w) (ρ:=ρ) h
 cases hv with
 |agg hl hr=>
  refine .agg (by omega) (fun j q u hq hu=>?_)
  obtain⟨p,hp,hs⟩:=h2 j q hq
  exact hs u (hr j p u hp hu)
theorem RSub.refl (r:Res):RSub r r:=⟨fun _ _ _ _ h=>⟨h,fun _ h=>h⟩⟩
theorem RSub.of_eq {r r':Res}(h:r=r'):RSub r r':=h▸RSub.refl r
theorem RSub.gone {r:Res}:RSub r .gone:=⟨fun _ _ _ _ _=>⟨trivial,fun _ h=>by simp[Owns,hzm,bzc]at h⟩⟩
theorem RSub.nilv {sz n k:Nat}{g:Nat->PVal}{e:TypeId}(hn:n=0)(hk:k=0):RSub .nilv (.vec sz n g k e):=by
 subst hn;subst hk
 exact⟨fun F w ρ id hr=>⟨⟨Nat.le_refl _,.inl ⟨hr,rfl⟩⟩,fun b hb=>by simp[Owns,hzm,bzc,show ρ.vec id=none from hr]at hb⟩⟩
theorem RSub.box {cs ds:List AVal}(h:rzb cs ds):RSub (.box cs) (.box ds):=by
 refine⟨fun F w ρ id hr=>⟨?_,fun b hb=>hb⟩⟩
 obtain⟨c,e,h1,h2,h3,h4⟩:=hr
 obtain⟨q1,q2⟩:=lz1 (F:=F) (w:=w) (ρ:=ρ) h
 refine⟨c,e,h1,by omega,h3,fun j a v ha hv=>?_⟩
 obtain⟨b,hb,hs⟩:=q2 j a ha
 obtain⟨r1,r2⟩:=h4 j b v hb hv
 exact⟨hs v r1,r2⟩
theorem RSub.map {tm:List PVal}{dom dom':List PVal->Bool}{val val':List PVal->PVal}(h:∀p,cza tm p=true->dom p=dom' p/\val p=val' p):RSub (.map tm dom val) (.map tm dom' val'):=by
 refine⟨fun F w ρ id hr=>⟨?_,fun b hb=>hb⟩⟩
 obtain⟨es,clock,h1,h2,h3,h4,h5⟩:=hr
 refine⟨es,clock,h1,h2,h3,fun p hp hf=>by rw[←(h p hp).1];exact h4 p hp hf,fun p v hp hf=>?_⟩
 obtain⟨q1,q2⟩:=h5 p v hp hf
 exact⟨by rw[←(h p hp).1];exact q1,by rw[←(h p hp).2];exact q2⟩
variable {α:Type} [Inhabited α]
def el (enc:α->PVal)(l:List α):Nat->PVal:=fun i=>enc (l.getD i default)
def encL (sz:Nat)(enc:α->PVal)(l:List α):PVal:=.lst sz l.length (el enc l)
omit [Inhabited α]in theorem getD_left {l l':List α} {i:Nat} {d:α} (h:i<l.length):(l++l').getD i d=l.getD i d:=by
 simp[List.getD_eq_getElem?_getD,List.getElem?_append_left h]
omit [Inhabited α]in theorem getD_right {l l':List α} {i:Nat} {d:α} (h:l.length≤i):(l++l').getD i d=l'.getD (i-l.length) d:=by
 simp[List.getD_eq_getElem?_getD,List.getElem?_append_right h]
end Go.Abs
