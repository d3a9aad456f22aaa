import Derived.Test.YtagmfmidaochlaaGreatDoorZIGuard
namespace Go.Abs
theorem bR.of_eq {a b:ac}(h:a=b):bR a b:=h▸bR.refl a
theorem bR.any {a:ac}:bR a .any:=⟨λ_ _ _ _ _=>.any⟩
theorem bR.tt {b:Bool}(h:b=true):bR .tt (.pure (.bool b)):=⟨λ_ _ _ v a=>by cases a;rw[h];exact .pure .bool⟩
theorem bR.ff {b:Bool}(h:b=false):bR .ff (.pure (.bool b)):=⟨λ_ _ _ v a=>by cases a;rw[h];exact .pure .bool⟩
theorem PSub.refl (p:ae):PSub p p:=⟨λ_ _ _ h=>h⟩
theorem PSub.of_eq {p q:ae}(h:p=q):PSub p q:=h▸PSub.refl p
theorem PSub.a {p q:ae}(h:PSub p q):bR (.pure p) (.pure q):=⟨λF w _ v b=>.pure (h.rel F w v b.pure_inv)⟩
theorem PSub.nil {x b n d:Nat}{f g:Nat->ae}(o:n=0)(a:d=0):PSub (.lst x n f) (.lst b d g):=by
 subst o;subst a;refine⟨λF w v e=>?_⟩;cases e with
 |nil=>exact .nil
 |emp m=>exact .emp m
 |sl c l k q s r=>exact .sl c l k (λi t=>qa) (λi j p t h=>qa) (λi j p t h=>qa)
def PSubs:List ae->List ae->Prop
 |[],[]=>True
 |a::l,b::c=>PSub a b/\PSubs l c
 |_,_=>False
theorem PSubs.get:∀ {l c:List ae},PSubs l c->l.length=c.length/\∀ (j:Nat) (q:ae),c[j]?=some q->∃p,l[j]?=some p/\PSub p q
 |[],[],_=>⟨rfl,jV⟩
 |[],_::_,h=>h.elim
 |_::_,[],h=>h.elim
 |a::l,b::c,h=>by
  obtain⟨f,g⟩:=PSubs.get h.2;refine⟨by simp[f],λj q d=>?_⟩;cases j with
  |zero=>simp at d;subst d;exact⟨a,jV,h.1⟩
  |succ j=>obtain⟨p,e,i⟩:=g j q (by simpa using d);exact⟨p,by simpa using e,i⟩
theorem PSub.agg {l a:List ae}(h:PSubs l a):PSub (.agg l) (.agg a):=by
 obtain⟨k,d⟩:=h.get;refine⟨λF w v b=>?_⟩;cases b with
 |agg m c=>
  refine .agg qa (λj q u f e=>?_);obtain⟨p,g,i⟩:=d j q f;exact i.rel F w u (c j p u g e)
theorem bR.agg {l a:List ac}(h:ei l a):bR (.agg l) (.agg a):=by
 refine⟨λF w ρ v b=>?_⟩;obtain⟨k,d⟩:=mi (F:=F) (w:=w) (ρ:=ρ) h;cases b with
 |agg m c=>
  refine .agg qa (λj q u f e=>?_);obtain⟨p,g,i⟩:=d j q f;exact i u (c j p u g e)
theorem RSub.refl (r:Res):RSub r r:=⟨λ_ _ _ _ h=>⟨h,λ_ h=>h⟩⟩
theorem RSub.of_eq {r a:Res}(h:r=a):RSub r a:=h▸RSub.refl r
theorem RSub.gone {r:Res}:RSub r .gone:=⟨λ_ _ _ _ _=>⟨trivial,λ_ h=>by grind[aE,cX,aX]⟩⟩
theorem RSub.nilv {h n k:Nat}{g:Nat->ae}{e:TypeId}(c:n=0)(f:k=0):RSub .nilv (.vec h n g k e):=by subst c;subst f;exact⟨λF w ρ id a=>⟨⟨Nat.le_refl _,.inl ⟨a,rfl⟩⟩,λb d=>by simp[aE,cX,aX,show ρ.vec id=none from a]at d⟩⟩
theorem RSub.box {d r:List ac}(h:ei d r):RSub (.box d) (.box r):=by refine⟨λF w ρ id g=>⟨?_,λb k=>k⟩⟩;obtain⟨c,e,i,p,f,o⟩:=g;obtain⟨m,n⟩:=mi (F:=F) (w:=w) (ρ:=ρ) h;refine⟨c,e,i,qa,f,λj a v l q=>?_⟩;grind
theorem RSub.map {g:List ae}{f a:List ae->Bool}{e c:List ae->ae}(h:∀p,bE g p=true->f p=a p/\e p=c p):RSub (.map g f e) (.map g a c):=by refine⟨λF w ρ id j=>⟨?_,λb k=>k⟩⟩;obtain⟨m,d,n,l,o,r,s⟩:=j;refine⟨m,d,n,l,o,λp i q=>jW,λp v i q=>?_⟩;simp_all
variable {α:Type} [Inhabited α]
def el (a:α->ae)(l:List α):Nat->ae:=λi=>a (l.getD i default)
def encL (b:Nat)(a:α->ae)(l:List α):ae:=.lst b l.length (el a l)
omit [Inhabited α]in theorem getD_left {l b:List α} {i:Nat} {d:α} (h:i<l.length):(l++b).getD i d=l.getD i d:=by grind
omit [Inhabited α]in theorem getD_right {l b:List α} {i:Nat} {d:α} (h:l.length<=i):(l++b).getD i d=b.getD (i-l.length) d:=by grind
end Go.Abs
