import Derived.Test.YtagmfmidaochlaaGreatDoorZITBase
open Option renaming some->A
namespace Go.Abs
theorem w64 {x:Int}(a: -9223372036854775808<=x)(b:x<=9223372036854775807):IntKind.i64.wrap x=x:=by rw[oO qa qa]
theorem w64n {n:Nat}(h:n<9223372036854775807):IntKind.i64.wrap ((n:Int)+1)=((n+1:Nat):Int):=by rw[w64 qa qa];omega
theorem eK {α:Type}{b:Bool}{x y:α}(h:b=true):(bif b then x else y)=x:=by rw[h];rfl
theorem eJ {α:Type}{b:Bool}{x y:α}(h:b=false):(bif b then x else y)=y:=by rw[h];rfl
theorem ah {α:Type}{p:Prop}[Decidable p]{x y:α}(h:p):(bif (decide p)then x else y)=x:=by rw[qg h];rfl
theorem ai {α:Type}{p:Prop}[Decidable p]{x y:α}(h:¬p):(bif (decide p)then x else y)=y:=by rw[qh h];rfl
section
variable {σ τ R:Type} {f:σ->Option (aA σ τ R)}{N:Nat}
theorem sb{x a:σ}(h:f x=A (.next a)):iter f (N+1) x=iter f N a:=by simp[iter,h]
theorem Tl (a:Nat->σ){k N:Nat}(g:k<N)(c:∀i,i<k->f (a i)=A (.next (a (i+1)))):∃M,iter f N (a 0)=iter f (M+1) (a k):=by
 have key:∀j,j<=k->iter f N (a 0)=iter f (N-j) (a j):=by
  intro j;induction j with
  |zero=>intro _;rfl
  |succ j d=>
   intro e;rw[d qa];obtain⟨M,b⟩:∃M,N-j=M+1:=⟨N-j-1,qa⟩;rw[b,sb (c j qa)];congr 1;omega
 refine⟨N-k-1,?_⟩;rw[key k (Nat.le_refl _)];congr 1;omega
theorem mD(a:Nat->σ){x:σ}(b:x=a 0){y:τ}(k:Nat)(e:k<N)(g:∀i,i<k->f (a i)=A (.next (a (i+1))))(d:f (a k)=A (.out y)):iter f N x=A (.inl y):=by subst b;obtain⟨M,c⟩:=Tl a e g;rw[c];simp[iter,d]
theorem So(a:Nat->σ){x:σ}(b:x=a 0){r:R}(k:Nat)(e:k<N)(g:∀i,i<k->f (a i)=A (.next (a (i+1))))(d:f (a k)=A (.fin r)):iter f N x=A (.inr r):=by subst b;obtain⟨M,c⟩:=Tl a e g;rw[c];simp[iter,d]
theorem Sp (I:σ->Prop)(μ:σ->Nat)(Q:τ->Prop)(d:∀x,I x->(∃a,f x=A (.next a)/\I a/\μ a<μ x)\/∃y,f x=A (.out y)/\Q y):
 ∀ (N:Nat) (x:σ),I x->μ x<N->∃y,iter f N x=A (.inl y)/\Q y
 |0,x,_,h=>qa
 |N+1,x,e,h=>by
  rcases d x e with⟨a,b,c,g⟩|⟨y,b,c⟩;{rw[sb b];exact Sp I μ Q d N a c qa};exact⟨y,by simp[iter,b],c⟩
end
theorem fu {τ R:Type}{o:Option (τ ⊕ R)}{y:τ}{k:τ->Option R}(h:o=A (.inl y)):andK o k=k y:=by rw[h];rfl
theorem so {τ R:Type}{o:Option (τ ⊕ R)}{r:R}{k:τ->Option R}(h:o=A (.inr r)):andK o k=A r:=by rw[h];rfl
variable {N:Nat}
theorem Fh{σ τ R β:Type}{f:σ->Option (aA σ τ R)}{k:τ->Option R}{g:β->Option R}{P:β->Prop}{x:σ}(I:σ->Prop)(μ:σ->Nat)(Q:τ->Prop)
 (c:I x) (d:μ x<N) (l:∀x,I x->(∃a,f x=A (.next a)/\I a/\μ a<μ x)\/∃y,f x=A (.out y)/\Q y) (h:∀y,Q y->∃b,k y=g b/\P b):∃b,andK (iter f N x) k=g b/\P b:=by
 obtain⟨y,m,j⟩:=Sp I μ Q l N x c d;obtain⟨b,e,i⟩:=h y j;exact⟨b,(fu m).trans e,i⟩
theorem ag {τ R:Type}{y:τ}{k:τ->Option R}:andC (A (.out y)) k=k y:=rfl
theorem dJ {α:Type}[Inhabited α]{l:List α}{k:Nat}(h:k<l.length):l.take (k+1)=l.take k++[l.getD k default]:=by rw[List.take_add_one];simp[h]
theorem eI{α:Type}{l:List α}(h:l.length<=N):l.take N=l:=List.take_of_length_le h
theorem aF:maxLen=9223372036854775807:=rfl
end Go.Abs
