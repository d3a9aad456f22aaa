import Derived.Test.YtagmfmidaochlaaGreatDoorZGTBase
open Option renaming some->A
namespace Go.Abs
theorem w64 {x:Int}(a: -9223372036854775808<=x)(b:x<=9223372036854775807):IntKind.i64.wrap x=x:=by rw[oY qa qa]
theorem w64n {n:Nat}(h:n<9223372036854775807):IntKind.i64.wrap ((n:Int)+1)=((n+1:Nat):Int):=by rw[w64 qa qa];omega
theorem c6 {α:Type}{b:Bool}{x y:α}(h:b=true):(bif b then x else y)=x:=by rw[h];rfl
theorem cT {α:Type}{b:Bool}{x y:α}(h:b=false):(bif b then x else y)=y:=by rw[h];rfl
theorem ai {α:Type}{p:Prop}[Decidable p]{x y:α}(h:p):(bif (decide p)then x else y)=x:=by rw[qg h];rfl
theorem aj {α:Type}{p:Prop}[Decidable p]{x y:α}(h:¬p):(bif (decide p)then x else y)=y:=by rw[qh h];rfl
section
variable {σ τ R:Type} {f:σ->Option (am σ τ R)}
theorem mz {x a:σ}{N:Nat}(h:f x=A (.next a)):iter f (N+1) x=iter f N a:=by simp[iter,h]
theorem TM (st:Nat->σ){k N:Nat}(e:k<N)(b:∀i,i<k->f (st i)=A (.next (st (i+1)))):∃M,iter f N (st 0)=iter f (M+1) (st k):=by
 have key:∀j,j<=k->iter f N (st 0)=iter f (N-j) (st j):=by
  intro j;induction j with
  |zero=>intro _;rfl
  |succ j c=>
   intro d;rw[c qa];obtain⟨M,a⟩:∃M,N-j=M+1:=⟨N-j-1,qa⟩;rw[a,mz (b j qa)];congr 1;omega
 refine⟨N-k-1,?_⟩;rw[key k (Nat.le_refl _)];congr 1;omega
variable {N:Nat}
theorem mJ(st:Nat->σ){x:σ}(a:x=st 0){y:τ}(k:Nat)(d:k<N)(e:∀i,i<k->f (st i)=A (.next (st (i+1))))(c:f (st k)=A (.out y)):iter f N x=A (.inl y):=by subst a;obtain⟨M,b⟩:=TM st d e;rw[b];simp[iter,c]
theorem agp(st:Nat->σ){x:σ}(a:x=st 0){r:R}(k:Nat)(d:k<N)(e:∀i,i<k->f (st i)=A (.next (st (i+1))))(c:f (st k)=A (.fin r)):iter f N x=A (.inr r):=by subst a;obtain⟨M,b⟩:=TM st d e;rw[b];simp[iter,c]
theorem SX (I:σ->Prop)(μ:σ->Nat)(Q:τ->Prop)(d:∀x,I x->(∃a,f x=A (.next a)/\I a/\μ a<μ x)\/∃y,f x=A (.out y)/\Q y):
 ∀ (N:Nat) (x:σ),I x->μ x<N->∃y,iter f N x=A (.inl y)/\Q y
 |0,x,_,h=>qa
 |N+1,x,e,h=>by
  rcases d x e with⟨a,b,c,g⟩|⟨y,b,c⟩;{rw[mz b];exact SX I μ Q d N a c qa};exact⟨y,by simp[iter,b],c⟩
end
theorem fa {τ R:Type}{o:Option (τ ⊕ R)}{y:τ}{k:τ->Option R}(h:o=A (.inl y)):andK o k=k y:=by rw[h];rfl
theorem FZ {τ R:Type}{o:Option (τ ⊕ R)}{r:R}{k:τ->Option R}(h:o=A (.inr r)):andK o k=A r:=by rw[h];rfl
variable {N:Nat}
theorem tG{σ τ R β:Type}{f:σ->Option (am σ τ R)}{k:τ->Option R}{g:β->Option R}{P:β->Prop}{x:σ}(I:σ->Prop)(μ:σ->Nat)(Q:τ->Prop)
 (c:I x) (d:μ x<N) (l:∀x,I x->(∃a,f x=A (.next a)/\I a/\μ a<μ x)\/∃y,f x=A (.out y)/\Q y) (h:∀y,Q y->∃b,k y=g b/\P b):∃b,andK (iter f N x) k=g b/\P b:=by
 obtain⟨y,m,j⟩:=SX I μ Q l N x c d;obtain⟨b,e,i⟩:=h y j;exact⟨b,(fa m).trans e,i⟩
theorem ah {τ R:Type}{y:τ}{k:τ->Option R}:andC (A (.out y)) k=k y:=rfl
theorem afz {τ R:Type}{r:R}{k:τ->Option R}:andC (A (.fin r)) k=A r:=rfl
theorem cS {α:Type}[Inhabited α]{l:List α}{k:Nat}(h:k<l.length):l.take (k+1)=l.take k++[l.getD k default]:=by rw[List.take_add_one];simp[h]
theorem fb{α:Type}{l:List α}(h:l.length<=N):l.take N=l:=List.take_of_length_le h
theorem au:maxLen=9223372036854775807:=rfl
end Go.Abs
