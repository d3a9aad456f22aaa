import Derived.Test.YtnfbbidmdkfilaaGreatDoorZDTBase
namespace Go.Abs
theorem w64 {x:Int}(h1: -9223372036854775808<=x)(h2:x<=9223372036854775807):IntKind.i64.wrap x=x:=by
 rw[az3t qa qa]
theorem w64n {n:Nat}(h:n<9223372036854775807):IntKind.i64.wrap ((n:Int)+1)=((n+1:Nat):Int):=by
 rw[w64 qa qa];omega
theorem hzj {α:Type}{b:Bool}{x y:α}(h:b=true):(bif b then x else y)=x:=by rw[h];rfl
theorem hzx {α:Type}{b:Bool}{x y:α}(h:b=false):(bif b then x else y)=y:=by rw[h];rfl
theorem az5 {α:Type}{p:Prop}[Decidable p]{x y:α}(h:p):(bif (decide p)then x else y)=x:=by rw[qg h];rfl
theorem azb {α:Type}{p:Prop}[Decidable p]{x y:α}(h:¬p):(bif (decide p)then x else y)=y:=by rw[qh h];rfl
section
variable {σ τ R:Type} {f:σ->Option (Step3 σ τ R)}
theorem xzz {x x':σ}{N:Nat}(h:f x=some (.next x')):iter f (N+1) x=iter f N x':=by simp[iter,h]
theorem azc6 (st:Nat->σ){k N:Nat}(hk:k<N)(hs:∀i,i<k->f (st i)=some (.next (st (i+1)))):∃M,iter f N (st 0)=iter f (M+1) (st k):=by
 have key:∀j,j<=k->iter f N (st 0)=iter f (N-j) (st j):=by
  intro j;induction j with
  |zero=>intro _;rfl
  |succ j ih=>
   intro hj;rw[ih qa];obtain⟨M,hM⟩:∃M,N-j=M+1:=⟨N-j-1,qa⟩;rw[hM,xzz (hs j qa)];congr 1;omega
 refine⟨N-k-1,?_⟩;rw[key k (Nat.le_refl _)];congr 1;omega
theorem nzy (st:Nat->σ){x:σ}(h0:x=st 0){y:τ}(k:Nat){N:Nat}(hk:k<N)(hs:∀i,i<k->f (st i)=some (.next (st (i+1))))(he:f (st k)=some (.out y)):iter f N x=some (.inl y):=by
 subst h0;obtain⟨M,hM⟩:=azc6 st hk hs;rw[hM];simp[iter,he]
theorem Kz2 (st:Nat->σ){x:σ}(h0:x=st 0){r:R}(k:Nat){N:Nat}(hk:k<N)(hs:∀i,i<k->f (st i)=some (.next (st (i+1))))(he:f (st k)=some (.fin r)):iter f N x=some (.inr r):=by
 subst h0;obtain⟨M,hM⟩:=azc6 st hk hs;rw[hM];simp[iter,he]
theorem az77 (I:σ->Prop)(μ:σ->Nat)(Q:τ->Prop)(hr:∀x,I x->(∃x',f x=some (.next x')/\I x'/\μ x'<μ x)\/∃y,f x=some (.out y)/\Q y):
 ∀ (N:Nat) (x:σ),I x->μ x<N->∃y,iter f N x=some (.inl y)/\Q y
 |0,x,_,h=>qa
 |N+1,x,hi,h=>by
  rcases hr x hi with⟨x',h1,h2,h3⟩|⟨y,h1,h2⟩
  ·rw[xzz h1];exact az77 I μ Q hr N x' h2 qa
  ·exact⟨y,by simp[iter,h1],h2⟩
end
theorem gzw {τ R:Type}{o:Option (τ ⊕ R)}{y:τ}{k:τ->Option R}(h:o=some (.inl y)):andK o k=k y:=by rw[h];rfl
theorem yzs {τ R:Type}{o:Option (τ ⊕ R)}{r:R}{k:τ->Option R}(h:o=some (.inr r)):andK o k=some r:=by rw[h];rfl
theorem Yz0 {σ τ R β:Type}{f:σ->Option (Step3 σ τ R)}{k:τ->Option R}{g:β->Option R}{P:β->Prop}{N:Nat}{x:σ}(I:σ->Prop)(μ:σ->Nat)(Q:τ->Prop)
 (h0:I x) (hN:μ x<N) (hr:∀x,I x->(∃x',f x=some (.next x')/\I x'/\μ x'<μ x)\/∃y,f x=some (.out y)/\Q y) (hk:∀y,Q y->∃b,k y=g b/\P b):∃b,andK (iter f N x) k=g b/\P b:=by
 obtain⟨y,hy,hq⟩:=az77 I μ Q hr N x h0 hN;obtain⟨b,hb,hp⟩:=hk y hq;exact⟨b,(gzw hy).trans hb,hp⟩
theorem az3 {τ R:Type}{y:τ}{k:τ->Option R}:andC (some (.out y)) k=k y:=rfl
theorem azfg {τ R:Type}{r:R}{k:τ->Option R}:andC (some (.fin r)) k=some r:=rfl
theorem ezm {α:Type}[Inhabited α]{l:List α}{k:Nat}(h:k<l.length):l.take (k+1)=l.take k++[l.getD k default]:=by
 rw[List.take_add_one];simp[h]
theorem rza {α:Type}{l:List α}{k:Nat}(h:l.length<=k):l.take k=l:=List.take_of_length_le h
theorem aze:maxLen=9223372036854775807:=rfl
end Go.Abs
