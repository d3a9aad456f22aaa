/-
  PLib (a part of a claim: our own text).
-/
import Derived.Test.YtkbjjlfpbebiaaaGreatDoorYKTBase
namespace Go.Abs
theorem w64 {x:Int}(h1: -9223372036854775808≤x)(h2:x≤9223372036854775807):IntKind.i64.wrap x=x:=by
 rw[Kzg (by omega) (by omega)]
theorem w64n {n:Nat}(h:n<9223372036854775807):IntKind.i64.wrap ((n:Int)+1)=((n+1:Nat):Int):=by
 rw[w64 (by omega) (by omega)];omega
theorem Nzr {α:Type}{b:Bool}{x y:α}(h:b=true):(bif b then x else y)=x:=by rw[h];rfl
theorem Nzq {α:Type}{b:Bool}{x y:α}(h:b=false):(bif b then x else y)=y:=by rw[h];rfl
theorem bzf {α:Type}{p:Prop}[Decidable p]{x y:α}(h:p):(bif (decide p)then x else y)=x:=by rw[decide_eq_true h];rfl
theorem bza {α:Type}{p:Prop}[Decidable p]{x y:α}(h:¬p):(bif (decide p)then x else y)=y:=by rw[decide_eq_false h];rfl
section
variable {σ τ R:Type} {f:σ->Option (Step3 σ τ R)}
theorem Ozj {x x':σ}{N:Nat}(h:f x=some (.next x')):iter f (N+1) x=iter f N x':=by simp[iter,h]
theorem Tzn (st:Nat->σ){k N:Nat}(hk:k<N)(hs:∀i,i<k->f (st i)=some (.next (st (i+1)))):∃M,iter f N (st 0)=iter f (M+1) (st k):=by
 have key:∀j,j≤k->iter f N (st 0)=iter f (N-j) (st j):=by
  intro j
  induction j with
  |zero=>intro _;rfl
  |succ j ih=>
   intro hj
   rw[ih (by omega)]
   obtain⟨M,hM⟩:∃M,N-j=M+1:=⟨N-j-1,by omega⟩
   rw[hM,Ozj (hs j (by omega))]
   congr 1;omega
 refine⟨N-k-1,?_⟩
 rw[key k (Nat.le_refl _)]
 congr 1;omega
theorem Rz1 (st:Nat->σ){x:σ}(h0:x=st 0){y:τ}(k:Nat){N:Nat}(hk:k<N)(hs:∀i,i<k->f (st i)=some (.next (st (i+1))))(he:f (st k)=some (.out y)):iter f N x=some (.inl y):=by
 subst h0
 obtain⟨M,hM⟩:=Tzn st hk hs
 rw[hM];simp[iter,he]
end
theorem Mz4 {τ R:Type}{o:Option (τ ⊕ R)}{y:τ}{k:τ->Option R}(h:o=some (.inl y)):andK o k=k y:=by rw[h];rfl
theorem Pzz {τ R:Type}{o:Option (τ ⊕ R)}{r:R}{k:τ->Option R}(h:o=some (.inr r)):andK o k=some r:=by rw[h];rfl
theorem czp {τ R:Type}{y:τ}{k:τ->Option R}:andC (some (.out y)) k=k y:=rfl
theorem gzi:maxLen=9223372036854775807:=rfl
end Go.Abs
