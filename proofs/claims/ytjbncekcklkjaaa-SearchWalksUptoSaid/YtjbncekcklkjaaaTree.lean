/-
  Trees: what a piece of code computes, as plain data; conditions that code follows its tree, and that they are enough.
-/
import Derived.Test.YtjbncekcklkjaaaFunc
namespace Go.Abs

/-- How a round of a loop ends: another round, out of the loop, or with the whole result. -/
inductive Step3 (σ τ R : Type) where
  | next (x : σ)
  | out (y : τ)
  | fin (r : R)

inductive T : Type → Type 1 where
  | ret {R : Type} (r : R) : T R
  | grd {R : Type} (p : Prop) [d : Decidable p] (k : T R) : T R
  | br {R : Type} (b : Bool) (t f : T R) : T R
  | call {R α : Type} (o : Option α) (h : α → Hint) (k : α → T R) : T R
  | name {R : Type} (i : Nat) (e : Int) (k : Int → T R) : T R
  | loop {R σ τ : Type} (I : σ → St) (e : Ex) (J : τ → St) (body : σ → T (Step3 σ τ R)) (x0 : σ) (k : τ → T R) : T R
  | cut {R τ : Type} (d : Nat) (J : τ → St) (body : T (Step3 Unit τ R)) (k : τ → T R) : T R
  | unroll {R : Type} (n : Nat) (k : T R) : T R
  | split {R : Type} (b : Bool) (t f : T R) : T R
  | known {R : Type} (b : Bool) (t : T R) : T R
  | lit {R : Type} (i : Nat) (n : Int) (k : T R) : T R
  | stop {R : Type} : T R

/-- Rounds of a loop. -/
def iter {σ τ R : Type} (f : σ → Option (Step3 σ τ R)) : Nat → σ → Option (τ ⊕ R)
  | 0, _ => none
  | n + 1, x => match f x with
    | some (.next x') => iter f n x'
    | some (.out y) => some (.inl y)
    | some (.fin r) => some (.inr r)
    | none => none

/-- Goes on behind a loop. -/
def andK {τ R : Type} (o : Option (τ ⊕ R)) (k : τ → Option R) : Option R :=
  match o with
  | some (.inl y) => k y
  | some (.inr r) => some r
  | none => none

/-- Goes on behind a part. -/
def andC {τ R : Type} (o : Option (Step3 Unit τ R)) (k : τ → Option R) : Option R :=
  match o with
  | some (.out y) => k y
  | some (.fin r) => some r
  | _ => none

def grd {R : Type} (p : Prop) [Decidable p] (k : Option R) : Option R := if p then k else none

def T.run (N : Nat) : {R : Type} → T R → Option R
  | _, .ret r => some r
  | _, @T.grd _ p d k => @Go.Abs.grd _ p d (k.run N)
  | _, .br b t f => bif b then t.run N else f.run N
  | _, .call o _ k => o.bind fun y => (k y).run N
  | _, .name _ e k => (k e).run N
  | _, .loop _ _ _ body x0 k => andK (iter (fun x => (body x).run N) N x0) fun y => (k y).run N
  | _, .cut _ _ body k => andC (body.run N) fun y => (k y).run N
  | _, .unroll _ k => k.run N
  | _, .split b t f => bif b then t.run N else f.run N
  | _, .known _ t => t.run N
  | _, .lit _ _ k => k.run N
  | _, .stop => none

theorem grd_some {R : Type} {p : Prop} [Decidable p] {k : Option R} {r : R} : grd p k = some r ↔ p ∧ k = some r := by
  unfold grd; split <;> simp_all
theorem grd_pos {R : Type} {p : Prop} [Decidable p] {k : Option R} (h : p) : grd p k = k := by unfold grd; simp [h]

def exEq : Ex → Ex → Bool
  | .normal, .normal => true
  | .ret, .ret => true
  | .exit a, .exit b => decide (a = b)
  | _, _ => false
theorem exEq_eq {a b : Ex} (h : exEq a b = true) : a = b := by
  cases a <;> cases b <;> simp_all [exEq]

def isNorm : Ex → Bool
  | .normal => true
  | _ => false

/-- Cases that the tree makes by itself. -/
def splitT {R : Type} (t : T R) (K : T R → Prop) : Prop :=
  match t with
  | .split b t f => (b = true → splitT t K) ∧ (b = false → splitT f K)
  | .stop => True
  | t => K t

theorem splitT_run {R : Type} {N : Nat} {r : R} {K : T R → Prop} : ∀ (t : T R), splitT t K → t.run N = some r → ∃ t', K t' ∧ t'.run N = some r := by
  intro t
  induction t with
  | split b t f iht ihf =>
    intro h hr
    simp only [splitT] at h
    simp only [T.run] at hr
    cases b with
    | true => exact iht (h.1 rfl) hr
    | false => exact ihf (h.2 rfl) hr
  | stop => intro _ hr; simp [T.run] at hr
  | _ => intro h hr; exact ⟨_, h, hr⟩

def isCall (o : Oper) : Bool :=
  match o.op with
  | .call c => match c.callee with
    | .value _ => true
    | _ => false
  | _ => false

def isNext (o : Oper) : Bool :=
  match o.op with
  | .next _ true => true
  | _ => false
def nextH (k : Nat) : Hint := ⟨[], k, [], [], .any, []⟩
def isMake (o : Oper) : Bool :=
  match o.op with
  | .makeSlice _ _ _ => true
  | _ => false
/-- The mark of a slice of slices that the call owns. -/
def unT {R : Type} (o : Oper) (t : T R) : Option Hint × T R :=
  if isMake o then (match t with
    | .unroll _ t' => (some (nextH 1), t')
    | t => (none, t)) else (none, t)
theorem unT_run {R : Type} {N : Nat} (o : Oper) (t : T R) : (unT o t).2.run N = t.run N := by
  unfold unT
  split
  · split <;> simp [T.run]
  · rfl

section
variable (P : Program) (nt : Nat) (rid : Nat) (ops : List Oper)

def vcOpsT {R : Type} : (i : Nat) → List Oper → (id : Nat) → St → List Eff → T R → (St → List Eff → T R → Prop) → Prop
  | _, [], _, s, tr, t, K => K s tr t
  | i, o :: rest, id, s, tr, t, K =>
    let next : St → Out → T R → Prop := fun s out t =>
      if dstOk nt o.dst && outOk id out then vcOpsT (i + 1) rest (id + 64) (addOut s o out) (tr ++ [effOf ops o id out]) t K else False
    let nextN : St → Out → T R → Prop := fun s out t => match t with
      | .name j e k => if j = rid * 1000 + i then (match out.val with
        | .pure (.int kk e') => (e' = e) ∧ ∀ z, next s { out with val := .pure (.int kk z) } (k z)
        | _ => False) else next s out t
      | .lit j e k => if j = rid * 1000 + i then (match out.val with
        | .pure (.int kk e') => (e' = e) ∧ next s { out with val := .pure (.int kk e) } k
        | _ => False) else next s out t
      | t => next s out t
    let run : St → T R → Prop := fun s t => if isCall o then (match t with
        | .call oo h k => ∀ y, oo = some y → (match stepOf P (fun _ => some (h y)) i o id s with
          | some (out, _) => andO out.obl (next s out (k y))
          | none => False)
        | _ => False) else if isNext o then (match t with
        | .br b t1 t2 => (b = true → (match stepOf P (fun _ => some (nextH 1)) i o id s with
            | some (out, _) => andO out.obl (next s out t1)
            | none => False)) ∧ (b = false → (match stepOf P (fun _ => some (nextH 0)) i o id s with
            | some (out, _) => andO out.obl (next s out t2)
            | none => False))
        | _ => False) else (match stepOf P (fun _ => (unT o t).1) i o id s with
        | some (out, _) => match out.obl with
          | none => nextN s out (unT o t).2
          | some q => match (unT o t).2 with
            | @T.grd _ p _ k => p → q ∧ nextN s out k
            | _ => False
        | none => False)
    let skip : St → T R → Prop := fun s t => if dstOk nt o.dst then vcOpsT (i + 1) rest (id + 64) (s.putD o.dst (.tup [])) (tr ++ [⟨o.dst, usesOf ops o, id, .tup [], [], []⟩]) t K else False
    splitT t fun t => match guardOf ops s o with
    | .run => run s t
    | .skip => skip s t
    | .bad => False
    | .ask q b want => match t with
      | .br b' t1 t2 => (b = b') ∧ (b' = true → if want then run (s.put q .tt) t1 else skip (s.put q .tt) t1) ∧ (b' = false → if want then skip (s.put q .ff) t2 else run (s.put q .ff) t2)
      | .known true t1 => (b = true) ∧ (if want then run (s.put q .tt) t1 else skip (s.put q .tt) t1)
      | .known false t1 => (b = false) ∧ (if want then skip (s.put q .ff) t1 else run (s.put q .ff) t1)
      | _ => False
end

def unrolledT {R : Type} (step : T R → St → (Ex → T R → St → Prop) → Prop) : Nat → T R → St → (Ex → T R → St → Prop) → Prop
  | 0, _, _, _ => False
  | k + 1, t, s, K => step t s fun e t s => match e with
    | .normal => unrolledT step k t s K
    | e => K e t s

section
variable (P : Program) (nt n0 : Nat) (drawOk : List Oper → List Eff → Bool)

def vcT : Code → {R : Type} → T R → St → (Ex → T R → St → Prop) → Prop
  | .skip, _, t, s, K => K .normal t s
  | .label _, _, t, s, K => K .normal t s
  | .region rid ops draw, _, t, s, K => match (if draw then none else splitDefer ops.toList) with
    | some (l, x) => vcOpsT P nt rid ops.toList 0 l s.nx s [] t fun s' _ t' => match envOf s' x with
      | .func f a b => K .normal t' { s' with df := .func f a b :: s'.df, nx := s.nx + 64 * ops.toList.length }
      | _ => False
    | none => vcOpsT P nt rid ops.toList 0 ops.toList s.nx s [] t fun s' tr t' =>
      if !draw || drawOk ops.toList tr then K .normal t' { s' with nx := s.nx + 64 * ops.toList.length } else False
  | .seq a b, _, t, s, K => match t with
    | .cut 0 J body k => (∀ y, (J y).ok = true ∧ n0 ≤ (J y).nx) ∧ vcT a body s (fun e t' s' => match t' with
        | .ret (.out y) => if isNorm e then Ent n0 s' (J y) else False
        | .ret (.fin r) => if isNorm e then False else K e (.ret r) s'
        | _ => False) ∧ ∀ y, vcT b (k y) (J y) K
    | .cut (d + 1) J body k => vcT a (.cut d J body k) s fun e t s => match e with
      | .normal => vcT b t s K
      | e => K e t s
    | t => vcT a t s fun e t s => match e with
      | .normal => vcT b t s K
      | e => K e t s
  | .cond c a b, _, t, s, K => match envOf s c with
    | .tt => vcT a t s K
    | .ff => vcT b t s K
    | .pure (.bool x) => match t with
      | .br x' t1 t2 => (x = x') ∧ (x' = true → vcT a t1 s K) ∧ (x' = false → vcT b t2 s K)
      | .known true t1 => (x = true) ∧ vcT a t1 s K
      | .known false t1 => (x = false) ∧ vcT b t1 s K
      | _ => False
    | _ => False
  | .block id body, _, t, s, K => vcT body t s fun e t s => match e with
    | .exit j => if j = id then K .normal t s else K (.exit j) t s
    | e => K e t s
  | .loop body, _, t, s, K => match t with
    | .unroll n t => unrolledT (vcT body) n t s K
    | .loop I e J bodyT x0 k => (∀ x, (I x).ok = true ∧ n0 ≤ (I x).nx) ∧ (∀ y, (J y).ok = true ∧ n0 ≤ (J y).nx) ∧ Ent n0 s (I x0) ∧
        (∀ x, vcT body (bodyT x) (I x) fun e' t' s' => match t' with
          | .ret (.next x') => if isNorm e' then Ent n0 s' (I x') else False
          | .ret (.out y) => if exEq e' e && !isNorm e' then Ent n0 s' (J y) else False
          | .ret (.fin r) => if isNorm e' then False else K e' (.ret r) s'
          | _ => False) ∧ ∀ y, K e (k y) (J y)
    | _ => False
  | .scope body, _, t, s, K => vcT body t s K
  | .exit id, _, t, s, K => K (.exit id) t s
  | .ret, _, t, s, K => K .ret t s
  | _, _, _, _, _ => False
end

/-! ### Soundness -/
theorem vcOps_congr {P : Program} {nt : Nat} {ops : List Oper} {hint hint' : Nat → Option Hint} {K : St → List Eff → Prop} :
    ∀ (rest : List Oper) (i id : Nat) (s : St) (tr : List Eff), (∀ j, i ≤ j → hint j = hint' j) → vcOps P nt ops hint i rest id s tr K → vcOps P nt ops hint' i rest id s tr K
  | [], i, id, s, tr, _, h => h
  | o :: rest, i, id, s, tr, he, h => by
    have hstep : ∀ s, stepOf P hint' i o id s = stepOf P hint i o id s := fun s => by
      unfold stepOf; rw [he i (Nat.le_refl i)]
    have ih := fun s tr => vcOps_congr (P := P) (nt := nt) (ops := ops) (K := K) rest (i + 1) (id + 64) s tr (fun j hj => he j (by omega))
    have run : ∀ (s : St), (match stepOf P hint i o id s with
        | some (out, _) => if dstOk nt o.dst && outOk id out then andO out.obl (vcOps P nt ops hint (i + 1) rest (id + 64) (addOut s o out) (tr ++ [effOf ops o id out]) K) else False
        | none => False) → (match stepOf P hint' i o id s with
        | some (out, _) => if dstOk nt o.dst && outOk id out then andO out.obl (vcOps P nt ops hint' (i + 1) rest (id + 64) (addOut s o out) (tr ++ [effOf ops o id out]) K) else False
        | none => False) := by
      intro s h
      rw [hstep]
      split at h
      · split at h
        · rename_i hc; simp only [hc, if_true]; rw [andO_iff] at h ⊢; exact ⟨h.1, ih _ _ h.2⟩
        · exact h.elim
      · exact h.elim
    have skip : ∀ (s : St), (if dstOk nt o.dst then vcOps P nt ops hint (i + 1) rest (id + 64) (s.putD o.dst (.tup [])) (tr ++ [⟨o.dst, usesOf ops o, id, .tup [], [], []⟩]) K else False) →
        (if dstOk nt o.dst then vcOps P nt ops hint' (i + 1) rest (id + 64) (s.putD o.dst (.tup [])) (tr ++ [⟨o.dst, usesOf ops o, id, .tup [], [], []⟩]) K else False) := by
      intro s h
      split at h
      · rename_i hc; simp only [hc, if_true]; exact ih _ _ h
      · exact h.elim
    simp only [vcOps] at h ⊢
    split at h
    · exact run s h
    · exact skip s h
    · exact h.elim
    · rename_i t b want _
      refine ⟨fun hb => ?_, fun hb => ?_⟩
      · have := h.1 hb
        cases want
        · exact skip _ this
        · exact run _ this
      · have := h.2 hb
        cases want
        · exact run _ this
        · exact skip _ this

/-- What follows an operation, as data. -/
def Good1 (P : Program) (nt : Nat) (ops : List Oper) {R : Type} (N : Nat) (r : R) (i : Nat) (rest : List Oper) (id : Nat) (s : St) (tr : List Eff) (K : St → List Eff → T R → Prop) : Prop :=
  ∃ hint t', T.run N t' = some r ∧ vcOps P nt ops hint i rest id s tr (fun s tr => K s tr t')

theorem vcOpsT_to {P : Program} {nt rid : Nat} {ops : List Oper} {R : Type} {N : Nat} {r : R} {K : St → List Eff → T R → Prop} :
    ∀ (rest : List Oper) (i id : Nat) (s : St) (tr : List Eff) (t : T R), vcOpsT P nt rid ops i rest id s tr t K → t.run N = some r → Good1 P nt ops N r i rest id s tr K
  | [], i, id, s, tr, t, h, hr => ⟨fun _ => none, t, hr, h⟩
  | o :: rest, i, id, s, tr, t, h, hr => by
    have ih := fun s tr t => vcOpsT_to (P := P) (nt := nt) (rid := rid) (ops := ops) (N := N) (r := r) (K := K) rest (i + 1) (id + 64) s tr t
    -- one operation with its hint
    have one : ∀ (s : St) (h? : Option Hint) (out : Out) (b : Bool), stepOf P (fun _ => h?) i o id s = some (out, b) → holds out.obl → (dstOk nt o.dst && outOk id out) = true →
        Good1 P nt ops N r (i + 1) rest (id + 64) (addOut s o out) (tr ++ [effOf ops o id out]) K →
        ∃ hint t', T.run N t' = some r ∧ (match stepOf P hint i o id s with
          | some (out, _) => if dstOk nt o.dst && outOk id out then andO out.obl (vcOps P nt ops hint (i + 1) rest (id + 64) (addOut s o out) (tr ++ [effOf ops o id out]) (fun s tr => K s tr t')) else False
          | none => False) := by
      intro s h? out b hs ho hc hg
      obtain ⟨hint, t', hr', hv⟩ := hg
      refine ⟨fun j => if j = i then h? else hint j, t', hr', ?_⟩
      have he : stepOf P (fun j => if j = i then h? else hint j) i o id s = stepOf P (fun _ => h?) i o id s := by
        unfold stepOf; simp only [if_true]
      rw [he, hs]
      simp only [hc, if_true]
      rw [andO_iff]
      exact ⟨ho, vcOps_congr _ _ _ _ _ (fun j hj => by rw [if_neg (by omega)]) hv⟩
    have next : ∀ (s : St) (out : Out) (t : T R), (if dstOk nt o.dst && outOk id out then vcOpsT P nt rid ops (i + 1) rest (id + 64) (addOut s o out) (tr ++ [effOf ops o id out]) t K else False) →
        t.run N = some r → (dstOk nt o.dst && outOk id out) = true ∧ Good1 P nt ops N r (i + 1) rest (id + 64) (addOut s o out) (tr ++ [effOf ops o id out]) K := by
      intro s out t h hr
      split at h
      · rename_i hc; exact ⟨hc, ih _ _ t h hr⟩
      · exact h.elim
    have nextN : ∀ (s : St) (out : Out) (t : T R), (match t with
      | .name j e k => if j = rid * 1000 + i then (match out.val with
        | .pure (.int kk e') => (e' = e) ∧ ∀ z, (if dstOk nt o.dst && outOk id { out with val := .pure (.int kk z) } then vcOpsT P nt rid ops (i + 1) rest (id + 64) (addOut s o { out with val := .pure (.int kk z) }) (tr ++ [effOf ops o id { out with val := .pure (.int kk z) }]) (k z) K else False)
        | _ => False) else (if dstOk nt o.dst && outOk id out then vcOpsT P nt rid ops (i + 1) rest (id + 64) (addOut s o out) (tr ++ [effOf ops o id out]) t K else False)
      | .lit j e k => if j = rid * 1000 + i then (match out.val with
        | .pure (.int kk e') => (e' = e) ∧ (if dstOk nt o.dst && outOk id { out with val := .pure (.int kk e) } then vcOpsT P nt rid ops (i + 1) rest (id + 64) (addOut s o { out with val := .pure (.int kk e) }) (tr ++ [effOf ops o id { out with val := .pure (.int kk e) }]) k K else False)
        | _ => False) else (if dstOk nt o.dst && outOk id out then vcOpsT P nt rid ops (i + 1) rest (id + 64) (addOut s o out) (tr ++ [effOf ops o id out]) t K else False)
      | t => (if dstOk nt o.dst && outOk id out then vcOpsT P nt rid ops (i + 1) rest (id + 64) (addOut s o out) (tr ++ [effOf ops o id out]) t K else False)) →
        t.run N = some r → (dstOk nt o.dst && outOk id out) = true ∧ Good1 P nt ops N r (i + 1) rest (id + 64) (addOut s o out) (tr ++ [effOf ops o id out]) K := by
      intro s out t h hr
      split at h
      · rename_i j e k
        split at h
        · split at h
          · rename_i kk e' hv
            obtain ⟨he, hz⟩ := h
            have := next s { out with val := .pure (.int kk e) } (k e) (hz e) (by simpa [T.run] using hr)
            have ho : ({ out with val := .pure (.int kk e) } : Out) = out := by rw [← he, ← hv]
            rw [ho] at this
            exact this
          · exact h.elim
        · exact next s out _ h hr
      · rename_i j e k
        split at h
        · split at h
          · rename_i kk e' hv
            obtain ⟨he, hz⟩ := h
            have := next s { out with val := .pure (.int kk e) } k hz (by simpa [T.run] using hr)
            have ho : ({ out with val := .pure (.int kk e) } : Out) = out := by rw [← he, ← hv]
            rw [ho] at this
            exact this
          · exact h.elim
        · exact next s out _ h hr
      · exact next s out _ h hr
    have run : ∀ (s : St) (t : T R), (if isCall o then (match t with
        | .call oo h k => ∀ y, oo = some y → (match stepOf P (fun _ => some (h y)) i o id s with
          | some (out, _) => andO out.obl (if dstOk nt o.dst && outOk id out then vcOpsT P nt rid ops (i + 1) rest (id + 64) (addOut s o out) (tr ++ [effOf ops o id out]) (k y) K else False)
          | none => False)
        | _ => False) else if isNext o then (match t with
        | .br b t1 t2 => (b = true → (match stepOf P (fun _ => some (nextH 1)) i o id s with
            | some (out, _) => andO out.obl (if dstOk nt o.dst && outOk id out then vcOpsT P nt rid ops (i + 1) rest (id + 64) (addOut s o out) (tr ++ [effOf ops o id out]) t1 K else False)
            | none => False)) ∧ (b = false → (match stepOf P (fun _ => some (nextH 0)) i o id s with
            | some (out, _) => andO out.obl (if dstOk nt o.dst && outOk id out then vcOpsT P nt rid ops (i + 1) rest (id + 64) (addOut s o out) (tr ++ [effOf ops o id out]) t2 K else False)
            | none => False))
        | _ => False) else (match stepOf P (fun _ => (unT o t).1) i o id s with
        | some (out, _) => match out.obl with
          | none => (match (unT o t).2 with
      | .name j e k => if j = rid * 1000 + i then (match out.val with
        | .pure (.int kk e') => (e' = e) ∧ ∀ z, (if dstOk nt o.dst && outOk id { out with val := .pure (.int kk z) } then vcOpsT P nt rid ops (i + 1) rest (id + 64) (addOut s o { out with val := .pure (.int kk z) }) (tr ++ [effOf ops o id { out with val := .pure (.int kk z) }]) (k z) K else False)
        | _ => False) else (if dstOk nt o.dst && outOk id out then vcOpsT P nt rid ops (i + 1) rest (id + 64) (addOut s o out) (tr ++ [effOf ops o id out]) (unT o t).2 K else False)
      | .lit j e k => if j = rid * 1000 + i then (match out.val with
        | .pure (.int kk e') => (e' = e) ∧ (if dstOk nt o.dst && outOk id { out with val := .pure (.int kk e) } then vcOpsT P nt rid ops (i + 1) rest (id + 64) (addOut s o { out with val := .pure (.int kk e) }) (tr ++ [effOf ops o id { out with val := .pure (.int kk e) }]) k K else False)
        | _ => False) else (if dstOk nt o.dst && outOk id out then vcOpsT P nt rid ops (i + 1) rest (id + 64) (addOut s o out) (tr ++ [effOf ops o id out]) (unT o t).2 K else False)
      | t => (if dstOk nt o.dst && outOk id out then vcOpsT P nt rid ops (i + 1) rest (id + 64) (addOut s o out) (tr ++ [effOf ops o id out]) t K else False))
          | some q => match (unT o t).2 with
            | @T.grd _ p _ k => p → q ∧ (match k with
      | .name j e k' => if j = rid * 1000 + i then (match out.val with
        | .pure (.int kk e') => (e' = e) ∧ ∀ z, (if dstOk nt o.dst && outOk id { out with val := .pure (.int kk z) } then vcOpsT P nt rid ops (i + 1) rest (id + 64) (addOut s o { out with val := .pure (.int kk z) }) (tr ++ [effOf ops o id { out with val := .pure (.int kk z) }]) (k' z) K else False)
        | _ => False) else (if dstOk nt o.dst && outOk id out then vcOpsT P nt rid ops (i + 1) rest (id + 64) (addOut s o out) (tr ++ [effOf ops o id out]) k K else False)
      | .lit j e k' => if j = rid * 1000 + i then (match out.val with
        | .pure (.int kk e') => (e' = e) ∧ (if dstOk nt o.dst && outOk id { out with val := .pure (.int kk e) } then vcOpsT P nt rid ops (i + 1) rest (id + 64) (addOut s o { out with val := .pure (.int kk e) }) (tr ++ [effOf ops o id { out with val := .pure (.int kk e) }]) k' K else False)
        | _ => False) else (if dstOk nt o.dst && outOk id out then vcOpsT P nt rid ops (i + 1) rest (id + 64) (addOut s o out) (tr ++ [effOf ops o id out]) k K else False)
      | t => (if dstOk nt o.dst && outOk id out then vcOpsT P nt rid ops (i + 1) rest (id + 64) (addOut s o out) (tr ++ [effOf ops o id out]) t K else False))
            | _ => False
        | none => False)) → t.run N = some r → ∃ hint t', T.run N t' = some r ∧ (match stepOf P hint i o id s with
          | some (out, _) => if dstOk nt o.dst && outOk id out then andO out.obl (vcOps P nt ops hint (i + 1) rest (id + 64) (addOut s o out) (tr ++ [effOf ops o id out]) (fun s tr => K s tr t')) else False
          | none => False) := by
      intro s t h hr
      split at h
      · split at h
        · rename_i oo hh k
          simp only [T.run] at hr
          obtain ⟨y, hy, hr⟩ := Option.bind_eq_some_iff.1 hr
          have h := h y hy
          split at h
          · rename_i out b hs
            rw [andO_iff] at h
            obtain ⟨hc, hg⟩ := next s out (k y) h.2 hr
            exact one s _ out b hs h.1 hc hg
          · exact h.elim
        · exact h.elim
      · split at h
        · split at h
          · rename_i b t1 t2
            simp only [T.run] at hr
            cases b with
            | true =>
              have h := h.1 rfl
              split at h
              · rename_i out b hs
                rw [andO_iff] at h
                obtain ⟨hc, hg⟩ := next s out t1 h.2 hr
                exact one s _ out b hs h.1 hc hg
              · exact h.elim
            | false =>
              have h := h.2 rfl
              split at h
              · rename_i out b hs
                rw [andO_iff] at h
                obtain ⟨hc, hg⟩ := next s out t2 h.2 hr
                exact one s _ out b hs h.1 hc hg
              · exact h.elim
          · exact h.elim
        rw [← unT_run o t] at hr
        generalize unT o t = ut at h hr
        obtain ⟨uh, ut⟩ := ut
        simp only at h hr
        split at h
        · rename_i out b hs
          split at h
          · rename_i ho
            obtain ⟨hc, hg⟩ := nextN s out ut h hr
            exact one s _ out b hs (by rw [ho]; trivial) hc hg
          · rename_i q ho
            split at h
            · rename_i p k
              simp only [T.run] at hr
              obtain ⟨hp, hr⟩ := grd_some.1 hr
              have h := h hp
              obtain ⟨hc, hg⟩ := nextN s out k h.2 hr
              exact one s _ out b hs (by rw [ho]; exact h.1) hc hg
            · exact h.elim
        · exact h.elim
    have skip : ∀ (s : St) (t : T R), (if dstOk nt o.dst then vcOpsT P nt rid ops (i + 1) rest (id + 64) (s.putD o.dst (.tup [])) (tr ++ [⟨o.dst, usesOf ops o, id, .tup [], [], []⟩]) t K else False) → t.run N = some r →
        ∃ hint t', T.run N t' = some r ∧ (if dstOk nt o.dst then vcOps P nt ops hint (i + 1) rest (id + 64) (s.putD o.dst (.tup [])) (tr ++ [⟨o.dst, usesOf ops o, id, .tup [], [], []⟩]) (fun s tr => K s tr t') else False) := by
      intro s t h hr
      split at h
      · rename_i hc
        obtain ⟨hint, t', hr', hv⟩ := ih _ _ t h hr
        exact ⟨hint, t', hr', by simp only [hc, if_true]; exact hv⟩
      · exact h.elim
    simp only [vcOpsT] at h
    obtain ⟨t, h, hr⟩ := splitT_run t h hr
    unfold Good1
    simp only [vcOps]
    generalize guardOf ops s o = g at h ⊢
    cases g with
    | run => exact run s t h hr
    | skip => exact skip s t h hr
    | bad => exact h.elim
    | ask q b want =>
      simp only at h ⊢
      split at h
      · rename_i b' t1 t2
        obtain ⟨rfl, h1, h2⟩ := h
        simp only [T.run] at hr
        cases b with
        | true =>
          cases want with
          | true =>
            obtain ⟨hint, t', hr', hv⟩ := run (s.put q .tt) t1 (h1 rfl) hr
            exact ⟨hint, t', hr', fun _ => hv, fun h => Bool.noConfusion h⟩
          | false =>
            obtain ⟨hint, t', hr', hv⟩ := skip (s.put q .tt) t1 (h1 rfl) hr
            exact ⟨hint, t', hr', fun _ => hv, fun h => Bool.noConfusion h⟩
        | false =>
          cases want with
          | true =>
            obtain ⟨hint, t', hr', hv⟩ := skip (s.put q .ff) t2 (h2 rfl) hr
            exact ⟨hint, t', hr', fun h => Bool.noConfusion h, fun _ => hv⟩
          | false =>
            obtain ⟨hint, t', hr', hv⟩ := run (s.put q .ff) t2 (h2 rfl) hr
            exact ⟨hint, t', hr', fun h => Bool.noConfusion h, fun _ => hv⟩
      · rename_i t1
        obtain ⟨rfl, h1⟩ := h
        simp only [T.run] at hr
        cases want with
        | true =>
          obtain ⟨hint, t', hr', hv⟩ := run (s.put q .tt) t1 h1 hr
          exact ⟨hint, t', hr', fun _ => hv, fun h => Bool.noConfusion h⟩
        | false =>
          obtain ⟨hint, t', hr', hv⟩ := skip (s.put q .tt) t1 h1 hr
          exact ⟨hint, t', hr', fun _ => hv, fun h => Bool.noConfusion h⟩
      · rename_i t1
        obtain ⟨rfl, h1⟩ := h
        simp only [T.run] at hr
        cases want with
        | true =>
          obtain ⟨hint, t', hr', hv⟩ := skip (s.put q .ff) t1 h1 hr
          exact ⟨hint, t', hr', fun h => Bool.noConfusion h, fun _ => hv⟩
        | false =>
          obtain ⟨hint, t', hr', hv⟩ := run (s.put q .ff) t1 h1 hr
          exact ⟨hint, t', hr', fun h => Bool.noConfusion h, fun _ => hv⟩
      · exact h.elim
end Go.Abs
