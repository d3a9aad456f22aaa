/-
  Sharing slices of the call's own; composite slices.
-/
import Derived.Test.YtjbncekcklkjaaaSoundD
namespace Go.Abs

def sharedF (F : Cells) (ρ : Env) (m : Mem) (is : List Nat) : Cells := fun b o =>
  F b o ∨ ∃ i ∈ is, ∃ sz n f k e cap, m.get i = some (.vec sz n f k e) ∧ ρ.vec i = some (b, n, cap) ∧ o < n * sz

theorem shareOf_get {m : Mem} : ∀ {is : List Nat} {j : Nat} {r : Res}, (shareOf m is).get j = some r → j ∈ is ∧ ∃ sz n f k e, m.get j = some (.vec sz n f k e) ∧ r = .vec sz n f n e
  | [], j, r, h => by simp [shareOf, Mem.get] at h
  | i :: is, j, r, h => by
    simp only [shareOf] at h
    split at h
    · rename_i sz n f k e hi
      simp only [Mem.get] at h
      split at h
      · rename_i e1; subst e1; cases h; exact ⟨by simp, sz, n, f, k, e, hi, rfl⟩
      · obtain ⟨h1, h2⟩ := shareOf_get h; exact ⟨by simp [h1], h2⟩
    · obtain ⟨h1, h2⟩ := shareOf_get h; exact ⟨by simp [h1], h2⟩

theorem shareOf_mem {m : Mem} : ∀ {is : List Nat} {j sz n : Nat} {f : Nat → PVal} {k : Nat} {e : TypeId}, j ∈ is → m.get j = some (.vec sz n f k e) → (shareOf m is).get j = some (.vec sz n f n e)
  | [], j, _, _, _, _, _, h, _ => by simp at h
  | i :: is, j, sz, n, f, k, e, h, hj => by
    simp only [shareOf]
    by_cases hij : i = j
    · subst hij; rw [hj]; simp [Mem.get]
    · have hin : j ∈ is := by simpa [Ne.symm hij] using h
      split
      · simp only [Mem.get]; rw [if_neg hij]; exact shareOf_mem hin hj
      · exact shareOf_mem hin hj

variable {P : Program} {o : Oper} {env : Operand → AVal} {m : Mem} {id : Nat}
section
variable {F : Cells} {w : World} {ρ : Env} {Mine : Nat → Prop} {M : Mem}

theorem share_ok (hm : MemOk F w ρ Mine M) (g : Good F w Mine) {is : List Nat} (hrd : ∀ i ∈ is, M.get i = m.get i) :
    Step Mine F w (sharedF F ρ m is) w ∧ MemOk (sharedF F ρ m is) w ρ Mine (shareOf m is ++ M) := by
  have hblk : ∀ i ∈ is, ∀ sz n f k e b cap, m.get i = some (.vec sz n f k e) → ρ.vec i = some (b, n, cap) → M.get i = some (.vec sz n f k e) ∧ blockOf ρ i (.vec sz n f k e) = some b := by
    intro i hi sz n f k e b cap h1 h2
    exact ⟨(hrd i hi).trans h1, by simp [blockOf, h2]⟩
  have st : Step Mine F w (sharedF F ρ m is) w := by
    refine ⟨fun b o h => .inl h, fun _ _ _ => rfl, fun b o h => ?_, fun b o h => ?_, Keep.refl _ _⟩
    · rcases h with h | ⟨i, hi, sz, n, f, k, e, cap, h1, h2, _⟩
      · exact .inl h
      · obtain ⟨a1, a2⟩ := hblk i hi _ _ _ _ _ _ _ h1 h2
        exact .inr (hm.mine i _ b a1 a2).1
    · rcases h with h | ⟨i, hi, sz, n, f, k, e, cap, h1, h2, _⟩
      · exact g.lt b o h
      · obtain ⟨a1, a2⟩ := hblk i hi _ _ _ _ _ _ _ h1 h2
        exact (hm.mine i _ b a1 a2).2
  refine ⟨st, MemOk.step hm st (fun _ => True) (fun _ _ => ⟨rfl, rfl⟩) (shareOf m is) (fun j r h hn => ⟨trivial, fun i hi => absurd trivial hi, fun b hb => ⟨rfl, fun o ho => ?_⟩⟩) (fun j r h => ?_) (fun j j' r r' b h h' hb hb' => ?_)⟩
  · rcases ho with ho | ⟨i, hi, sz, n, f, k, e, cap, h1, h2, _⟩
    · exact ho
    · obtain ⟨a1, a2⟩ := hblk i hi _ _ _ _ _ _ _ h1 h2
      have : i = j := hm.disj i j _ r b a1 h a2 hb
      subst this
      rw [shareOf_mem hi h1] at hn; cases hn
  · obtain ⟨hj, sz, n, f, k, e, h1, rfl⟩ := shareOf_get h
    have hM := (hrd j hj).trans h1
    have hok := hm.ok j _ hM
    refine ⟨⟨Nat.le_refl _, ?_⟩, fun b hb => ?_⟩
    · obtain ⟨hk, hok⟩ := hok
      rcases hok with hnil | ⟨b, cap, c, q1, q2, q3, q4, q5, q6, q7, q8⟩
      · exact .inl hnil
      · refine .inr ⟨b, cap, c, q1, q2, q3, q4, q5, fun o ho => ?_, q7, fun i j' p hi hp => ?_⟩
        · rcases ho with ho | ⟨i, hi, sz', n', f', k', e', cap', h1', h2', h3'⟩
          · exact Nat.lt_of_lt_of_le (q6 o ho) (Nat.mul_le_mul_right _ hk)
          · obtain ⟨a1, a2⟩ := hblk i hi _ _ _ _ _ _ _ h1' h2'
            have : i = j := hm.disj i j _ _ b a1 hM a2 (by simp [blockOf, q1])
            subst this
            rw [h1] at h1'; cases h1'
            exact h3'
        · obtain ⟨v, v1, v2, v3⟩ := q8 i j' p hi hp
          exact ⟨v, v1, v2, v3.mono st.sub st.cell⟩
    · have hb' : blockOf ρ j (.vec sz n f k e) = some b := hb
      obtain ⟨a1, a2⟩ := hm.mine j _ b hM hb'
      refine ⟨a1, a2, fun k' r' hk' hn' hbk => ?_⟩
      have := hm.disj j k' _ r' b hM hk' hb' hbk
      subst this
      rw [h] at hn'; cases hn'
  · obtain ⟨hj, sz, n, f, k, e, h1, rfl⟩ := shareOf_get h
    obtain ⟨hj', sz', n', f', k', e', h1', rfl⟩ := shareOf_get h'
    exact hm.disj j j' _ _ b ((hrd j hj).trans h1) ((hrd j' hj').trans h1') hb hb'

theorem pure1_rel (hm : MemOk F w ρ Mine M) {a : AVal} {v : Value} {p : PVal} {is js : List Nat} (h : pure1 m a = some (p, is)) (hsub : ∀ i ∈ is, i ∈ js) (hrd : ∀ i ∈ is, M.get i = m.get i)
    (ha : ARel F w ρ a v) : PRel (sharedF F ρ m js) w p v := by
  unfold pure1 at h
  split at h
  · rename_i i
    split at h
    · rename_i sz n f k e hi
      simp at h; obtain ⟨rfl, rfl⟩ := h
      obtain ⟨hk, hok⟩ := hm.ok i _ ((hrd i (by simp)).trans hi)
      rcases hok with ⟨h1, h2⟩ | ⟨b, cap, c, q1, q2, q3, q4, q5, q6, q7, q8⟩
      · cases ha with
        | vnil hh => subst h2; exact .nil
        | vec hh => rw [hh] at h1; cases h1
      · cases ha with
        | vnil hh => rw [hh] at q1; cases q1
        | vec hh =>
          rw [hh] at q1; cases q1
          refine .sl (fun x => (c[x]?).getD undef) q3 q4 q7 (fun i' j p hi' hp => ?_) (fun i' j p hi' hp => ?_)
          · obtain ⟨u, u1, u2, u3⟩ := q8 i' j p hi' hp
            simp only [Nat.zero_add, u1, Option.getD_some]
            refine ⟨.inr ⟨i, hsub i (by simp), sz, n, f, k, e, cap, hi, hh, ?_⟩, by rw [cell_of_row w b _ c e _ q2]; exact u1, u2⟩
            have hj : j < sz := by have := (List.getElem?_eq_some_iff.1 hp).1; rw [q7 i' hi'] at this; exact this
            calc i' * sz + j < i' * sz + sz := by omega
              _ = (i' + 1) * sz := by rw [Nat.succ_mul]
              _ ≤ n * sz := Nat.mul_le_mul_right _ hi'
          · obtain ⟨u, u1, u2, u3⟩ := q8 i' j p hi' hp
            simp only [u1, Option.getD_some]
            exact u3.mono (fun b o h => .inl h) (fun _ _ _ => rfl)
    · rename_i hi
      simp at h; obtain ⟨rfl, rfl⟩ := h
      have hnone : ρ.vec i = none := hm.ok i _ ((hrd i (by simp)).trans hi)
      cases ha with
      | vnil hh => exact .nil
      | vec hh => rw [hh] at hnone; cases hnone
    · cases h
  · split at h
    · rename_i q hq
      simp at h; obtain ⟨rfl, rfl⟩ := h
      exact (ha.toP hq).mono (fun b o h => .inl h) (fun _ _ _ => rfl)
    · cases h

theorem pureL_rel (hm : MemOk F w ρ Mine M) {js : List Nat} : ∀ {l : List AVal} {ps : List PVal} {is : List Nat}, pureL m l = some (ps, is) → (∀ i ∈ is, i ∈ js) → (∀ i ∈ is, M.get i = m.get i) →
    l.length = ps.length ∧ ∀ (j : Nat) (p : PVal), ps[j]? = some p → ∃ a, l[j]? = some a ∧ ∀ v, ARel F w ρ a v → PRel (sharedF F ρ m js) w p v
  | [], ps, is, h, _, _ => by simp [pureL] at h; obtain ⟨rfl, rfl⟩ := h; simp
  | a :: l, ps, is, h, hsub, hrd => by
    simp only [pureL] at h
    split at h
    · rename_i p is1 h1
      split at h
      · rename_i ps2 is2 h2
        simp at h; obtain ⟨rfl, rfl⟩ := h
        obtain ⟨h3, h4⟩ := pureL_rel hm h2 (fun i hi => hsub i (by simp [hi])) (fun i hi => hrd i (by simp [hi]))
        refine ⟨by simp [h3], fun j q hq => ?_⟩
        cases j with
        | zero => simp at hq; subst hq; exact ⟨a, by simp, fun v hv => pure1_rel hm h1 (fun i hi => hsub i (by simp [hi])) (fun i hi => hrd i (by simp [hi])) hv⟩
        | succ j => simpa using h4 j q (by simpa using hq)
      · cases h
    · cases h

theorem purify_rel (hm : MemOk F w ρ Mine M) {a : AVal} {v : Value} {p : PVal} {is js : List Nat} (h : purify m a = some (p, is)) (hsub : ∀ i ∈ is, i ∈ js) (hrd : ∀ i ∈ is, M.get i = m.get i)
    (ha : ARel F w ρ a v) : PRel (sharedF F ρ m js) w p v := by
  unfold purify at h
  split at h
  · rename_i cs
    split at h
    · rename_i ps is1 h1
      split at h
      · rename_i hsc
        simp at h; obtain ⟨rfl, rfl⟩ := h
        obtain ⟨h2, h3⟩ := pureL_rel hm h1 hsub hrd
        cases ha with
        | agg hl hr =>
          refine .agg (h2 ▸ hl) fun j p u hp hu => ?_
          obtain ⟨b, hb, hrel⟩ := h3 j p hp
          exact hrel u (hr j b u hb hu)
      · cases h
    · cases h
  · exact pure1_rel hm h hsub hrd ha

theorem purifyAll_rel (hm : MemOk F w ρ Mine M) {js : List Nat} : ∀ {l : List AVal} {ps : List PVal} {is : List Nat}, purifyAll m l = some (ps, is) → (∀ i ∈ is, i ∈ js) → (∀ i ∈ is, M.get i = m.get i) →
    l.length = ps.length ∧ ∀ (j : Nat) (p : PVal), ps[j]? = some p → ∃ a, l[j]? = some a ∧ ∀ v, ARel F w ρ a v → PRel (sharedF F ρ m js) w p v
  | [], ps, is, h, _, _ => by simp [purifyAll] at h; obtain ⟨rfl, rfl⟩ := h; simp
  | a :: l, ps, is, h, hsub, hrd => by
    simp only [purifyAll] at h
    split at h
    · rename_i p is1 h1
      split at h
      · rename_i ps2 is2 h2
        simp at h; obtain ⟨rfl, rfl⟩ := h
        obtain ⟨h3, h4⟩ := purifyAll_rel hm h2 (fun i hi => hsub i (by simp [hi])) (fun i hi => hrd i (by simp [hi]))
        refine ⟨by simp [h3], fun j q hq => ?_⟩
        cases j with
        | zero => simp at hq; subst hq; exact ⟨a, by simp, fun v hv => purify_rel hm h1 (fun i hi => hsub i (by simp [hi])) (fun i hi => hrd i (by simp [hi])) hv⟩
        | succ j => simpa using h4 j q (by simpa using hq)
      · cases h
    · cases h
end
end Go.Abs
