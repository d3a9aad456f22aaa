/-
  Soundness of composite slices and of stores.
-/
import Derived.Test.YtjbncekcklkjaaaSoundE
namespace Go.Abs
variable {P : Program} {o : Oper} {env : Operand → AVal} {m : Mem} {id : Nat}

theorem PRel.cells {F : Cells} {w : World} {p : PVal} {v : Value} (h : PRel F w p v) (hs : p.cells.all (·.scalar) = true) :
    p.cells.length = v.cells.size ∧ ∀ (j : Nat) (q : PVal) (u : Value), p.cells[j]? = some q → v.cells[j]? = some u → PRel F w q u ∧ u.oneCell' = true := by
  cases p with
  | agg cs =>
    obtain ⟨vs, rfl, hl, hr⟩ := h.agg_inv
    exact ⟨hl, fun j q u hq hu => ⟨hr j q u hq hu, (hr j q u hq hu).one (List.all_eq_true.1 hs q (List.mem_of_getElem? hq))⟩⟩
  | _ =>
    have hone := h.one rfl
    have hc : v.cells = #[v] := by cases v <;> simp_all [Value.cells, Value.oneCell']
    rw [hc]
    refine ⟨rfl, fun j q u hq hu => ?_⟩
    cases j with
    | zero => simp [PVal.cells] at hq hu; subst hq; subst hu; exact ⟨h, hone⟩
    | succ j => simp [PVal.cells] at hq

theorem fill_order (s : Nat) : ∀ (vals : List Value) (k : Nat) (cs : Array Value), (∀ v ∈ vals, v.cells.size = s) → (k + vals.length) * s ≤ cs.size →
    ∃ A : Array Value, Instr.fill (fun i => some (i * s, s)) cs ((vals.zipIdx k).map fun x => (x.2, x.1)) = some A ∧ A.size = cs.size ∧ (∀ j, j < k * s → A[j]? = cs[j]?) ∧
      ∀ (i : Nat) (v : Value), vals[i]? = some v → ∀ q, q < s → A[(k + i) * s + q]? = v.cells[q]?
  | [], k, cs, _, _ => ⟨cs, by simp [Instr.fill], rfl, fun _ _ => rfl, by simp⟩
  | v :: vals, k, cs, hs, hle => by
    have hv := hs v (by simp)
    simp only [List.length_cons] at hle
    have hk1 : (k + 1 + vals.length) * s ≤ cs.size := by rw [show k + 1 + vals.length = k + (vals.length + 1) by omega]; exact hle
    have hk : k * s + s ≤ cs.size := by
      refine Nat.le_trans ?_ hk1
      rw [← Nat.succ_mul]; exact Nat.mul_le_mul_right _ (by omega)
    have hlen : (cs.toList.take (k * s) ++ v.cells.toList ++ cs.toList.drop (k * s + v.cells.toList.length)).length = cs.size := by
      rw [over_length _ _ _ (by simp [hv]; omega)]; simp
    obtain ⟨A, h1, h2, h3, h4⟩ := fill_order s vals (k + 1) ((cs.toList.take (k * s) ++ v.cells.toList ++ cs.toList.drop (k * s + v.cells.toList.length)).toArray) (fun u hu => hs u (by simp [hu])) (by rw [List.size_toArray, hlen]; exact hk1)
    have hget : ∀ j, ((cs.toList.take (k * s) ++ v.cells.toList ++ cs.toList.drop (k * s + v.cells.toList.length)).toArray)[j]? = if k * s ≤ j ∧ j < k * s + s then v.cells[j - k * s]? else cs[j]? := by
      intro j
      rw [List.getElem?_toArray, over_get _ _ _ _ (by simp [hv]; omega)]
      simp [hv]
    refine ⟨A, ?_, by rw [h2, List.size_toArray, hlen], fun j hj => ?_, fun i u hu q hq => ?_⟩
    · simp only [List.zipIdx_cons, List.map_cons, Instr.fill]
      rw [if_neg (by simp [hv]; omega), fill_step _ _ _ (by rw [hv]; omega)]
      simpa using h1
    · rw [h3 j (by rw [Nat.succ_mul]; omega), hget, if_neg (by omega)]
    · cases i with
      | zero =>
        simp at hu; subst hu
        rw [Nat.add_zero, h3 _ (by rw [Nat.succ_mul]; omega), hget, if_pos ⟨by omega, by omega⟩]
        congr 1; omega
      | succ i =>
        have := h4 i u (by simpa using hu) q hq
        rw [← this, show k + (i + 1) = k + 1 + i by omega]

theorem inOrder_eval {a : Act} : ∀ (parts : List (Nat × Operand)) (k : Nat) (l : List AVal), inOrder env k parts = some l →
    (parts.map fun x => (x.1, a.eval x.2)) = ((parts.map fun x => a.eval x.2).zipIdx k).map (fun x => (x.2, x.1)) ∧ l = parts.map fun x => env x.2
  | [], k, l, h => by simp [inOrder] at h; subst h; simp
  | (j, x) :: parts, k, l, h => by
    simp only [inOrder] at h
    split at h
    · rename_i hj
      split at h
      · rename_i l' hl'
        simp at h; subst h; subst hj
        obtain ⟨h1, h2⟩ := inOrder_eval (a := a) parts (j + 1) l' hl'
        exact ⟨by simp [h1], by simp [h2]⟩
      · cases h
    · cases h

theorem MemOk.alloc0 {F : Cells} {w : World} {ρ : Env} {Mine : Nat → Prop} {M : Mem} (hm : MemOk F w ρ Mine M) (g : Good F w Mine) (ob : Obj) (G : Nat → Prop) :
    MemOk (fun b o => F b o ∨ (b = w.heap.size ∧ G o)) (w.alloc ob) ρ Mine M := by
  have := MemOk.step hm (Step.alloc g ob G) (fun _ => True) (fun _ _ => ⟨rfl, rfl⟩) [] (fun j r h _ => ⟨trivial, fun i hi => absurd trivial hi, fun b hb => ?_⟩) (fun j r h => by simp [Mem.get] at h) (fun j j' r r' b h => by simp [Mem.get] at h)
  · simpa using this
  · have hlt := (hm.mine j r b h hb).2
    refine ⟨heap_alloc_old w ob hlt, fun o ho => ?_⟩
    rcases ho with ho | ⟨rfl, _⟩
    · exact ho
    · omega

theorem s_buildSlice {t : TypeId} {len : Nat} {parts : Array (Nat × Operand)} {out : Out} (ho : o.op = .buildSlice t len parts) (h : evBuildSlice P t len env m parts.toList = some out) : Sound1 P o env m id out := by
  unfold evBuildSlice at h
  split at h
  · rename_i e hu
    split at h
    · rename_i s l hs hl
      split at h
      · rename_i ps is hps
        split at h
        · rename_i hc
          simp only [Bool.and_eq_true, decide_eq_true_eq, List.all_eq_true, beq_iff_eq] at hc
          obtain ⟨⟨⟨⟨hlen, hall⟩, hs1⟩, hbig⟩, hzz⟩ := hc
          obtain ⟨zl, hzl⟩ := Option.isSome_iff_exists.1 hzz
          cases h
          intro F w ρ Mine M a hm g fr hrd hfe ha
          have hop : ∀ x ∈ parts.toList, x.2 ∈ o.op.operands := fun x hx => by
            simp only [ho, Op.operands, List.mem_toArray, List.mem_map]
            exact ⟨x, hx, rfl⟩
          obtain ⟨e1, e2⟩ := inOrder_eval (a := a) parts.toList 0 l hl
          obtain ⟨st1, hm1⟩ := share_ok (m := m) hm g hrd
          obtain ⟨hll, hrel⟩ := purifyAll_rel (js := is) hm hps (fun _ h => h) hrd
          have hpl : parts.toList.length = len := by rw [← hlen, ← hll, e2]; simp
          -- the values
          have hval : ∀ (i : Nat) (p : PVal), ps[i]? = some p → ∃ v, (parts.toList.map fun x => a.eval x.2)[i]? = some v ∧ PRel (sharedF F ρ m is) w p v := by
            intro i p hp
            obtain ⟨b, hb, hr⟩ := hrel i p hp
            rw [e2] at hb
            simp only [List.getElem?_map, Option.map_eq_some_iff] at hb
            obtain ⟨x, hx, rfl⟩ := hb
            exact ⟨a.eval x.2, by simp [hx], hr _ (ha x.2 (hop x (List.mem_of_getElem? hx)))⟩
          have hcell : ∀ (i : Nat) (p : PVal) (v : Value), ps[i]? = some p → (parts.toList.map fun x => a.eval x.2)[i]? = some v →
              v.cells.size = s ∧ p.cells.length = s ∧ ∀ (j : Nat) (q : PVal) (u : Value), p.cells[j]? = some q → v.cells[j]? = some u → PRel (sharedF F ρ m is) w q u ∧ u.oneCell' = true := by
            intro i p v hp hv
            obtain ⟨v', hv', hr⟩ := hval i p hp
            rw [hv] at hv'; cases hv'
            obtain ⟨q1, q2⟩ := hall p (List.mem_of_getElem? hp)
            obtain ⟨q3, q4⟩ := hr.cells (List.all_eq_true.2 q2)
            exact ⟨by rw [← q3, q1], q1, q4⟩
          obtain ⟨zv, hzv, _⟩ := run_zero (P := P) (w := w) hzl
          obtain ⟨z, hz⟩ : ∃ z : Array Value, z = if len * s = 0 then #[] else zv.cells := ⟨_, rfl⟩
          obtain ⟨A, f1, f2, f3, f4⟩ := fill_order s (parts.toList.map fun x => a.eval x.2) 0 ((Array.range (len * s)).map (z[· % z.size]!)) (fun v hv => by
            obtain ⟨i, hi⟩ := List.getElem?_of_mem hv
            have hlt : i < ps.length := by
              have := (List.getElem?_eq_some_iff.1 hi).1
              simp at this hpl; omega
            exact (hcell i ps[i] v (by simp [hlt]) hi).1) (by simp [hpl])
          have key : ∀ (i j : Nat) (q : PVal), i < len → (lget ps i).cells[j]? = some q → ∃ p v u, ps[i]? = some p ∧ p.cells[j]? = some q ∧ (parts.toList.map fun x => a.eval x.2)[i]? = some v ∧ v.cells[j]? = some u ∧
              A[i * s + j]? = some u ∧ (PRel (sharedF F ρ m is) w q u ∧ u.oneCell' = true) := by
            intro i j q hi hq
            have hlt : i < ps.length := by omega
            have hp : ps[i]? = some ps[i] := by simp [hlt]
            rw [show lget ps i = ps[i] by simp [lget, hlt]] at hq
            obtain ⟨v, hv, _⟩ := hval i _ hp
            obtain ⟨c1, c2, c3⟩ := hcell i _ v hp hv
            have hj : j < s := by have := (List.getElem?_eq_some_iff.1 hq).1; omega
            have hu : v.cells[j]? = some (v.cells[j]'(by omega)) := by simp [c1, hj]
            have hA := f4 i v hv j hj
            rw [Nat.zero_add, hu] at hA
            exact ⟨_, v, _, hp, hq, hv, hu, hA, c3 j q _ hq hu⟩
          refine ⟨.slice (some ⟨w.heap.size, 0, none⟩) len len, w.alloc (.cells A e), _, ρ, .value ?_, st1.trans (Step.alloc (st1.good g) (.cells A e) (fun _ => True)), fun _ _ => ⟨rfl, rfl⟩, .pure ?_, hm1.alloc0 (st1.good g) (.cells A e) (fun _ => True)⟩
          · simp only [execOp, ho, Instr.buildSlice, Sem.run_bind, run_underlying hu, Result.andThen_ok, run_size hs]
            rw [if_neg (by omega)]
            have f1' : Instr.fill (fun i => some (i * s, s)) ((Array.range (len * s)).map (z[· % z.size]!)) (parts.toList.map fun x => (x.1, a.eval x.2)) = some A := by rw [e1]; exact f1
            by_cases h0 : len * s = 0
            · rw [if_pos h0] at hz ⊢
              subst hz
              simp only [Sem.run_bind, Sem.run_pure, Result.andThen_ok, Array.toList_map]
              simp only [f1', newRow, Sem.run_bind, run_newObj, Result.andThen_ok, Sem.run_pure]
              rfl
            · rw [if_neg h0] at hz ⊢
              subst hz
              simp only [Sem.run_bind, hzv, Sem.run_pure, Result.andThen_ok, Array.toList_map]
              simp only [f1', newRow, Sem.run_bind, run_newObj, Result.andThen_ok, Sem.run_pure]
              rfl
          · refine .sl (fun x => (A[x]?).getD undef) (Nat.le_refl _) (by simp only [maxLen]; have := Nat.le_mul_of_pos_right len hs1; omega) (fun i hi => ?_) (fun i j q hi hq => ?_) (fun i j q hi hq => ?_)
            · have hlt : i < ps.length := by omega
              simp only [lget, List.getD_eq_getElem?_getD, List.getElem?_eq_getElem hlt, Option.getD_some]
              exact (hall _ (List.getElem_mem hlt)).1
            · obtain ⟨p, v, u, g1, g2, g3, g4, g5, g6⟩ := key i j q hi hq
              simp only [Nat.zero_add, g5, Option.getD_some]
              exact ⟨.inr (by simp), by rw [cell_of_row _ _ _ A e _ (heap_alloc_new w _)]; exact g5, g6.2⟩
            · obtain ⟨p, v, u, g1, g2, g3, g4, g5, g6⟩ := key i j q hi hq
              simp only [g5, Option.getD_some]
              exact g6.1.mono (fun b o h => .inl h) (fun b o h => World.cell?_alloc_lt _ _ _ ((st1.good g).lt b o h))
        · cases h
      · cases h
    · cases h
  · cases h
end Go.Abs
