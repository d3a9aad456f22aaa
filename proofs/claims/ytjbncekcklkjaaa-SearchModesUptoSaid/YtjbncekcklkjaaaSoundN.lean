/-
  Soundness of one step of a region.
-/
import Derived.Test.YtjbncekcklkjaaaSoundM
namespace Go.Abs
variable {P : Program}

theorem run_callFunc {f : FuncId} {vs : Array Value} {w : World} (h : Callable P f) : (callFunc f vs).run P w = .ok (.enter f vs) w := by
  obtain ⟨fn, h1, h2, h3⟩ := h
  simp only [callFunc, Sem.run_bind, run_program, Result.andThen_ok, h1, h2, h3, Bool.false_eq_true, if_false, Sem.run_pure]

theorem shareOf_none {m : Mem} {is : List Nat} {j : Nat} (h : j ∉ is) : (shareOf m is).get j = none := by
  cases hg : (shareOf m is).get j with
  | none => rfl
  | some r => exact absurd (shareOf_get hg).1 h

theorem s_call {o : Oper} {c : Call} {x : Operand} {s : St} {id : Nat} {f : FuncId} {first caps : List AVal} {h : Hint} (ho : o.op = .call c) (hc : c.callee = .value x) (hx : envOf s x = .func f first caps)
    (hdis : ((handOver s.mem (first ++ c.args.toList.map (envOf s) ++ caps)).2.all fun j => (Mem.ren (renTo h.σ h.k id) h.m).all fun x => x.1 != j) = true) (hro : renOk h id = true)
    (hob : ASubs (handOver s.mem (first ++ c.args.toList.map (envOf s) ++ caps)).1 (AVal.renL (renTo h.σ h.k id) h.args) ∧ MSub s.mem (Mem.ren (renTo h.σ h.k id) h.m) ∧ Spec P f h.k h.args h.m h.res h.m') {ob : Option Prop} :
    Sound2 P o (envOf s) s.mem id ⟨AVal.ren (renTo h.σ h.k id) h.res, (Mem.ren (renTo h.σ h.k id) h.m).map (·.1) ++ (handOver s.mem (first ++ c.args.toList.map (envOf s) ++ caps)).2,
      Mem.ren (renTo h.σ h.k id) h.m' ++ shareOf s.mem (handOver s.mem (first ++ c.args.toList.map (envOf s) ++ caps)).2, ob⟩ := by
  generalize has : handOver s.mem (first ++ c.args.toList.map (envOf s) ++ caps) = as at *
  obtain ⟨h1, h2, h3⟩ := hob
  intro F w ρ Mine M a hm g fr hrd hfe ha next Q hn
  have hopx : x ∈ o.op.operands := by simp [ho, Op.operands, Call.operands, hc]
  have hopa : ∀ y ∈ c.args.toList, y ∈ o.op.operands := fun y hy => by simp [ho, Op.operands, Call.operands, hc]; exact .inr (by simpa using hy)
  have hrd1 : ∀ i ∈ as.2, M.get i = s.mem.get i := fun i hi => hrd i (by simp [hi])
  have hrd2 : ∀ y ∈ Mem.ren (renTo h.σ h.k id) h.m, M.get y.1 = s.mem.get y.1 := fun y hy => hrd y.1 (by simp only [List.mem_append, List.mem_map]; exact .inl ⟨y, hy, rfl⟩)
  have hfx := hx ▸ ha x hopx
  generalize hu : a.eval x = u at hfx
  cases hfx with
  | func g1 g1' g2 g2' =>
    rename_i v1 v2
    have hrun : (execOp a.eval o).run P w = .ok (.enter f (v1 ++ c.args.map a.eval ++ v2)) w := by
      simp only [execOp, ho, resolve, hc, hu, Deferred.ofValue, Sem.run_bind, Sem.run_pure, Result.andThen_ok, invoke, run_callFunc h3.callable]
    -- the arguments
    have hall : (first ++ c.args.toList.map (envOf s) ++ caps).length = (v1 ++ c.args.map a.eval ++ v2).toList.length ∧
        ∀ (j : Nat) (b : AVal) (v : Value), (first ++ c.args.toList.map (envOf s) ++ caps)[j]? = some b → (v1 ++ c.args.map a.eval ++ v2).toList[j]? = some v → ARel F w ρ b v := by
      refine ⟨by simp [g1, g2], fun j b v hb hv => ?_⟩
      simp only [Array.toList_append, Array.toList_map] at hv
      have hmid := rels_map (env := envOf s) c.args.toList (F := F) (w := w) (ρ := ρ) (a := a) (fun y hy => ha y (hopa y hy))
      rw [List.append_assoc] at hb hv
      by_cases hj1 : j < first.length
      · rw [List.getElem?_append_left hj1] at hb
        rw [List.getElem?_append_left (by simp; omega)] at hv
        exact g1' j b v hb (by simpa using hv)
      · rw [List.getElem?_append_right (by omega)] at hb
        rw [List.getElem?_append_right (by simp; omega)] at hv
        rw [Array.length_toList, ← g1] at hv
        by_cases hj2 : j - first.length < (c.args.toList.map (envOf s)).length
        · rw [List.getElem?_append_left hj2] at hb
          rw [List.getElem?_append_left (by rw [← hmid.1]; exact hj2)] at hv
          exact hmid.2 _ b v hb hv
        · rw [List.getElem?_append_right (by omega)] at hb
          rw [List.getElem?_append_right (by rw [← hmid.1]; omega), ← hmid.1] at hv
          exact g2' _ b v hb (by simpa using hv)
    obtain ⟨st1, hm1⟩ := share_ok (m := s.mem) hm g hrd1
    have hrel := handOver_rel (m := s.mem) (js := as.2) hm g hall.1 hall.2 (by rw [has]; exact fun _ h => h) (by rw [has]; exact hrd1)
    rw [has] at hrel
    obtain ⟨hl, hsub⟩ := asubs_rel (F := sharedF F w ρ s.mem as.2) (w := w) (ρ := ρ) h1
    have hargs : ARels (sharedF F w ρ s.mem as.2) w ρ (AVal.renL (renTo h.σ h.k id) h.args) (v1 ++ c.args.map a.eval ++ v2) := by
      refine ⟨by rw [← hl, hrel.1]; simp, fun j b v hb hv => ?_⟩
      obtain ⟨a', ha', hv'⟩ := hsub j b hb
      exact hv' v (hrel.2 j a' v ha' (by rw [Array.getElem?_toList]; exact hv))
    have fr1 : Fresh id (shareOf s.mem as.2 ++ M) := by
      refine ⟨fun i hi => ?_, fun i j r hi hj => ?_⟩
      · rw [Mem.get_append]
        cases hg : (shareOf s.mem as.2).get i with
        | none => simpa using fr.none i hi
        | some r =>
          obtain ⟨q1, r0, q2, _⟩ := shareOf_get hg
          have := fr.none i hi
          rw [hrd1 i q1, q2] at this; cases this
      · rw [Mem.get_append] at hj
        cases hg : (shareOf s.mem as.2).get j with
        | none => rw [hg] at hj; exact fr.has i j r hi (by simpa using hj)
        | some r' =>
          rw [hg] at hj
          simp at hj; subst hj
          obtain ⟨q1, r0, q2, q3⟩ := shareOf_get hg
          exact sharedR_has q3 i
    have hmem : ∀ y ∈ Mem.ren (renTo h.σ h.k id) h.m, ∃ r0, (shareOf s.mem as.2 ++ M).get y.1 = some r0 ∧ RSub r0 y.2 := by
      intro y hy
      obtain ⟨r0, q1, q2⟩ := msub_get h2 (i := y.1) (r := y.2) hy
      refine ⟨r0, ?_, q2⟩
      have hnot : y.1 ∉ as.2 := by
        intro hin
        have := List.all_eq_true.1 (List.all_eq_true.1 hdis y.1 hin) y hy
        simp at this
      rw [Mem.get_append, shareOf_none hnot]
      simp [hrd2 y hy, q1]
    have hcall := call_core h3 (renOk_of hro) hm1 (st1.good g) fr1 hmem hargs
    unfold Oper.wp
    rw [hrun]
    refine hcall.mono ?_
    rintro e w' ⟨v, F', ρ', rfl, q1, q2, q3, q4⟩
    exact hn v w' ⟨F', ρ', st1.trans q1, q2, q3, by simpa [List.append_assoc] using q4⟩

theorem stepOf_sound {hint : Nat → Option Hint} {i : Nat} {o : Oper} {id : Nat} {s : St} {out : Out} {b : Bool} (h : stepOf P hint i o id s = some (out, b)) (hob : holds out.obl) : Sound2 P o (envOf s) s.mem id out := by
  unfold stepOf at h
  split at h
  · rename_i c hop
    split at h
    · rename_i bb hb
      rw [Option.map_eq_some_iff] at h
      obtain ⟨q, hq, he⟩ := h
      cases he
      refine (evOp_sound (o := o) ?_ hob).to2
      rw [hop]
      simp only [evOp, hb]
      exact hq
    · rename_i x hx
      split at h
      · rename_i f first caps hh hfx hhint
        simp only at h
        split at h
        · rename_i hc
          simp only [Bool.and_eq_true] at hc
          cases h
          exact s_call hop hx hfx hc.1 hc.2 hob
        · cases h
      · cases h
    · cases h
  · rename_i x hop
    split at h
    · rename_i j hh hx hhint
      split at h
      · rename_i str pos hj
        split at h
        · cases h; exact (s_next_more hop hx hj hob).to2
        · cases h; exact (s_next_over hop hx hj hob).to2
      · cases h
    · cases h
  · rename_i t l c hop
    split at h
    · rw [Option.map_eq_some_iff] at h
      obtain ⟨q, hq, he⟩ := h
      cases he
      exact (s_makeSliceT hop hq hob).to2
    · rw [Option.map_eq_some_iff] at h
      obtain ⟨q, hq, he⟩ := h
      cases he
      exact (s_makeSlice hop hq hob).to2
  · rw [Option.map_eq_some_iff] at h
    obtain ⟨q, hq, he⟩ := h
    cases he
    exact (evOp_sound hq hob).to2
end Go.Abs
