/-
  TRoadmapNearest (a part of a claim: our own text).
-/
import Derived.Test.YtkjkbdobenmgbaaGreatXLTop
import Derived.Test.YtkjkbdobenmgbaaGreatXLD3
import Derived.Test.YtkjkbdobenmgbaaGreatXLJRoadmapNearestb
namespace Go.Abs
open Go.Proofs Go.Proofs.YtkjkbdobenmgbaaGreat Go.ChangeShapes Go.WideShapes Go.ChangeAt Go.RowKit
namespace roadmapNearest
def cells_t3 (v : Int) : List PVal := [.int .i64 v]
def ok_t3 (v : Int) : Prop := (Lit.int .i64 v).wf = true
def bulk_t3 (_ : Int) : Nat := 1
theorem rep_t3 : Rep Tryz.prog 3 cells_t3 ok_t3 bulk_t3 := rep_int (by kernel_rfl)
def cells_t30 (v : (List Int)) : List PVal := [encL 1 encI_i64 v]
def ok_t30 (v : (List Int)) : Prop := ∀ a ∈ v, ok_t3 a
def bulk_t30 (v : (List Int)) : Nat := (v.map bulk_t3).sum + 1
theorem rep_t30 : Rep Tryz.prog 30 cells_t30 ok_t30 bulk_t30 := rep_slice (cells := cells_t3) (enc := encI_i64) (sz := 1) (by kernel_rfl) (by kernel_rfl) (by decide) (fun _ => rfl) (fun _ => rfl) rep_t3
theorem and_t {a b : Bool} (h : a = true) (k : b = true) : (a && b) = true := by rw [h, k]; rfl
set_option maxRecDepth 100000 in
theorem closed : joinedFacts Tryz.pinned.checked.prog 7 Tryz.f7 (Rows.OpenSpec.upto Rows.roadmapNearestSpec).bare Rows.roadmapNearestUptoRow = true := by
  unfold joinedFacts
  exact (and_t (and_t (and_t (and_t (and_t (and_t (and_t (and_t (and_t (and_t (and_t (and_t (and_t (and_t (and_t (and_t (and_t (and_t (and_t (and_t (and_t (and_t (and_t (and_t (and_t (and_t (and_t (and_t (and_t (and_t (and_t jf_wf jf_laid) jf_mapsRowed) jf_params) jf_named) jf_cstops) jf_stops) jf_cknobs) jf_knobs) jf_inPlace) jf_unf) jf_rec) jf_vars) jf_maps) jf_ifaces) jf_mapsOut) jf_loops) jf_wide) jf_varsR) jf_res) jf_ifacesOut) jf_loopsOut) jf_plainKeys) jf_short) jf_heard) jf_mayEnter) jf_lifted) jf_make) jf_kinds) jf_pinned) jf_veiled) jf_fits)
theorem own : ownKnob Tryz.prog.godebug = none := by kernel_rfl
set_option maxRecDepth 100000 in
theorem contract (plain : ∀ (a0 : (List Int)) (a1 : (List Int)) (a2 : Int) (a3 : Int), ok_t30 a0 → ok_t30 a1 → ok_t3 a2 → ok_t3 a3 → bulk_t30 a0 + bulk_t30 a1 + bulk_t3 a2 + bulk_t3 a3 ≤ 1048576 → (law25_RoadmapNearest_C a0 a1 a2 a3).o = some true) (H : Type) (enc : TypeId × Value → H) (W : World) (base : Nat) (args : Array Value) (ds gs : List (DataW H)) (before : List MemPlace)
    (hval : ∀ (j : Nat) t v, Tryz.f7.params[j]? = some t → args[j]? = some v → Value.okWide Tryz.prog W .any base t v)
    (hW : DataW.Whole enc Tryz.prog Tryz.f7.params.toList Rows.roadmapNearestSpec.vars false W args.toList ds gs before) (hk : Rows.uptoSmall H (ds ++ gs) = true) :
    Calls Tryz.prog 7 args W fun e W' => ∃ v, e = .returned v ∧ Rows.roadmapNearestSpec.post enc Tryz.prog Tryz.f7 false true false false W args v W' := by
  have hW' := hW
  obtain ⟨p, q, hA0, hV, rfl, hfz, hnd⟩ := hW
  have hA : DataW.TrodAll enc Tryz.prog W 0 (fun _ => true) true Tryz.f7.params.toList args.toList ds p := hA0
  rw [Tryz.params7] at hA hval
  obtain ⟨v0, vs0, d0, ds0, p0, q0, hargs, rfl, rfl, h0, r0⟩ := trodAll_cons hA
  obtain ⟨v1, vs1, d1, ds1, p1, q1, hargs1, rfl, rfl, h1, r1⟩ := trodAll_cons r0
  subst hargs1
  obtain ⟨v2, vs2, d2, ds2, p2, q2, hargs2, rfl, rfl, h2, r2⟩ := trodAll_cons r1
  subst hargs2
  obtain ⟨v3, vs3, d3, ds3, p3, q3, hargs3, rfl, rfl, h3, r3⟩ := trodAll_cons r2
  subst hargs3
  obtain ⟨rfl, rfl, rfl⟩ := trodAll_nil r3
  obtain rfl : args = #[v0, v1, v2, v3] := by cases args; simp_all
  obtain ⟨rfl, rfl⟩ := trodVars_none hV
  obtain ⟨n0, h0⟩ := h0
  obtain ⟨a0, c0, o0, b0⟩ := rep_t30 H enc W _ _ _ h0
  obtain ⟨n1, h1⟩ := h1
  obtain ⟨a1, c1, o1, b1⟩ := rep_t30 H enc W _ _ _ h1
  obtain ⟨n2, h2⟩ := h2
  obtain ⟨a2, c2, o2, b2⟩ := rep_t3 H enc W _ _ _ h2
  obtain ⟨n3, h3⟩ := h3
  obtain ⟨a3, c3, o3, b3⟩ := rep_t3 H enc W _ _ _ h3
  have hb : Rows.uptoBulkAll ([d0, d1, d2, d3] ++ [] : List (DataW H)) ≤ 1048576 := of_decide_eq_true hk
  simp only [List.append_nil, Rows.uptoBulkAll] at hb
  have htrue := plain a0 a1 a2 a3 o0 o1 o2 o3 (by simp only at b0 b1 b2 b3; omega)
  refine post_of_spec (bt := 4) ((law25_RoadmapNearest_C a0 a1 a2 a3).ok _ htrue) (fun ρ => arels_cons (one_val (P := Tryz.prog) (hval 0 30 v0 rfl rfl) (by kernel_rfl) c0) (arels_cons (one_val (P := Tryz.prog) (hval 1 30 v1 rfl rfl) (by kernel_rfl) c1) (arels_cons (one_val (P := Tryz.prog) (hval 2 3 v2 rfl rfl) (by kernel_rfl) c2) (arels_cons (one_val (P := Tryz.prog) (hval 3 3 v3 rfl rfl) (by kernel_rfl) c3) (arels_nil))))) hW' rfl rfl (by kernel_rfl) (by kernel_rfl) (slices_full_of _ (by kernel_rfl)) ?_ (by kernel_rfl) (by kernel_rfl)
  have hs : Tryz.prog.types.size = 243 := by kernel_rfl
  rw [Tryz.params7, hs]; simp only [List.mem_cons, List.not_mem_nil, or_false]
  rintro t (rfl | rfl | rfl | rfl) <;> decide
set_option maxRecDepth 100000 in
theorem lifted (plain : ∀ (a0 : (List Int)) (a1 : (List Int)) (a2 : Int) (a3 : Int), ok_t30 a0 → ok_t30 a1 → ok_t3 a2 → ok_t3 a3 → bulk_t30 a0 + bulk_t30 a1 + bulk_t3 a2 + bulk_t3 a3 ≤ 1048576 → (law25_RoadmapNearest_C a0 a1 a2 a3).o = some true) (os : Os) (started : os.Started) (H : Type) (enc : TypeId × Value → H) (F : Stop.Interp) :
    ReturnsInHanded {} Tryz.checked os 7 .any ((Rows.OpenSpec.upto Rows.roadmapNearestSpec).pre6 enc Tryz.prog Tryz.f7 Rows.roadmapNearestUptoRow.domain false) (((Rows.OpenSpec.upto Rows.roadmapNearestSpec).at F).post enc Tryz.prog Tryz.f7 false true false false) := by
  refine returnsInHanded_of_cond (C := Tryz.checked) (s := Rows.OpenSpec.upto Rows.roadmapNearestSpec) (k := Rows.uptoSmall) rfl own started (by kernel_rfl) Tryz.func7
    (OpenSpec.witness (enc := enc) (C := Tryz.checked) (s := Rows.OpenSpec.upto Rows.roadmapNearestSpec) (k := Rows.uptoSmall) rfl false ⟨#[], #[.slice none 0 0, .slice none 0 0, .int .i64 0, .int .i64 0], []⟩ 8 (by kernel_rfl) (by kernel_rfl) (by kernel_rfl)
      (x := ([.nil, .nil, .lit (.int .i64 0), .lit (.int .i64 0)], [], [])) (by kernel_rfl) rfl (by kernel_rfl)) ?_
  intro W base args ds gs before hval hW _ hk _
  exact contract plain H enc W base args ds gs before hval hW hk
theorem over (plain : ∀ (a0 : (List Int)) (a1 : (List Int)) (a2 : Int) (a3 : Int), ok_t30 a0 → ok_t30 a1 → ok_t3 a2 → ok_t3 a3 → bulk_t30 a0 + bulk_t30 a1 + bulk_t3 a2 + bulk_t3 a3 ≤ 1048576 → (law25_RoadmapNearest_C a0 a1 a2 a3).o = some true) : Rows.roadmapNearestUptoRow.holds Tryz.pinned (Rows.OpenSpec.upto Rows.roadmapNearestSpec) :=
  OpenClaim.holds_of_cond 7 Tryz.f7 rfl rfl rfl rfl rfl rfl rfl ⟨rfl, rfl, rfl, rfl, rfl⟩ rfl rfl rfl rfl rfl (by kernel_rfl) Tryz.func7 closed
    (of_decide_eq_true (by kernel_rfl)) (by unfold Func.isWrapper; first | (rw [if_pos (by decide +kernel)]; kernel_rfl) | (rw [if_neg (by decide +kernel)]; exact ⟨rfl, rfl⟩))
    (fun os started H enc _ F => lifted plain os started H enc F)
end roadmapNearest
end Go.Abs
