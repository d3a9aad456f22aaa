/-
  TRoadmapNested (a part of a claim: our own text).
-/
import Derived.Test.YtkjkbdobenmgbaaGreatXITop
import Derived.Test.YtkjkbdobenmgbaaGreatXID3
import Derived.Test.YtkjkbdobenmgbaaGreatXIJRoadmapNestedb
namespace Go.Abs
open Go.Proofs Go.Proofs.YtkjkbdobenmgbaaGreat Go.ChangeShapes Go.WideShapes Go.ChangeAt Go.RowKit
namespace roadmapNested
def cells_t3 (v : Int) : List PVal := [.int .i64 v]
def ok_t3 (v : Int) : Prop := (Lit.int .i64 v).wf = true
def bulk_t3 (_ : Int) : Nat := 1
theorem rep_t3 : Rep Tryz.prog 3 cells_t3 ok_t3 bulk_t3 := rep_int (by kernel_rfl)
def cells_t30 (v : (List Int)) : List PVal := [encL 1 encI_i64 v]
def ok_t30 (v : (List Int)) : Prop := ∀ a ∈ v, ok_t3 a
def bulk_t30 (v : (List Int)) : Nat := (v.map bulk_t3).sum + 1
theorem rep_t30 : Rep Tryz.prog 30 cells_t30 ok_t30 bulk_t30 := rep_slice (cells := cells_t3) (enc := encI_i64) (sz := 1) (by kernel_rfl) (by kernel_rfl) (by decide) (fun _ => rfl) (fun _ => rfl) rep_t3
theorem and_t {a b : Bool} (h : a = true) (k : b = true) : (a && b) = true := by rw [h, k]; rfl
set_option maxRecDepth 100000 in
theorem closed : joinedFacts Tryz.pinned.checked.prog 6 Tryz.f6 (Rows.OpenSpec.upto Rows.roadmapNestedSpec).bare Rows.roadmapNestedUptoRow = true := by
  unfold joinedFacts
  exact (and_t (and_t (and_t (and_t (and_t (and_t (and_t (and_t (and_t (and_t (and_t (and_t (and_t (and_t (and_t (and_t (and_t (and_t (and_t (and_t (and_t (and_t (and_t (and_t (and_t (and_t (and_t (and_t (and_t (and_t (and_t jf_wf jf_laid) jf_mapsRowed) jf_params) jf_named) jf_cstops) jf_stops) jf_cknobs) jf_knobs) jf_inPlace) jf_unf) jf_rec) jf_vars) jf_maps) jf_ifaces) jf_mapsOut) jf_loops) jf_wide) jf_varsR) jf_res) jf_ifacesOut) jf_loopsOut) jf_plainKeys) jf_short) jf_heard) jf_mayEnter) jf_lifted) jf_make) jf_kinds) jf_pinned) jf_veiled) jf_fits)
theorem own : ownKnob Tryz.prog.godebug = none := by kernel_rfl
set_option maxRecDepth 100000 in
theorem contract (plain : ∀ (a0 : (List Int)), ok_t30 a0 → bulk_t30 a0 ≤ 1048576 → (law25_RoadmapNested_C a0).o = some true) (H : Type) (enc : TypeId × Value → H) (W : World) (base : Nat) (args : Array Value) (ds gs : List (DataW H)) (before : List MemPlace)
    (hval : ∀ (j : Nat) t v, Tryz.f6.params[j]? = some t → args[j]? = some v → Value.okWide Tryz.prog W .any base t v)
    (hW : DataW.Whole enc Tryz.prog Tryz.f6.params.toList Rows.roadmapNestedSpec.vars false W args.toList ds gs before) (hk : Rows.uptoSmall H (ds ++ gs) = true) :
    Calls Tryz.prog 6 args W fun e W' => ∃ v, e = .returned v ∧ Rows.roadmapNestedSpec.post enc Tryz.prog Tryz.f6 false true false false W args v W' := by
  have hW' := hW
  obtain ⟨p, q, hA0, hV, rfl, hfz, hnd⟩ := hW
  have hA : DataW.TrodAll enc Tryz.prog W 0 (fun _ => true) true Tryz.f6.params.toList args.toList ds p := hA0
  rw [Tryz.params6] at hA hval
  obtain ⟨v0, vs0, d0, ds0, p0, q0, hargs, rfl, rfl, h0, r0⟩ := trodAll_cons hA
  obtain ⟨rfl, rfl, rfl⟩ := trodAll_nil r0
  obtain rfl : args = #[v0] := by cases args; simp_all
  obtain ⟨rfl, rfl⟩ := trodVars_none hV
  obtain ⟨n0, h0⟩ := h0
  obtain ⟨a0, c0, o0, b0⟩ := rep_t30 H enc W _ _ _ h0
  have hb : Rows.uptoBulkAll ([d0] ++ [] : List (DataW H)) ≤ 1048576 := of_decide_eq_true hk
  simp only [List.append_nil, Rows.uptoBulkAll] at hb
  have htrue := plain a0 o0 (by simp only at b0; omega)
  refine post_of_spec (bt := 4) ((law25_RoadmapNested_C a0).ok _ htrue) (fun ρ => arels_cons (one_val (P := Tryz.prog) (hval 0 30 v0 rfl rfl) (by kernel_rfl) c0) (arels_nil)) hW' rfl rfl (by kernel_rfl) (by kernel_rfl) (slices_full_of _ (by kernel_rfl)) ?_ (by kernel_rfl) (by kernel_rfl)
  have hs : Tryz.prog.types.size = 243 := by kernel_rfl
  rw [Tryz.params6, hs]; simp only [List.mem_cons, List.not_mem_nil, or_false]
  rintro t (rfl) <;> decide
set_option maxRecDepth 100000 in
theorem lifted (plain : ∀ (a0 : (List Int)), ok_t30 a0 → bulk_t30 a0 ≤ 1048576 → (law25_RoadmapNested_C a0).o = some true) (os : Os) (started : os.Started) (H : Type) (enc : TypeId × Value → H) (F : Stop.Interp) :
    ReturnsInHanded {} Tryz.checked os 6 .any ((Rows.OpenSpec.upto Rows.roadmapNestedSpec).pre6 enc Tryz.prog Tryz.f6 Rows.roadmapNestedUptoRow.domain false) (((Rows.OpenSpec.upto Rows.roadmapNestedSpec).at F).post enc Tryz.prog Tryz.f6 false true false false) := by
  refine returnsInHanded_of_cond (C := Tryz.checked) (s := Rows.OpenSpec.upto Rows.roadmapNestedSpec) (k := Rows.uptoSmall) rfl own started (by kernel_rfl) Tryz.func6
    (OpenSpec.witness (enc := enc) (C := Tryz.checked) (s := Rows.OpenSpec.upto Rows.roadmapNestedSpec) (k := Rows.uptoSmall) rfl false ⟨#[], #[.slice none 0 0], []⟩ 8 (by kernel_rfl) (by kernel_rfl) (by kernel_rfl)
      (x := ([.nil], [], [])) (by kernel_rfl) rfl (by kernel_rfl)) ?_
  intro W base args ds gs before hval hW _ hk _
  exact contract plain H enc W base args ds gs before hval hW hk
theorem over (plain : ∀ (a0 : (List Int)), ok_t30 a0 → bulk_t30 a0 ≤ 1048576 → (law25_RoadmapNested_C a0).o = some true) : Rows.roadmapNestedUptoRow.holds Tryz.pinned (Rows.OpenSpec.upto Rows.roadmapNestedSpec) :=
  OpenClaim.holds_of_cond 6 Tryz.f6 rfl rfl rfl rfl rfl rfl rfl ⟨rfl, rfl, rfl, rfl, rfl⟩ rfl rfl rfl rfl rfl (by kernel_rfl) Tryz.func6 closed
    (of_decide_eq_true (by kernel_rfl)) (by unfold Func.isWrapper; first | (rw [if_pos (by decide +kernel)]; kernel_rfl) | (rw [if_neg (by decide +kernel)]; exact ⟨rfl, rfl⟩))
    (fun os started H enc _ F => lifted plain os started H enc F)
end roadmapNested
end Go.Abs
