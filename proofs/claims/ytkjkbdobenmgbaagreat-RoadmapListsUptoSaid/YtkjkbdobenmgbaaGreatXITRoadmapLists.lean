/-
  TRoadmapLists (a part of a claim: our own text).
-/
import Derived.Test.YtkjkbdobenmgbaaGreatXITop
import Derived.Test.YtkjkbdobenmgbaaGreatXID3
import Derived.Test.YtkjkbdobenmgbaaGreatXIJRoadmapListsb
namespace Go.Abs
open Go.Proofs Go.Proofs.YtkjkbdobenmgbaaGreat Go.ChangeShapes Go.WideShapes Go.ChangeAt Go.RowKit
namespace roadmapLists
def cells_t2 (v : Int) : List PVal := [.int .i64 v]
def ok_t2 (v : Int) : Prop := (Lit.int .i64 v).wf = true
def bulk_t2 (_ : Int) : Nat := 1
theorem rep_t2 : Rep Tryz.prog 2 cells_t2 ok_t2 bulk_t2 := rep_int (by kernel_rfl)
def cells_t40 (v : (List Int)) : List PVal := [encL 1 encI_i64 v]
def ok_t40 (v : (List Int)) : Prop := ∀ a ∈ v, ok_t2 a
def bulk_t40 (v : (List Int)) : Nat := (v.map bulk_t2).sum + 1
theorem rep_t40 : Rep Tryz.prog 40 cells_t40 ok_t40 bulk_t40 := rep_slice (cells := cells_t2) (enc := encI_i64) (sz := 1) (by kernel_rfl) (by kernel_rfl) (by decide) (fun _ => rfl) (fun _ => rfl) rep_t2
def cells_t26 (v : (List (List Int))) : List PVal := [encL 1 (encL 1 encI_i64) v]
def ok_t26 (v : (List (List Int))) : Prop := ∀ a ∈ v, ok_t40 a
def bulk_t26 (v : (List (List Int))) : Nat := (v.map bulk_t40).sum + 1
theorem rep_t26 : Rep Tryz.prog 26 cells_t26 ok_t26 bulk_t26 := rep_slice (cells := cells_t40) (enc := (encL 1 encI_i64)) (sz := 1) (by kernel_rfl) (by kernel_rfl) (by decide) (fun _ => rfl) (fun _ => rfl) rep_t40
def cells_t3 (v : Int) : List PVal := [.int .i64 v]
def ok_t3 (v : Int) : Prop := (Lit.int .i64 v).wf = true
def bulk_t3 (_ : Int) : Nat := 1
theorem rep_t3 : Rep Tryz.prog 3 cells_t3 ok_t3 bulk_t3 := rep_int (by kernel_rfl)
def cells_t98 (v : (Int × Int × Int)) : List PVal := [.int .i64 v.1, .int .i64 v.2.1, .int .i64 v.2.2]
def ok_t98 (v : (Int × Int × Int)) : Prop := ok_t2 v.1 ∧ ok_t2 v.2.1 ∧ ok_t2 v.2.2 ∧ True
def bulk_t98 (v : (Int × Int × Int)) : Nat := (bulk_t2 v.1 + (bulk_t2 v.2.1 + (bulk_t2 v.2.2 + 0))) + 1
theorem rep_t98 : Rep Tryz.prog 98 cells_t98 ok_t98 bulk_t98 :=
  (rep_array (e := 2) (n := 3) (sz := 1) (fs := [(2, 0), (2, 1), (2, 2)]) (by kernel_rfl) (by kernel_rfl) (by kernel_rfl) (by kernel_rfl) (.cons (sz := 1) rep_t2 (by kernel_rfl) (.cons (sz := 1) rep_t2 (by kernel_rfl) (.cons (sz := 1) rep_t2 (by kernel_rfl) .nil)))).map (fun p => (p.1, p.2.1, p.2.2.1)) (fun _ => rfl) (fun _ h => h) (fun _ => Nat.le_refl _)
def cells_t49 (v : (List (Int × Int × Int))) : List PVal := [encL 3 enc_arr_3_int64 v]
def ok_t49 (v : (List (Int × Int × Int))) : Prop := ∀ a ∈ v, ok_t98 a
def bulk_t49 (v : (List (Int × Int × Int))) : Nat := (v.map bulk_t98).sum + 1
theorem rep_t49 : Rep Tryz.prog 49 cells_t49 ok_t49 bulk_t49 := rep_slice (cells := cells_t98) (enc := enc_arr_3_int64) (sz := 3) (by kernel_rfl) (by kernel_rfl) (by decide) (fun _ => rfl) (fun _ => rfl) rep_t98
def cells_t51 (v : S_Piece) : List PVal := [.int .i64 v.Depth, .int .i64 v.Index, encL 3 enc_arr_3_int64 v.Normals]
def ok_t51 (v : S_Piece) : Prop := ok_t3 v.Depth ∧ ok_t2 v.Index ∧ ok_t49 v.Normals ∧ True
def bulk_t51 (v : S_Piece) : Nat := (bulk_t3 v.Depth + (bulk_t2 v.Index + (bulk_t49 v.Normals + 0))) + 1
theorem rep_t51 : Rep Tryz.prog 51 cells_t51 ok_t51 bulk_t51 :=
  (rep_struct (fs := [(3, 0), (2, 1), (49, 2)]) (by kernel_rfl) (by kernel_rfl) (by kernel_rfl) (.cons (sz := 1) rep_t3 (by kernel_rfl) (.cons (sz := 1) rep_t2 (by kernel_rfl) (.cons (sz := 1) rep_t49 (by kernel_rfl) .nil)))).map (fun p => ⟨p.1, p.2.1, p.2.2.1⟩) (fun _ => rfl) (fun _ h => h) (fun _ => Nat.le_refl _)
def cells_t48 (v : (List S_Piece)) : List PVal := [encL 3 enc_Piece v]
def ok_t48 (v : (List S_Piece)) : Prop := ∀ a ∈ v, ok_t51 a
def bulk_t48 (v : (List S_Piece)) : Nat := (v.map bulk_t51).sum + 1
theorem rep_t48 : Rep Tryz.prog 48 cells_t48 ok_t48 bulk_t48 := rep_slice (cells := cells_t51) (enc := enc_Piece) (sz := 3) (by kernel_rfl) (by kernel_rfl) (by decide) (fun _ => rfl) (fun _ => rfl) rep_t51
def cells_t53 (v : S_Witness) : List PVal := [.int .i64 v.Pair, encL 1 encI_i64 v.Left, encL 1 encI_i64 v.Right]
def ok_t53 (v : S_Witness) : Prop := ok_t3 v.Pair ∧ ok_t40 v.Left ∧ ok_t40 v.Right ∧ True
def bulk_t53 (v : S_Witness) : Nat := (bulk_t3 v.Pair + (bulk_t40 v.Left + (bulk_t40 v.Right + 0))) + 1
theorem rep_t53 : Rep Tryz.prog 53 cells_t53 ok_t53 bulk_t53 :=
  (rep_struct (fs := [(3, 0), (40, 1), (40, 2)]) (by kernel_rfl) (by kernel_rfl) (by kernel_rfl) (.cons (sz := 1) rep_t3 (by kernel_rfl) (.cons (sz := 1) rep_t40 (by kernel_rfl) (.cons (sz := 1) rep_t40 (by kernel_rfl) .nil)))).map (fun p => ⟨p.1, p.2.1, p.2.2.1⟩) (fun _ => rfl) (fun _ h => h) (fun _ => Nat.le_refl _)
def cells_t55 (v : S_EdgeResult) : List PVal := [.int .i64 v.Kind, encL 3 enc_Piece v.Pieces, .int .i64 v.At.Depth, .int .i64 v.At.Index, encL 3 enc_arr_3_int64 v.At.Normals, .int .i64 v.Witness.Pair, encL 1 encI_i64 v.Witness.Left, encL 1 encI_i64 v.Witness.Right]
def ok_t55 (v : S_EdgeResult) : Prop := ok_t3 v.Kind ∧ ok_t48 v.Pieces ∧ ok_t51 v.At ∧ ok_t53 v.Witness ∧ True
def bulk_t55 (v : S_EdgeResult) : Nat := (bulk_t3 v.Kind + (bulk_t48 v.Pieces + (bulk_t51 v.At + (bulk_t53 v.Witness + 0)))) + 1
theorem rep_t55 : Rep Tryz.prog 55 cells_t55 ok_t55 bulk_t55 :=
  (rep_struct (fs := [(3, 0), (48, 1), (51, 2), (53, 5)]) (by kernel_rfl) (by kernel_rfl) (by kernel_rfl) (.cons (sz := 1) rep_t3 (by kernel_rfl) (.cons (sz := 1) rep_t48 (by kernel_rfl) (.cons (sz := 3) rep_t51 (by kernel_rfl) (.cons (sz := 3) rep_t53 (by kernel_rfl) .nil))))).map (fun p => ⟨p.1, p.2.1, p.2.2.1, p.2.2.2.1⟩) (fun _ => rfl) (fun _ h => h) (fun _ => Nat.le_refl _)
def cells_t57 (v : S_RoadmapEdge) : List PVal := [.int .i64 v.U, .int .i64 v.V, .int .i64 v.Cost, .int .i64 v.State, .int .i64 v.Proof.Kind, encL 3 enc_Piece v.Proof.Pieces, .int .i64 v.Proof.At.Depth, .int .i64 v.Proof.At.Index, encL 3 enc_arr_3_int64 v.Proof.At.Normals, .int .i64 v.Proof.Witness.Pair, encL 1 encI_i64 v.Proof.Witness.Left, encL 1 encI_i64 v.Proof.Witness.Right]
def ok_t57 (v : S_RoadmapEdge) : Prop := ok_t3 v.U ∧ ok_t3 v.V ∧ ok_t2 v.Cost ∧ ok_t3 v.State ∧ ok_t55 v.Proof ∧ True
def bulk_t57 (v : S_RoadmapEdge) : Nat := (bulk_t3 v.U + (bulk_t3 v.V + (bulk_t2 v.Cost + (bulk_t3 v.State + (bulk_t55 v.Proof + 0))))) + 1
theorem rep_t57 : Rep Tryz.prog 57 cells_t57 ok_t57 bulk_t57 :=
  (rep_struct (fs := [(3, 0), (3, 1), (2, 2), (3, 3), (55, 4)]) (by kernel_rfl) (by kernel_rfl) (by kernel_rfl) (.cons (sz := 1) rep_t3 (by kernel_rfl) (.cons (sz := 1) rep_t3 (by kernel_rfl) (.cons (sz := 1) rep_t2 (by kernel_rfl) (.cons (sz := 1) rep_t3 (by kernel_rfl) (.cons (sz := 8) rep_t55 (by kernel_rfl) .nil)))))).map (fun p => ⟨p.1, p.2.1, p.2.2.1, p.2.2.2.1, p.2.2.2.2.1⟩) (fun _ => rfl) (fun _ h => h) (fun _ => Nat.le_refl _)
def cells_t27 (v : (List S_RoadmapEdge)) : List PVal := [encL 12 enc_RoadmapEdge v]
def ok_t27 (v : (List S_RoadmapEdge)) : Prop := ∀ a ∈ v, ok_t57 a
def bulk_t27 (v : (List S_RoadmapEdge)) : Nat := (v.map bulk_t57).sum + 1
theorem rep_t27 : Rep Tryz.prog 27 cells_t27 ok_t27 bulk_t27 := rep_slice (cells := cells_t57) (enc := enc_RoadmapEdge) (sz := 12) (by kernel_rfl) (by kernel_rfl) (by decide) (fun _ => rfl) (fun _ => rfl) rep_t57
def cells_t29 (v : S_Roadmap) : List PVal := [encL 1 (encL 1 encI_i64) v.Points, encL 12 enc_RoadmapEdge v.Edges]
def ok_t29 (v : S_Roadmap) : Prop := ok_t26 v.Points ∧ ok_t27 v.Edges ∧ True
def bulk_t29 (v : S_Roadmap) : Nat := (bulk_t26 v.Points + (bulk_t27 v.Edges + 0)) + 1
theorem rep_t29 : Rep Tryz.prog 29 cells_t29 ok_t29 bulk_t29 :=
  (rep_struct (fs := [(26, 0), (27, 1)]) (by kernel_rfl) (by kernel_rfl) (by kernel_rfl) (.cons (sz := 1) rep_t26 (by kernel_rfl) (.cons (sz := 1) rep_t27 (by kernel_rfl) .nil))).map (fun p => ⟨p.1, p.2.1⟩) (fun _ => rfl) (fun _ h => h) (fun _ => Nat.le_refl _)
def cells_t30 (v : (List Int)) : List PVal := [encL 1 encI_i64 v]
def ok_t30 (v : (List Int)) : Prop := ∀ a ∈ v, ok_t3 a
def bulk_t30 (v : (List Int)) : Nat := (v.map bulk_t3).sum + 1
theorem rep_t30 : Rep Tryz.prog 30 cells_t30 ok_t30 bulk_t30 := rep_slice (cells := cells_t3) (enc := encI_i64) (sz := 1) (by kernel_rfl) (by kernel_rfl) (by decide) (fun _ => rfl) (fun _ => rfl) rep_t3
theorem and_t {a b : Bool} (h : a = true) (k : b = true) : (a && b) = true := by rw [h, k]; rfl
set_option maxRecDepth 100000 in
theorem closed : joinedFacts Tryz.pinned.checked.prog 5 Tryz.f5 (Rows.OpenSpec.upto Rows.roadmapListsSpec).bare Rows.roadmapListsUptoRow = true := by
  unfold joinedFacts
  exact (and_t (and_t (and_t (and_t (and_t (and_t (and_t (and_t (and_t (and_t (and_t (and_t (and_t (and_t (and_t (and_t (and_t (and_t (and_t (and_t (and_t (and_t (and_t (and_t (and_t (and_t (and_t (and_t (and_t (and_t (and_t jf_wf jf_laid) jf_mapsRowed) jf_params) jf_named) jf_cstops) jf_stops) jf_cknobs) jf_knobs) jf_inPlace) jf_unf) jf_rec) jf_vars) jf_maps) jf_ifaces) jf_mapsOut) jf_loops) jf_wide) jf_varsR) jf_res) jf_ifacesOut) jf_loopsOut) jf_plainKeys) jf_short) jf_heard) jf_mayEnter) jf_lifted) jf_make) jf_kinds) jf_pinned) jf_veiled) jf_fits)
theorem own : ownKnob Tryz.prog.godebug = none := by kernel_rfl
set_option maxRecDepth 100000 in
theorem contract (plain : ∀ (a0 : S_Roadmap) (a1 : Int) (a2 : Int) (a3 : (List Int)), ok_t29 a0 → ok_t3 a1 → ok_t3 a2 → ok_t30 a3 → bulk_t29 a0 + bulk_t3 a1 + bulk_t3 a2 + bulk_t30 a3 ≤ 1048576 → (law25_RoadmapLists_C a0 a1 a2 a3).o = some true) (H : Type) (enc : TypeId × Value → H) (W : World) (base : Nat) (args : Array Value) (ds gs : List (DataW H)) (before : List MemPlace)
    (hval : ∀ (j : Nat) t v, Tryz.f5.params[j]? = some t → args[j]? = some v → Value.okWide Tryz.prog W .any base t v)
    (hW : DataW.Whole enc Tryz.prog Tryz.f5.params.toList Rows.roadmapListsSpec.vars false W args.toList ds gs before) (hk : Rows.uptoSmall H (ds ++ gs) = true) :
    Calls Tryz.prog 5 args W fun e W' => ∃ v, e = .returned v ∧ Rows.roadmapListsSpec.post enc Tryz.prog Tryz.f5 false true false false W args v W' := by
  have hW' := hW
  obtain ⟨p, q, hA0, hV, rfl, hfz, hnd⟩ := hW
  have hA : DataW.TrodAll enc Tryz.prog W 0 (fun _ => true) true Tryz.f5.params.toList args.toList ds p := hA0
  rw [Tryz.params5] at hA hval
  obtain ⟨v0, vs0, d0, ds0, p0, q0, hargs, rfl, rfl, h0, r0⟩ := trodAll_cons hA
  obtain ⟨v1, vs1, d1, ds1, p1, q1, hargs1, rfl, rfl, h1, r1⟩ := trodAll_cons r0
  subst hargs1
  obtain ⟨v2, vs2, d2, ds2, p2, q2, hargs2, rfl, rfl, h2, r2⟩ := trodAll_cons r1
  subst hargs2
  obtain ⟨v3, vs3, d3, ds3, p3, q3, hargs3, rfl, rfl, h3, r3⟩ := trodAll_cons r2
  subst hargs3
  obtain ⟨rfl, rfl, rfl⟩ := trodAll_nil r3
  obtain rfl : args = #[v0, v1, v2, v3] := by cases args; simp_all
  obtain ⟨rfl, rfl⟩ := trodVars_none hV
  obtain ⟨n0, h0⟩ := h0
  obtain ⟨a0, c0, o0, b0⟩ := rep_t29 H enc W _ _ _ h0
  obtain ⟨n1, h1⟩ := h1
  obtain ⟨a1, c1, o1, b1⟩ := rep_t3 H enc W _ _ _ h1
  obtain ⟨n2, h2⟩ := h2
  obtain ⟨a2, c2, o2, b2⟩ := rep_t3 H enc W _ _ _ h2
  obtain ⟨n3, h3⟩ := h3
  obtain ⟨a3, c3, o3, b3⟩ := rep_t30 H enc W _ _ _ h3
  have hb : Rows.uptoBulkAll ([d0, d1, d2, d3] ++ [] : List (DataW H)) ≤ 1048576 := of_decide_eq_true hk
  simp only [List.append_nil, Rows.uptoBulkAll] at hb
  have htrue := plain a0 a1 a2 a3 o0 o1 o2 o3 (by simp only at b0 b1 b2 b3; omega)
  refine post_of_spec (bt := 4) ((law25_RoadmapLists_C a0 a1 a2 a3).ok _ htrue) (fun ρ => arels_cons (agg_val (P := Tryz.prog) (hval 0 29 v0 rfl rfl) (by kernel_rfl) c0) (arels_cons (one_val (P := Tryz.prog) (hval 1 3 v1 rfl rfl) (by kernel_rfl) c1) (arels_cons (one_val (P := Tryz.prog) (hval 2 3 v2 rfl rfl) (by kernel_rfl) c2) (arels_cons (one_val (P := Tryz.prog) (hval 3 30 v3 rfl rfl) (by kernel_rfl) c3) (arels_nil))))) hW' rfl rfl (by kernel_rfl) (by kernel_rfl) (slices_full_of _ (by kernel_rfl)) ?_ (by kernel_rfl) (by kernel_rfl)
  have hs : Tryz.prog.types.size = 243 := by kernel_rfl
  rw [Tryz.params5, hs]; simp only [List.mem_cons, List.not_mem_nil, or_false]
  rintro t (rfl | rfl | rfl | rfl) <;> decide
set_option maxRecDepth 100000 in
theorem lifted (plain : ∀ (a0 : S_Roadmap) (a1 : Int) (a2 : Int) (a3 : (List Int)), ok_t29 a0 → ok_t3 a1 → ok_t3 a2 → ok_t30 a3 → bulk_t29 a0 + bulk_t3 a1 + bulk_t3 a2 + bulk_t30 a3 ≤ 1048576 → (law25_RoadmapLists_C a0 a1 a2 a3).o = some true) (os : Os) (started : os.Started) (H : Type) (enc : TypeId × Value → H) (F : Stop.Interp) :
    ReturnsInHanded {} Tryz.checked os 5 .any ((Rows.OpenSpec.upto Rows.roadmapListsSpec).pre6 enc Tryz.prog Tryz.f5 Rows.roadmapListsUptoRow.domain false) (((Rows.OpenSpec.upto Rows.roadmapListsSpec).at F).post enc Tryz.prog Tryz.f5 false true false false) := by
  refine returnsInHanded_of_cond (C := Tryz.checked) (s := Rows.OpenSpec.upto Rows.roadmapListsSpec) (k := Rows.uptoSmall) rfl own started (by kernel_rfl) Tryz.func5
    (OpenSpec.witness (enc := enc) (C := Tryz.checked) (s := Rows.OpenSpec.upto Rows.roadmapListsSpec) (k := Rows.uptoSmall) rfl false ⟨#[], #[.agg #[.slice none 0 0, .slice none 0 0], .int .i64 0, .int .i64 0, .slice none 0 0], []⟩ 8 (by kernel_rfl) (by kernel_rfl) (by kernel_rfl)
      (x := ([.agg [.nil, .nil], .lit (.int .i64 0), .lit (.int .i64 0), .nil], [], [])) (by kernel_rfl) rfl (by kernel_rfl)) ?_
  intro W base args ds gs before hval hW _ hk _
  exact contract plain H enc W base args ds gs before hval hW hk
theorem over (plain : ∀ (a0 : S_Roadmap) (a1 : Int) (a2 : Int) (a3 : (List Int)), ok_t29 a0 → ok_t3 a1 → ok_t3 a2 → ok_t30 a3 → bulk_t29 a0 + bulk_t3 a1 + bulk_t3 a2 + bulk_t30 a3 ≤ 1048576 → (law25_RoadmapLists_C a0 a1 a2 a3).o = some true) : Rows.roadmapListsUptoRow.holds Tryz.pinned (Rows.OpenSpec.upto Rows.roadmapListsSpec) :=
  OpenClaim.holds_of_cond 5 Tryz.f5 rfl rfl rfl rfl rfl rfl rfl ⟨rfl, rfl, rfl, rfl, rfl⟩ rfl rfl rfl rfl rfl (by kernel_rfl) Tryz.func5 closed
    (of_decide_eq_true (by kernel_rfl)) (by unfold Func.isWrapper; first | (rw [if_pos (by decide +kernel)]; kernel_rfl) | (rw [if_neg (by decide +kernel)]; exact ⟨rfl, rfl⟩))
    (fun os started H enc _ F => lifted plain os started H enc F)
end roadmapLists
end Go.Abs
