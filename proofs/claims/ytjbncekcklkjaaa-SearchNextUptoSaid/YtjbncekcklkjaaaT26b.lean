/-
  SearchNext: the given statement out of the specification and the plain law.
-/
import Derived.Test.YtjbncekcklkjaaaTop
import Derived.Test.YtjbncekcklkjaaaS4
namespace Go.Abs
open Go.Proofs Go.Proofs.Ytjbncekcklkjaaa Go.ChangeShapes Go.WideShapes Go.ChangeAt Go.RowKit
namespace searchNext
def cells_t2 (v : Int) : List PVal := [.int .i64 v]
def ok_t2 (v : Int) : Prop := (Lit.int .i64 v).wf = true
def bulk_t2 (_ : Int) : Nat := 1
theorem rep_t2 : Rep Try.prog 2 cells_t2 ok_t2 bulk_t2 := rep_int (by kernel_rfl)
def cells_t65 (v : (List Int)) : List PVal := [encL 1 encI_i64 v]
def ok_t65 (v : (List Int)) : Prop := ∀ a ∈ v, ok_t2 a
def bulk_t65 (v : (List Int)) : Nat := (v.map bulk_t2).sum + 1
theorem rep_t65 : Rep Try.prog 65 cells_t65 ok_t65 bulk_t65 := rep_slice (cells := cells_t2) (enc := encI_i64) (sz := 1) (by kernel_rfl) (by kernel_rfl) (by decide) (fun _ => rfl) (fun _ => rfl) rep_t2
def cells_t49 (v : (List (List Int))) : List PVal := [encL 1 (encL 1 encI_i64) v]
def ok_t49 (v : (List (List Int))) : Prop := ∀ a ∈ v, ok_t65 a
def bulk_t49 (v : (List (List Int))) : Nat := (v.map bulk_t65).sum + 1
theorem rep_t49 : Rep Try.prog 49 cells_t49 ok_t49 bulk_t49 := rep_slice (cells := cells_t65) (enc := (encL 1 encI_i64)) (sz := 1) (by kernel_rfl) (by kernel_rfl) (by decide) (fun _ => rfl) (fun _ => rfl) rep_t65
def cells_t3 (v : Int) : List PVal := [.int .i64 v]
def ok_t3 (v : Int) : Prop := (Lit.int .i64 v).wf = true
def bulk_t3 (_ : Int) : Nat := 1
theorem rep_t3 : Rep Try.prog 3 cells_t3 ok_t3 bulk_t3 := rep_int (by kernel_rfl)
def cells_t39 (v : (Int × Int × Int)) : List PVal := [.int .i64 v.1, .int .i64 v.2.1, .int .i64 v.2.2]
def ok_t39 (v : (Int × Int × Int)) : Prop := ok_t2 v.1 ∧ ok_t2 v.2.1 ∧ ok_t2 v.2.2 ∧ True
def bulk_t39 (v : (Int × Int × Int)) : Nat := (bulk_t2 v.1 + (bulk_t2 v.2.1 + (bulk_t2 v.2.2 + 0))) + 1
theorem rep_t39 : Rep Try.prog 39 cells_t39 ok_t39 bulk_t39 :=
  (rep_array (e := 2) (n := 3) (sz := 1) (fs := [(2, 0), (2, 1), (2, 2)]) (by kernel_rfl) (by kernel_rfl) (by kernel_rfl) (by kernel_rfl) (.cons (sz := 1) rep_t2 (by kernel_rfl) (.cons (sz := 1) rep_t2 (by kernel_rfl) (.cons (sz := 1) rep_t2 (by kernel_rfl) .nil)))).map (fun p => (p.1, p.2.1, p.2.2.1)) (fun _ => rfl) (fun _ h => h) (fun _ => Nat.le_refl _)
def cells_t23 (v : (List (Int × Int × Int))) : List PVal := [encL 3 enc_arr_3_int64 v]
def ok_t23 (v : (List (Int × Int × Int))) : Prop := ∀ a ∈ v, ok_t39 a
def bulk_t23 (v : (List (Int × Int × Int))) : Nat := (v.map bulk_t39).sum + 1
theorem rep_t23 : Rep Try.prog 23 cells_t23 ok_t23 bulk_t23 := rep_slice (cells := cells_t39) (enc := enc_arr_3_int64) (sz := 3) (by kernel_rfl) (by kernel_rfl) (by decide) (fun _ => rfl) (fun _ => rfl) rep_t39
def cells_t45 (v : S_Piece) : List PVal := [.int .i64 v.Depth, .int .i64 v.Index, encL 3 enc_arr_3_int64 v.Normals]
def ok_t45 (v : S_Piece) : Prop := ok_t3 v.Depth ∧ ok_t2 v.Index ∧ ok_t23 v.Normals ∧ True
def bulk_t45 (v : S_Piece) : Nat := (bulk_t3 v.Depth + (bulk_t2 v.Index + (bulk_t23 v.Normals + 0))) + 1
theorem rep_t45 : Rep Try.prog 45 cells_t45 ok_t45 bulk_t45 :=
  (rep_struct (fs := [(3, 0), (2, 1), (23, 2)]) (by kernel_rfl) (by kernel_rfl) (by kernel_rfl) (.cons (sz := 1) rep_t3 (by kernel_rfl) (.cons (sz := 1) rep_t2 (by kernel_rfl) (.cons (sz := 1) rep_t23 (by kernel_rfl) .nil)))).map (fun p => ⟨p.1, p.2.1, p.2.2.1⟩) (fun _ => rfl) (fun _ h => h) (fun _ => Nat.le_refl _)
def cells_t22 (v : (List S_Piece)) : List PVal := [encL 3 enc_Piece v]
def ok_t22 (v : (List S_Piece)) : Prop := ∀ a ∈ v, ok_t45 a
def bulk_t22 (v : (List S_Piece)) : Nat := (v.map bulk_t45).sum + 1
theorem rep_t22 : Rep Try.prog 22 cells_t22 ok_t22 bulk_t22 := rep_slice (cells := cells_t45) (enc := enc_Piece) (sz := 3) (by kernel_rfl) (by kernel_rfl) (by decide) (fun _ => rfl) (fun _ => rfl) rep_t45
def cells_t67 (v : S_Witness) : List PVal := [.int .i64 v.Pair, encL 1 encI_i64 v.Left, encL 1 encI_i64 v.Right]
def ok_t67 (v : S_Witness) : Prop := ok_t3 v.Pair ∧ ok_t65 v.Left ∧ ok_t65 v.Right ∧ True
def bulk_t67 (v : S_Witness) : Nat := (bulk_t3 v.Pair + (bulk_t65 v.Left + (bulk_t65 v.Right + 0))) + 1
theorem rep_t67 : Rep Try.prog 67 cells_t67 ok_t67 bulk_t67 :=
  (rep_struct (fs := [(3, 0), (65, 1), (65, 2)]) (by kernel_rfl) (by kernel_rfl) (by kernel_rfl) (.cons (sz := 1) rep_t3 (by kernel_rfl) (.cons (sz := 1) rep_t65 (by kernel_rfl) (.cons (sz := 1) rep_t65 (by kernel_rfl) .nil)))).map (fun p => ⟨p.1, p.2.1, p.2.2.1⟩) (fun _ => rfl) (fun _ h => h) (fun _ => Nat.le_refl _)
def cells_t69 (v : S_EdgeResult) : List PVal := [.int .i64 v.Kind, encL 3 enc_Piece v.Pieces, .int .i64 v.At.Depth, .int .i64 v.At.Index, encL 3 enc_arr_3_int64 v.At.Normals, .int .i64 v.Witness.Pair, encL 1 encI_i64 v.Witness.Left, encL 1 encI_i64 v.Witness.Right]
def ok_t69 (v : S_EdgeResult) : Prop := ok_t3 v.Kind ∧ ok_t22 v.Pieces ∧ ok_t45 v.At ∧ ok_t67 v.Witness ∧ True
def bulk_t69 (v : S_EdgeResult) : Nat := (bulk_t3 v.Kind + (bulk_t22 v.Pieces + (bulk_t45 v.At + (bulk_t67 v.Witness + 0)))) + 1
theorem rep_t69 : Rep Try.prog 69 cells_t69 ok_t69 bulk_t69 :=
  (rep_struct (fs := [(3, 0), (22, 1), (45, 2), (67, 5)]) (by kernel_rfl) (by kernel_rfl) (by kernel_rfl) (.cons (sz := 1) rep_t3 (by kernel_rfl) (.cons (sz := 1) rep_t22 (by kernel_rfl) (.cons (sz := 3) rep_t45 (by kernel_rfl) (.cons (sz := 3) rep_t67 (by kernel_rfl) .nil))))).map (fun p => ⟨p.1, p.2.1, p.2.2.1, p.2.2.2.1⟩) (fun _ => rfl) (fun _ h => h) (fun _ => Nat.le_refl _)
def cells_t71 (v : S_RoadmapEdge) : List PVal := [.int .i64 v.U, .int .i64 v.V, .int .i64 v.Cost, .int .i64 v.State, .int .i64 v.Proof.Kind, encL 3 enc_Piece v.Proof.Pieces, .int .i64 v.Proof.At.Depth, .int .i64 v.Proof.At.Index, encL 3 enc_arr_3_int64 v.Proof.At.Normals, .int .i64 v.Proof.Witness.Pair, encL 1 encI_i64 v.Proof.Witness.Left, encL 1 encI_i64 v.Proof.Witness.Right]
def ok_t71 (v : S_RoadmapEdge) : Prop := ok_t3 v.U ∧ ok_t3 v.V ∧ ok_t2 v.Cost ∧ ok_t3 v.State ∧ ok_t69 v.Proof ∧ True
def bulk_t71 (v : S_RoadmapEdge) : Nat := (bulk_t3 v.U + (bulk_t3 v.V + (bulk_t2 v.Cost + (bulk_t3 v.State + (bulk_t69 v.Proof + 0))))) + 1
theorem rep_t71 : Rep Try.prog 71 cells_t71 ok_t71 bulk_t71 :=
  (rep_struct (fs := [(3, 0), (3, 1), (2, 2), (3, 3), (69, 4)]) (by kernel_rfl) (by kernel_rfl) (by kernel_rfl) (.cons (sz := 1) rep_t3 (by kernel_rfl) (.cons (sz := 1) rep_t3 (by kernel_rfl) (.cons (sz := 1) rep_t2 (by kernel_rfl) (.cons (sz := 1) rep_t3 (by kernel_rfl) (.cons (sz := 8) rep_t69 (by kernel_rfl) .nil)))))).map (fun p => ⟨p.1, p.2.1, p.2.2.1, p.2.2.2.1, p.2.2.2.2.1⟩) (fun _ => rfl) (fun _ h => h) (fun _ => Nat.le_refl _)
def cells_t50 (v : (List S_RoadmapEdge)) : List PVal := [encL 12 enc_RoadmapEdge v]
def ok_t50 (v : (List S_RoadmapEdge)) : Prop := ∀ a ∈ v, ok_t71 a
def bulk_t50 (v : (List S_RoadmapEdge)) : Nat := (v.map bulk_t71).sum + 1
theorem rep_t50 : Rep Try.prog 50 cells_t50 ok_t50 bulk_t50 := rep_slice (cells := cells_t71) (enc := enc_RoadmapEdge) (sz := 12) (by kernel_rfl) (by kernel_rfl) (by decide) (fun _ => rfl) (fun _ => rfl) rep_t71
def cells_t52 (v : S_Roadmap) : List PVal := [encL 1 (encL 1 encI_i64) v.Points, encL 12 enc_RoadmapEdge v.Edges]
def ok_t52 (v : S_Roadmap) : Prop := ok_t49 v.Points ∧ ok_t50 v.Edges ∧ True
def bulk_t52 (v : S_Roadmap) : Nat := (bulk_t49 v.Points + (bulk_t50 v.Edges + 0)) + 1
theorem rep_t52 : Rep Try.prog 52 cells_t52 ok_t52 bulk_t52 :=
  (rep_struct (fs := [(49, 0), (50, 1)]) (by kernel_rfl) (by kernel_rfl) (by kernel_rfl) (.cons (sz := 1) rep_t49 (by kernel_rfl) (.cons (sz := 1) rep_t50 (by kernel_rfl) .nil))).map (fun p => ⟨p.1, p.2.1⟩) (fun _ => rfl) (fun _ h => h) (fun _ => Nat.le_refl _)
def cells_t27 (v : (List Int)) : List PVal := [encL 1 encI_i64 v]
def ok_t27 (v : (List Int)) : Prop := ∀ a ∈ v, ok_t3 a
def bulk_t27 (v : (List Int)) : Nat := (v.map bulk_t3).sum + 1
theorem rep_t27 : Rep Try.prog 27 cells_t27 ok_t27 bulk_t27 := rep_slice (cells := cells_t3) (enc := encI_i64) (sz := 1) (by kernel_rfl) (by kernel_rfl) (by decide) (fun _ => rfl) (fun _ => rfl) rep_t3
theorem own : ownKnob Try.prog.godebug = none := by kernel_rfl
set_option maxRecDepth 100000 in
theorem contract (plain : ∀ (a0 : S_Roadmap) (a1 : Int) (a2 : Int) (a3 : (List Int)), ok_t52 a0 → ok_t3 a1 → ok_t3 a2 → ok_t27 a3 → bulk_t52 a0 + bulk_t3 a1 + bulk_t3 a2 + bulk_t27 a3 ≤ 1048576 → law26_SearchNext_F 4294967296 a0 a1 a2 a3 = some true) (H : Type) (enc : TypeId × Value → H) (W : World) (base : Nat) (args : Array Value) (ds gs : List (DataW H)) (before : List MemPlace)
    (hval : ∀ (j : Nat) t v, Try.f7.params[j]? = some t → args[j]? = some v → Value.okWide Try.prog W .any base t v)
    (hW : DataW.Whole enc Try.prog Try.f7.params.toList Rows.searchNextSpec.vars false W args.toList ds gs before) (hk : Rows.uptoSmall H (ds ++ gs) = true) :
    Calls Try.prog 7 args W fun e W' => ∃ v, e = .returned v ∧ Rows.searchNextSpec.post enc Try.prog Try.f7 false true false false W args v W' := by
  have hW' := hW
  obtain ⟨p, q, hA0, hV, rfl, hfz, hnd⟩ := hW
  have hA : DataW.TrodAll enc Try.prog W 0 (fun _ => true) true Try.f7.params.toList args.toList ds p := hA0
  rw [Try.params7] at hA hval
  obtain ⟨v0, vs0, d0, ds0, p0, q0, hargs, rfl, rfl, h0, r0⟩ := trodAll_cons hA
  obtain ⟨v1, vs1, d1, ds1, p1, q1, hargs1, rfl, rfl, h1, r1⟩ := trodAll_cons r0
  subst hargs1
  obtain ⟨v2, vs2, d2, ds2, p2, q2, hargs2, rfl, rfl, h2, r2⟩ := trodAll_cons r1
  subst hargs2
  obtain ⟨v3, vs3, d3, ds3, p3, q3, hargs3, rfl, rfl, h3, r3⟩ := trodAll_cons r2
  subst hargs3
  obtain ⟨rfl, rfl, rfl⟩ := trodAll_nil r3
  obtain rfl : args = #[v0, v1, v2, v3] := by cases args; simp_all
  obtain ⟨rfl, rfl⟩ := trodVars_none hV
  obtain ⟨n0, h0⟩ := h0
  obtain ⟨a0, c0, o0, b0⟩ := rep_t52 H enc W _ _ _ h0
  obtain ⟨n1, h1⟩ := h1
  obtain ⟨a1, c1, o1, b1⟩ := rep_t3 H enc W _ _ _ h1
  obtain ⟨n2, h2⟩ := h2
  obtain ⟨a2, c2, o2, b2⟩ := rep_t3 H enc W _ _ _ h2
  obtain ⟨n3, h3⟩ := h3
  obtain ⟨a3, c3, o3, b3⟩ := rep_t27 H enc W _ _ _ h3
  have hb : Rows.uptoBulkAll ([d0, d1, d2, d3] ++ [] : List (DataW H)) ≤ 1048576 := of_decide_eq_true hk
  simp only [List.append_nil, Rows.uptoBulkAll] at hb
  have htrue := plain a0 a1 a2 a3 o0 o1 o2 o3 (by simp only at b0 b1 b2 b3; omega)
  refine post_of_spec (bt := 4) (law26_SearchNext_spec (draw_sound (by kernel_rfl)) htrue) (fun ρ => arels_cons (agg_val (P := Try.prog) (hval 0 52 v0 rfl rfl) (by kernel_rfl) c0) (arels_cons (one_val (P := Try.prog) (hval 1 3 v1 rfl rfl) (by kernel_rfl) c1) (arels_cons (one_val (P := Try.prog) (hval 2 3 v2 rfl rfl) (by kernel_rfl) c2) (arels_cons (one_val (P := Try.prog) (hval 3 27 v3 rfl rfl) (by kernel_rfl) c3) (arels_nil))))) hW' rfl rfl (by kernel_rfl) (by kernel_rfl) (slices_full_of _ (by kernel_rfl)) ?_ (by kernel_rfl) (by kernel_rfl)
  have hs : Try.prog.types.size = 143 := by kernel_rfl
  rw [Try.params7, hs]; simp only [List.mem_cons, List.not_mem_nil, or_false]
  rintro t (rfl | rfl | rfl | rfl) <;> decide
set_option maxRecDepth 100000 in
theorem lifted (plain : ∀ (a0 : S_Roadmap) (a1 : Int) (a2 : Int) (a3 : (List Int)), ok_t52 a0 → ok_t3 a1 → ok_t3 a2 → ok_t27 a3 → bulk_t52 a0 + bulk_t3 a1 + bulk_t3 a2 + bulk_t27 a3 ≤ 1048576 → law26_SearchNext_F 4294967296 a0 a1 a2 a3 = some true) (os : Os) (started : os.Started) (H : Type) (enc : TypeId × Value → H) (F : Stop.Interp) :
    ReturnsInHanded {} Try.checked os 7 .any ((Rows.OpenSpec.upto Rows.searchNextSpec).pre6 enc Try.prog Try.f7 Rows.searchNextUptoRow.domain false) (((Rows.OpenSpec.upto Rows.searchNextSpec).at F).post enc Try.prog Try.f7 false true false false) := by
  refine returnsInHanded_of_cond (C := Try.checked) (s := Rows.OpenSpec.upto Rows.searchNextSpec) (k := Rows.uptoSmall) rfl own started (by kernel_rfl) Try.func7
    (OpenSpec.witness (enc := enc) (C := Try.checked) (s := Rows.OpenSpec.upto Rows.searchNextSpec) (k := Rows.uptoSmall) rfl false ⟨#[], #[.agg #[.slice none 0 0, .slice none 0 0], .int .i64 0, .int .i64 0, .slice none 0 0], []⟩ 8 (by kernel_rfl) (by kernel_rfl) (by kernel_rfl)
      (x := ([.agg [.nil, .nil], .lit (.int .i64 0), .lit (.int .i64 0), .nil], [], [])) (by kernel_rfl) rfl (by kernel_rfl)) ?_
  intro W base args ds gs before hval hW _ hk _
  exact contract plain H enc W base args ds gs before hval hW hk
theorem over (plain : ∀ (a0 : S_Roadmap) (a1 : Int) (a2 : Int) (a3 : (List Int)), ok_t52 a0 → ok_t3 a1 → ok_t3 a2 → ok_t27 a3 → bulk_t52 a0 + bulk_t3 a1 + bulk_t3 a2 + bulk_t27 a3 ≤ 1048576 → law26_SearchNext_F 4294967296 a0 a1 a2 a3 = some true) : Rows.searchNextUptoRow.holds Try.pinned (Rows.OpenSpec.upto Rows.searchNextSpec) :=
  OpenClaim.holds_of_cond 7 Try.f7 rfl rfl rfl rfl rfl rfl rfl ⟨rfl, rfl, rfl, rfl, rfl⟩ rfl rfl rfl rfl rfl (by kernel_rfl) Try.func7 (by kernel_rfl)
    (of_decide_eq_true (by kernel_rfl)) (by unfold Func.isWrapper; first | (rw [if_pos (by decide +kernel)]; kernel_rfl) | (rw [if_neg (by decide +kernel)]; exact ⟨rfl, rfl⟩))
    (fun os started H enc _ F => lifted plain os started H enc F)
end searchNext
end Go.Abs
