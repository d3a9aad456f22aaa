/-
  TPathJoins (a part of a claim: our own text).
-/
import Derived.Test.YtomogglfhepnmaaGreatXHTop
import Derived.Test.YtomogglfhepnmaaGreatXHD3
import Derived.Test.YtomogglfhepnmaaGreatXHJPathJoinsb
namespace Go.Abs
open Go.Proofs Go.Proofs.YtomogglfhepnmaaGreat Go.ChangeShapes Go.WideShapes Go.ChangeAt Go.RowKit
namespace pathJoins
def cells_t2 (v : Int) : List PVal := [.int .i64 v]
def ok_t2 (v : Int) : Prop := (Lit.int .i64 v).wf = true
def bulk_t2 (_ : Int) : Nat := 1
theorem rep_t2 : Rep Tryz.prog 2 cells_t2 ok_t2 bulk_t2 := rep_int (by kernel_rfl)
def cells_t31 (v : (List Int)) : List PVal := [encL 1 encI_i64 v]
def ok_t31 (v : (List Int)) : Prop := ∀ a ∈ v, ok_t2 a
def bulk_t31 (v : (List Int)) : Nat := (v.map bulk_t2).sum + 1
theorem rep_t31 : Rep Tryz.prog 31 cells_t31 ok_t31 bulk_t31 := rep_slice (cells := cells_t2) (enc := encI_i64) (sz := 1) (by kernel_rfl) (by kernel_rfl) (by decide) (fun _ => rfl) (fun _ => rfl) rep_t2
def cells_t53 (v : (List (List Int))) : List PVal := [encL 1 (encL 1 encI_i64) v]
def ok_t53 (v : (List (List Int))) : Prop := ∀ a ∈ v, ok_t31 a
def bulk_t53 (v : (List (List Int))) : Nat := (v.map bulk_t31).sum + 1
theorem rep_t53 : Rep Tryz.prog 53 cells_t53 ok_t53 bulk_t53 := rep_slice (cells := cells_t31) (enc := (encL 1 encI_i64)) (sz := 1) (by kernel_rfl) (by kernel_rfl) (by decide) (fun _ => rfl) (fun _ => rfl) rep_t31
def cells_t102 (v : (Int × Int × Int)) : List PVal := [.int .i64 v.1, .int .i64 v.2.1, .int .i64 v.2.2]
def ok_t102 (v : (Int × Int × Int)) : Prop := ok_t2 v.1 ∧ ok_t2 v.2.1 ∧ ok_t2 v.2.2 ∧ True
def bulk_t102 (v : (Int × Int × Int)) : Nat := (bulk_t2 v.1 + (bulk_t2 v.2.1 + (bulk_t2 v.2.2 + 0))) + 1
theorem rep_t102 : Rep Tryz.prog 102 cells_t102 ok_t102 bulk_t102 :=
  (rep_array (e := 2) (n := 3) (sz := 1) (fs := [(2, 0), (2, 1), (2, 2)]) (by kernel_rfl) (by kernel_rfl) (by kernel_rfl) (by kernel_rfl) (.cons (sz := 1) rep_t2 (by kernel_rfl) (.cons (sz := 1) rep_t2 (by kernel_rfl) (.cons (sz := 1) rep_t2 (by kernel_rfl) .nil)))).map (fun p => (p.1, p.2.1, p.2.2.1)) (fun _ => rfl) (fun _ h => h) (fun _ => Nat.le_refl _)
def cells_t35 (v : (List (Int × Int × Int))) : List PVal := [encL 3 enc_arr_3_int64 v]
def ok_t35 (v : (List (Int × Int × Int))) : Prop := ∀ a ∈ v, ok_t102 a
def bulk_t35 (v : (List (Int × Int × Int))) : Nat := (v.map bulk_t102).sum + 1
theorem rep_t35 : Rep Tryz.prog 35 cells_t35 ok_t35 bulk_t35 := rep_slice (cells := cells_t102) (enc := enc_arr_3_int64) (sz := 3) (by kernel_rfl) (by kernel_rfl) (by decide) (fun _ => rfl) (fun _ => rfl) rep_t102
def cells_t3 (v : Int) : List PVal := [.int .i64 v]
def ok_t3 (v : Int) : Prop := (Lit.int .i64 v).wf = true
def bulk_t3 (_ : Int) : Nat := 1
theorem rep_t3 : Rep Tryz.prog 3 cells_t3 ok_t3 bulk_t3 := rep_int (by kernel_rfl)
def cells_t22 (v : (List Int)) : List PVal := [encL 1 encI_i64 v]
def ok_t22 (v : (List Int)) : Prop := ∀ a ∈ v, ok_t3 a
def bulk_t22 (v : (List Int)) : Nat := (v.map bulk_t3).sum + 1
theorem rep_t22 : Rep Tryz.prog 22 cells_t22 ok_t22 bulk_t22 := rep_slice (cells := cells_t3) (enc := encI_i64) (sz := 1) (by kernel_rfl) (by kernel_rfl) (by decide) (fun _ => rfl) (fun _ => rfl) rep_t3
def cells_t154 (v : S_Use) : List PVal := [.int .i64 v.Depth, .int .i64 v.Index, encL 1 encI_i64 v.Numbers]
def ok_t154 (v : S_Use) : Prop := ok_t3 v.Depth ∧ ok_t2 v.Index ∧ ok_t22 v.Numbers ∧ True
def bulk_t154 (v : S_Use) : Nat := (bulk_t3 v.Depth + (bulk_t2 v.Index + (bulk_t22 v.Numbers + 0))) + 1
theorem rep_t154 : Rep Tryz.prog 154 cells_t154 ok_t154 bulk_t154 :=
  (rep_struct (fs := [(3, 0), (2, 1), (22, 2)]) (by kernel_rfl) (by kernel_rfl) (by kernel_rfl) (.cons (sz := 1) rep_t3 (by kernel_rfl) (.cons (sz := 1) rep_t2 (by kernel_rfl) (.cons (sz := 1) rep_t22 (by kernel_rfl) .nil)))).map (fun p => ⟨p.1, p.2.1, p.2.2.1⟩) (fun _ => rfl) (fun _ h => h) (fun _ => Nat.le_refl _)
def cells_t77 (v : (List S_Use)) : List PVal := [encL 3 enc_Use v]
def ok_t77 (v : (List S_Use)) : Prop := ∀ a ∈ v, ok_t154 a
def bulk_t77 (v : (List S_Use)) : Nat := (v.map bulk_t154).sum + 1
theorem rep_t77 : Rep Tryz.prog 77 cells_t77 ok_t77 bulk_t77 := rep_slice (cells := cells_t154) (enc := enc_Use) (sz := 3) (by kernel_rfl) (by kernel_rfl) (by decide) (fun _ => rfl) (fun _ => rfl) rep_t154
def cells_t79 (v : S_Packed) : List PVal := [encL 3 enc_arr_3_int64 v.Table, encL 3 enc_Use v.Uses]
def ok_t79 (v : S_Packed) : Prop := ok_t35 v.Table ∧ ok_t77 v.Uses ∧ True
def bulk_t79 (v : S_Packed) : Nat := (bulk_t35 v.Table + (bulk_t77 v.Uses + 0)) + 1
theorem rep_t79 : Rep Tryz.prog 79 cells_t79 ok_t79 bulk_t79 :=
  (rep_struct (fs := [(35, 0), (77, 1)]) (by kernel_rfl) (by kernel_rfl) (by kernel_rfl) (.cons (sz := 1) rep_t35 (by kernel_rfl) (.cons (sz := 1) rep_t77 (by kernel_rfl) .nil))).map (fun p => ⟨p.1, p.2.1⟩) (fun _ => rfl) (fun _ h => h) (fun _ => Nat.le_refl _)
def cells_t56 (v : (List S_Packed)) : List PVal := [encL 2 enc_Packed v]
def ok_t56 (v : (List S_Packed)) : Prop := ∀ a ∈ v, ok_t79 a
def bulk_t56 (v : (List S_Packed)) : Nat := (v.map bulk_t79).sum + 1
theorem rep_t56 : Rep Tryz.prog 56 cells_t56 ok_t56 bulk_t56 := rep_slice (cells := cells_t79) (enc := enc_Packed) (sz := 2) (by kernel_rfl) (by kernel_rfl) (by decide) (fun _ => rfl) (fun _ => rfl) rep_t79
def cells_t58 (v : S_Path) : List PVal := [encL 1 (encL 1 encI_i64) v.Points, encL 2 enc_Packed v.Edges]
def ok_t58 (v : S_Path) : Prop := ok_t53 v.Points ∧ ok_t56 v.Edges ∧ True
def bulk_t58 (v : S_Path) : Nat := (bulk_t53 v.Points + (bulk_t56 v.Edges + 0)) + 1
theorem rep_t58 : Rep Tryz.prog 58 cells_t58 ok_t58 bulk_t58 :=
  (rep_struct (fs := [(53, 0), (56, 1)]) (by kernel_rfl) (by kernel_rfl) (by kernel_rfl) (.cons (sz := 1) rep_t53 (by kernel_rfl) (.cons (sz := 1) rep_t56 (by kernel_rfl) .nil))).map (fun p => ⟨p.1, p.2.1⟩) (fun _ => rfl) (fun _ h => h) (fun _ => Nat.le_refl _)
theorem and_t {a b : Bool} (h : a = true) (k : b = true) : (a && b) = true := by rw [h, k]; rfl
set_option maxRecDepth 100000 in
theorem closed : joinedFacts Tryz.pinned.checked.prog 10 Tryz.f10 (Rows.OpenSpec.upto Rows.pathJoinsSpec).bare Rows.pathJoinsUptoRow = true := by
  unfold joinedFacts
  exact (and_t (and_t (and_t (and_t (and_t (and_t (and_t (and_t (and_t (and_t (and_t (and_t (and_t (and_t (and_t (and_t (and_t (and_t (and_t (and_t (and_t (and_t (and_t (and_t (and_t (and_t (and_t (and_t (and_t (and_t (and_t jf_wf jf_laid) jf_mapsRowed) jf_params) jf_named) jf_cstops) jf_stops) jf_cknobs) jf_knobs) jf_inPlace) jf_unf) jf_rec) jf_vars) jf_maps) jf_ifaces) jf_mapsOut) jf_loops) jf_wide) jf_varsR) jf_res) jf_ifacesOut) jf_loopsOut) jf_plainKeys) jf_short) jf_heard) jf_mayEnter) jf_lifted) jf_make) jf_kinds) jf_pinned) jf_veiled) jf_fits)
theorem own : ownKnob Tryz.prog.godebug = none := by kernel_rfl
set_option maxRecDepth 100000 in
theorem contract (plain : ∀ (a0 : S_Path) (a1 : S_Path) (a2 : (List Int)) (a3 : (List Int)) (a4 : Int) (a5 : Int), ok_t58 a0 → ok_t58 a1 → ok_t22 a2 → ok_t22 a3 → ok_t3 a4 → ok_t3 a5 → bulk_t58 a0 + bulk_t58 a1 + bulk_t22 a2 + bulk_t22 a3 + bulk_t3 a4 + bulk_t3 a5 ≤ 1048576 → (law22_PathJoins_C a0 a1 a2 a3 a4 a5).o = some true) (H : Type) (enc : TypeId × Value → H) (W : World) (base : Nat) (args : Array Value) (ds gs : List (DataW H)) (before : List MemPlace)
    (hval : ∀ (j : Nat) t v, Tryz.f10.params[j]? = some t → args[j]? = some v → Value.okWide Tryz.prog W .any base t v)
    (hW : DataW.Whole enc Tryz.prog Tryz.f10.params.toList Rows.pathJoinsSpec.vars false W args.toList ds gs before) (hk : Rows.uptoSmall H (ds ++ gs) = true) :
    Calls Tryz.prog 10 args W fun e W' => ∃ v, e = .returned v ∧ Rows.pathJoinsSpec.post enc Tryz.prog Tryz.f10 false true false false W args v W' := by
  have hW' := hW
  obtain ⟨p, q, hA0, hV, rfl, hfz, hnd⟩ := hW
  have hA : DataW.TrodAll enc Tryz.prog W 0 (fun _ => true) true Tryz.f10.params.toList args.toList ds p := hA0
  rw [Tryz.params10] at hA hval
  obtain ⟨v0, vs0, d0, ds0, p0, q0, hargs, rfl, rfl, h0, r0⟩ := trodAll_cons hA
  obtain ⟨v1, vs1, d1, ds1, p1, q1, hargs1, rfl, rfl, h1, r1⟩ := trodAll_cons r0
  subst hargs1
  obtain ⟨v2, vs2, d2, ds2, p2, q2, hargs2, rfl, rfl, h2, r2⟩ := trodAll_cons r1
  subst hargs2
  obtain ⟨v3, vs3, d3, ds3, p3, q3, hargs3, rfl, rfl, h3, r3⟩ := trodAll_cons r2
  subst hargs3
  obtain ⟨v4, vs4, d4, ds4, p4, q4, hargs4, rfl, rfl, h4, r4⟩ := trodAll_cons r3
  subst hargs4
  obtain ⟨v5, vs5, d5, ds5, p5, q5, hargs5, rfl, rfl, h5, r5⟩ := trodAll_cons r4
  subst hargs5
  obtain ⟨rfl, rfl, rfl⟩ := trodAll_nil r5
  obtain rfl : args = #[v0, v1, v2, v3, v4, v5] := by cases args; simp_all
  obtain ⟨rfl, rfl⟩ := trodVars_none hV
  obtain ⟨n0, h0⟩ := h0
  obtain ⟨a0, c0, o0, b0⟩ := rep_t58 H enc W _ _ _ h0
  obtain ⟨n1, h1⟩ := h1
  obtain ⟨a1, c1, o1, b1⟩ := rep_t58 H enc W _ _ _ h1
  obtain ⟨n2, h2⟩ := h2
  obtain ⟨a2, c2, o2, b2⟩ := rep_t22 H enc W _ _ _ h2
  obtain ⟨n3, h3⟩ := h3
  obtain ⟨a3, c3, o3, b3⟩ := rep_t22 H enc W _ _ _ h3
  obtain ⟨n4, h4⟩ := h4
  obtain ⟨a4, c4, o4, b4⟩ := rep_t3 H enc W _ _ _ h4
  obtain ⟨n5, h5⟩ := h5
  obtain ⟨a5, c5, o5, b5⟩ := rep_t3 H enc W _ _ _ h5
  have hb : Rows.uptoBulkAll ([d0, d1, d2, d3, d4, d5] ++ [] : List (DataW H)) ≤ 1048576 := of_decide_eq_true hk
  simp only [List.append_nil, Rows.uptoBulkAll] at hb
  have htrue := plain a0 a1 a2 a3 a4 a5 o0 o1 o2 o3 o4 o5 (by simp only at b0 b1 b2 b3 b4 b5; omega)
  refine post_of_spec (bt := 4) ((law22_PathJoins_C a0 a1 a2 a3 a4 a5).ok _ htrue) (fun ρ => arels_cons (agg_val (P := Tryz.prog) (hval 0 58 v0 rfl rfl) (by kernel_rfl) c0) (arels_cons (agg_val (P := Tryz.prog) (hval 1 58 v1 rfl rfl) (by kernel_rfl) c1) (arels_cons (one_val (P := Tryz.prog) (hval 2 22 v2 rfl rfl) (by kernel_rfl) c2) (arels_cons (one_val (P := Tryz.prog) (hval 3 22 v3 rfl rfl) (by kernel_rfl) c3) (arels_cons (one_val (P := Tryz.prog) (hval 4 3 v4 rfl rfl) (by kernel_rfl) c4) (arels_cons (one_val (P := Tryz.prog) (hval 5 3 v5 rfl rfl) (by kernel_rfl) c5) (arels_nil))))))) hW' rfl rfl (by kernel_rfl) (by kernel_rfl) (slices_full_of _ (by kernel_rfl)) ?_ (by kernel_rfl) (by kernel_rfl)
  have hs : Tryz.prog.types.size = 368 := by kernel_rfl
  rw [Tryz.params10, hs]; simp only [List.mem_cons, List.not_mem_nil, or_false]
  rintro t (rfl | rfl | rfl | rfl | rfl | rfl) <;> decide
set_option maxRecDepth 100000 in
theorem lifted (plain : ∀ (a0 : S_Path) (a1 : S_Path) (a2 : (List Int)) (a3 : (List Int)) (a4 : Int) (a5 : Int), ok_t58 a0 → ok_t58 a1 → ok_t22 a2 → ok_t22 a3 → ok_t3 a4 → ok_t3 a5 → bulk_t58 a0 + bulk_t58 a1 + bulk_t22 a2 + bulk_t22 a3 + bulk_t3 a4 + bulk_t3 a5 ≤ 1048576 → (law22_PathJoins_C a0 a1 a2 a3 a4 a5).o = some true) (os : Os) (started : os.Started) (H : Type) (enc : TypeId × Value → H) (F : Stop.Interp) :
    ReturnsInHanded {} Tryz.checked os 10 .any ((Rows.OpenSpec.upto Rows.pathJoinsSpec).pre6 enc Tryz.prog Tryz.f10 Rows.pathJoinsUptoRow.domain false) (((Rows.OpenSpec.upto Rows.pathJoinsSpec).at F).post enc Tryz.prog Tryz.f10 false true false false) := by
  refine returnsInHanded_of_cond (C := Tryz.checked) (s := Rows.OpenSpec.upto Rows.pathJoinsSpec) (k := Rows.uptoSmall) rfl own started (by kernel_rfl) Tryz.func10
    (OpenSpec.witness (enc := enc) (C := Tryz.checked) (s := Rows.OpenSpec.upto Rows.pathJoinsSpec) (k := Rows.uptoSmall) rfl false ⟨#[], #[.agg #[.slice none 0 0, .slice none 0 0], .agg #[.slice none 0 0, .slice none 0 0], .slice none 0 0, .slice none 0 0, .int .i64 0, .int .i64 0], []⟩ 8 (by kernel_rfl) (by kernel_rfl) (by kernel_rfl)
      (x := ([.agg [.nil, .nil], .agg [.nil, .nil], .nil, .nil, .lit (.int .i64 0), .lit (.int .i64 0)], [], [])) (by kernel_rfl) rfl (by kernel_rfl)) ?_
  intro W base args ds gs before hval hW _ hk _
  exact contract plain H enc W base args ds gs before hval hW hk
theorem over (plain : ∀ (a0 : S_Path) (a1 : S_Path) (a2 : (List Int)) (a3 : (List Int)) (a4 : Int) (a5 : Int), ok_t58 a0 → ok_t58 a1 → ok_t22 a2 → ok_t22 a3 → ok_t3 a4 → ok_t3 a5 → bulk_t58 a0 + bulk_t58 a1 + bulk_t22 a2 + bulk_t22 a3 + bulk_t3 a4 + bulk_t3 a5 ≤ 1048576 → (law22_PathJoins_C a0 a1 a2 a3 a4 a5).o = some true) : Rows.pathJoinsUptoRow.holds Tryz.pinned (Rows.OpenSpec.upto Rows.pathJoinsSpec) :=
  OpenClaim.holds_of_cond 10 Tryz.f10 rfl rfl rfl rfl rfl rfl rfl ⟨rfl, rfl, rfl, rfl, rfl⟩ rfl rfl rfl rfl rfl (by kernel_rfl) Tryz.func10 closed
    (of_decide_eq_true (by kernel_rfl)) (by unfold Func.isWrapper; first | (rw [if_pos (by decide +kernel)]; kernel_rfl) | (rw [if_neg (by decide +kernel)]; exact ⟨rfl, rfl⟩))
    (fun os started H enc _ F => lifted plain os started H enc F)
end pathJoins
end Go.Abs
