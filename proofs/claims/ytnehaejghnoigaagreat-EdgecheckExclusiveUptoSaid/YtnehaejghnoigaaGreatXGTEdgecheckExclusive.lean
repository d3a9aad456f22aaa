/-
  TEdgecheckExclusive (a part of a claim: our own text).
-/
import Derived.Test.YtnehaejghnoigaaGreatXGTop
import Derived.Test.YtnehaejghnoigaaGreatXGD3
import Derived.Test.YtnehaejghnoigaaGreatXGJEdgecheckExclusiveb
namespace Go.Abs
open Go.Proofs Go.Proofs.YtnehaejghnoigaaGreat Go.ChangeShapes Go.WideShapes Go.ChangeAt Go.RowKit
namespace edgecheckExclusive
def cells_t3 (v : Int) : List PVal := [.int .i64 v]
def ok_t3 (v : Int) : Prop := (Lit.int .i64 v).wf = true
def bulk_t3 (_ : Int) : Nat := 1
theorem rep_t3 : Rep Tryz.prog 3 cells_t3 ok_t3 bulk_t3 := rep_int (by kernel_rfl)
def cells_t32 (v : (List Int)) : List PVal := [encL 1 encI_i64 v]
def ok_t32 (v : (List Int)) : Prop := ∀ a ∈ v, ok_t3 a
def bulk_t32 (v : (List Int)) : Nat := (v.map bulk_t3).sum + 1
theorem rep_t32 : Rep Tryz.prog 32 cells_t32 ok_t32 bulk_t32 := rep_slice (cells := cells_t3) (enc := encI_i64) (sz := 1) (by kernel_rfl) (by kernel_rfl) (by decide) (fun _ => rfl) (fun _ => rfl) rep_t3
def cells_t2 (v : Int) : List PVal := [.int .i64 v]
def ok_t2 (v : Int) : Prop := (Lit.int .i64 v).wf = true
def bulk_t2 (_ : Int) : Nat := 1
theorem rep_t2 : Rep Tryz.prog 2 cells_t2 ok_t2 bulk_t2 := rep_int (by kernel_rfl)
def cells_t49 (v : (Int × Int × Int)) : List PVal := [.int .i64 v.1, .int .i64 v.2.1, .int .i64 v.2.2]
def ok_t49 (v : (Int × Int × Int)) : Prop := ok_t2 v.1 ∧ ok_t2 v.2.1 ∧ ok_t2 v.2.2 ∧ True
def bulk_t49 (v : (Int × Int × Int)) : Nat := (bulk_t2 v.1 + (bulk_t2 v.2.1 + (bulk_t2 v.2.2 + 0))) + 1
theorem rep_t49 : Rep Tryz.prog 49 cells_t49 ok_t49 bulk_t49 :=
  (rep_array (e := 2) (n := 3) (sz := 1) (fs := [(2, 0), (2, 1), (2, 2)]) (by kernel_rfl) (by kernel_rfl) (by kernel_rfl) (by kernel_rfl) (.cons (sz := 1) rep_t2 (by kernel_rfl) (.cons (sz := 1) rep_t2 (by kernel_rfl) (.cons (sz := 1) rep_t2 (by kernel_rfl) .nil)))).map (fun p => (p.1, p.2.1, p.2.2.1)) (fun _ => rfl) (fun _ h => h) (fun _ => Nat.le_refl _)
def cells_t35 (v : (List (Int × Int × Int))) : List PVal := [encL 3 enc_arr_3_int64 v]
def ok_t35 (v : (List (Int × Int × Int))) : Prop := ∀ a ∈ v, ok_t49 a
def bulk_t35 (v : (List (Int × Int × Int))) : Nat := (v.map bulk_t49).sum + 1
theorem rep_t35 : Rep Tryz.prog 35 cells_t35 ok_t35 bulk_t35 := rep_slice (cells := cells_t49) (enc := enc_arr_3_int64) (sz := 3) (by kernel_rfl) (by kernel_rfl) (by decide) (fun _ => rfl) (fun _ => rfl) rep_t49
def cells_t37 (v : S_Piece) : List PVal := [.int .i64 v.Depth, .int .i64 v.Index, encL 3 enc_arr_3_int64 v.Normals]
def ok_t37 (v : S_Piece) : Prop := ok_t3 v.Depth ∧ ok_t2 v.Index ∧ ok_t35 v.Normals ∧ True
def bulk_t37 (v : S_Piece) : Nat := (bulk_t3 v.Depth + (bulk_t2 v.Index + (bulk_t35 v.Normals + 0))) + 1
theorem rep_t37 : Rep Tryz.prog 37 cells_t37 ok_t37 bulk_t37 :=
  (rep_struct (fs := [(3, 0), (2, 1), (35, 2)]) (by kernel_rfl) (by kernel_rfl) (by kernel_rfl) (.cons (sz := 1) rep_t3 (by kernel_rfl) (.cons (sz := 1) rep_t2 (by kernel_rfl) (.cons (sz := 1) rep_t35 (by kernel_rfl) .nil)))).map (fun p => ⟨p.1, p.2.1, p.2.2.1⟩) (fun _ => rfl) (fun _ h => h) (fun _ => Nat.le_refl _)
def cells_t30 (v : (List Int)) : List PVal := [encL 1 encI_i64 v]
def ok_t30 (v : (List Int)) : Prop := ∀ a ∈ v, ok_t2 a
def bulk_t30 (v : (List Int)) : Nat := (v.map bulk_t2).sum + 1
theorem rep_t30 : Rep Tryz.prog 30 cells_t30 ok_t30 bulk_t30 := rep_slice (cells := cells_t2) (enc := encI_i64) (sz := 1) (by kernel_rfl) (by kernel_rfl) (by decide) (fun _ => rfl) (fun _ => rfl) rep_t2
def cells_t39 (v : S_Witness) : List PVal := [.int .i64 v.Pair, encL 1 encI_i64 v.Left, encL 1 encI_i64 v.Right]
def ok_t39 (v : S_Witness) : Prop := ok_t3 v.Pair ∧ ok_t30 v.Left ∧ ok_t30 v.Right ∧ True
def bulk_t39 (v : S_Witness) : Nat := (bulk_t3 v.Pair + (bulk_t30 v.Left + (bulk_t30 v.Right + 0))) + 1
theorem rep_t39 : Rep Tryz.prog 39 cells_t39 ok_t39 bulk_t39 :=
  (rep_struct (fs := [(3, 0), (30, 1), (30, 2)]) (by kernel_rfl) (by kernel_rfl) (by kernel_rfl) (.cons (sz := 1) rep_t3 (by kernel_rfl) (.cons (sz := 1) rep_t30 (by kernel_rfl) (.cons (sz := 1) rep_t30 (by kernel_rfl) .nil)))).map (fun p => ⟨p.1, p.2.1, p.2.2.1⟩) (fun _ => rfl) (fun _ h => h) (fun _ => Nat.le_refl _)
theorem and_t {a b : Bool} (h : a = true) (k : b = true) : (a && b) = true := by rw [h, k]; rfl
set_option maxRecDepth 100000 in
theorem closed : joinedFacts Tryz.pinned.checked.prog 14 Tryz.f14 (Rows.OpenSpec.upto Rows.edgecheckExclusiveSpec).bare Rows.edgecheckExclusiveUptoRow = true := by
  unfold joinedFacts
  exact (and_t (and_t (and_t (and_t (and_t (and_t (and_t (and_t (and_t (and_t (and_t (and_t (and_t (and_t (and_t (and_t (and_t (and_t (and_t (and_t (and_t (and_t (and_t (and_t (and_t (and_t (and_t (and_t (and_t (and_t (and_t jf_wf jf_laid) jf_mapsRowed) jf_params) jf_named) jf_cstops) jf_stops) jf_cknobs) jf_knobs) jf_inPlace) jf_unf) jf_rec) jf_vars) jf_maps) jf_ifaces) jf_mapsOut) jf_loops) jf_wide) jf_varsR) jf_res) jf_ifacesOut) jf_loopsOut) jf_plainKeys) jf_short) jf_heard) jf_mayEnter) jf_lifted) jf_make) jf_kinds) jf_pinned) jf_veiled) jf_fits)
theorem own : ownKnob Tryz.prog.godebug = none := by kernel_rfl
set_option maxRecDepth 100000 in
theorem contract (plain : ∀ (a0 : (List Int)) (a1 : (List Int)) (a2 : (List Int)) (a3 : (List Int)) (a4 : Int) (a5 : S_Piece) (a6 : S_Witness) (a7 : Int) (a8 : Int) (a9 : Int), ok_t32 a0 → ok_t32 a1 → ok_t32 a2 → ok_t32 a3 → ok_t3 a4 → ok_t37 a5 → ok_t39 a6 → ok_t3 a7 → ok_t3 a8 → ok_t3 a9 → bulk_t32 a0 + bulk_t32 a1 + bulk_t32 a2 + bulk_t32 a3 + bulk_t3 a4 + bulk_t37 a5 + bulk_t39 a6 + bulk_t3 a7 + bulk_t3 a8 + bulk_t3 a9 ≤ 1048576 → (law20_EdgecheckExclusive_C a0 a1 a2 a3 a4 a5 a6 a7 a8 a9).o = some true) (H : Type) (enc : TypeId × Value → H) (W : World) (base : Nat) (args : Array Value) (ds gs : List (DataW H)) (before : List MemPlace)
    (hval : ∀ (j : Nat) t v, Tryz.f14.params[j]? = some t → args[j]? = some v → Value.okWide Tryz.prog W .any base t v)
    (hW : DataW.Whole enc Tryz.prog Tryz.f14.params.toList Rows.edgecheckExclusiveSpec.vars false W args.toList ds gs before) (hk : Rows.uptoSmall H (ds ++ gs) = true) :
    Calls Tryz.prog 14 args W fun e W' => ∃ v, e = .returned v ∧ Rows.edgecheckExclusiveSpec.post enc Tryz.prog Tryz.f14 false true false false W args v W' := by
  have hW' := hW
  obtain ⟨p, q, hA0, hV, rfl, hfz, hnd⟩ := hW
  have hA : DataW.TrodAll enc Tryz.prog W 0 (fun _ => true) true Tryz.f14.params.toList args.toList ds p := hA0
  rw [Tryz.params14] at hA hval
  obtain ⟨v0, vs0, d0, ds0, p0, q0, hargs, rfl, rfl, h0, r0⟩ := trodAll_cons hA
  obtain ⟨v1, vs1, d1, ds1, p1, q1, hargs1, rfl, rfl, h1, r1⟩ := trodAll_cons r0
  subst hargs1
  obtain ⟨v2, vs2, d2, ds2, p2, q2, hargs2, rfl, rfl, h2, r2⟩ := trodAll_cons r1
  subst hargs2
  obtain ⟨v3, vs3, d3, ds3, p3, q3, hargs3, rfl, rfl, h3, r3⟩ := trodAll_cons r2
  subst hargs3
  obtain ⟨v4, vs4, d4, ds4, p4, q4, hargs4, rfl, rfl, h4, r4⟩ := trodAll_cons r3
  subst hargs4
  obtain ⟨v5, vs5, d5, ds5, p5, q5, hargs5, rfl, rfl, h5, r5⟩ := trodAll_cons r4
  subst hargs5
  obtain ⟨v6, vs6, d6, ds6, p6, q6, hargs6, rfl, rfl, h6, r6⟩ := trodAll_cons r5
  subst hargs6
  obtain ⟨v7, vs7, d7, ds7, p7, q7, hargs7, rfl, rfl, h7, r7⟩ := trodAll_cons r6
  subst hargs7
  obtain ⟨v8, vs8, d8, ds8, p8, q8, hargs8, rfl, rfl, h8, r8⟩ := trodAll_cons r7
  subst hargs8
  obtain ⟨v9, vs9, d9, ds9, p9, q9, hargs9, rfl, rfl, h9, r9⟩ := trodAll_cons r8
  subst hargs9
  obtain ⟨rfl, rfl, rfl⟩ := trodAll_nil r9
  obtain rfl : args = #[v0, v1, v2, v3, v4, v5, v6, v7, v8, v9] := by cases args; simp_all
  obtain ⟨rfl, rfl⟩ := trodVars_none hV
  obtain ⟨n0, h0⟩ := h0
  obtain ⟨a0, c0, o0, b0⟩ := rep_t32 H enc W _ _ _ h0
  obtain ⟨n1, h1⟩ := h1
  obtain ⟨a1, c1, o1, b1⟩ := rep_t32 H enc W _ _ _ h1
  obtain ⟨n2, h2⟩ := h2
  obtain ⟨a2, c2, o2, b2⟩ := rep_t32 H enc W _ _ _ h2
  obtain ⟨n3, h3⟩ := h3
  obtain ⟨a3, c3, o3, b3⟩ := rep_t32 H enc W _ _ _ h3
  obtain ⟨n4, h4⟩ := h4
  obtain ⟨a4, c4, o4, b4⟩ := rep_t3 H enc W _ _ _ h4
  obtain ⟨n5, h5⟩ := h5
  obtain ⟨a5, c5, o5, b5⟩ := rep_t37 H enc W _ _ _ h5
  obtain ⟨n6, h6⟩ := h6
  obtain ⟨a6, c6, o6, b6⟩ := rep_t39 H enc W _ _ _ h6
  obtain ⟨n7, h7⟩ := h7
  obtain ⟨a7, c7, o7, b7⟩ := rep_t3 H enc W _ _ _ h7
  obtain ⟨n8, h8⟩ := h8
  obtain ⟨a8, c8, o8, b8⟩ := rep_t3 H enc W _ _ _ h8
  obtain ⟨n9, h9⟩ := h9
  obtain ⟨a9, c9, o9, b9⟩ := rep_t3 H enc W _ _ _ h9
  have hb : Rows.uptoBulkAll ([d0, d1, d2, d3, d4, d5, d6, d7, d8, d9] ++ [] : List (DataW H)) ≤ 1048576 := of_decide_eq_true hk
  simp only [List.append_nil, Rows.uptoBulkAll] at hb
  have htrue := plain a0 a1 a2 a3 a4 a5 a6 a7 a8 a9 o0 o1 o2 o3 o4 o5 o6 o7 o8 o9 (by simp only at b0 b1 b2 b3 b4 b5 b6 b7 b8 b9; omega)
  refine post_of_spec (bt := 4) ((law20_EdgecheckExclusive_C a0 a1 a2 a3 a4 a5 a6 a7 a8 a9).ok _ htrue) (fun ρ => arels_cons (one_val (P := Tryz.prog) (hval 0 32 v0 rfl rfl) (by kernel_rfl) c0) (arels_cons (one_val (P := Tryz.prog) (hval 1 32 v1 rfl rfl) (by kernel_rfl) c1) (arels_cons (one_val (P := Tryz.prog) (hval 2 32 v2 rfl rfl) (by kernel_rfl) c2) (arels_cons (one_val (P := Tryz.prog) (hval 3 32 v3 rfl rfl) (by kernel_rfl) c3) (arels_cons (one_val (P := Tryz.prog) (hval 4 3 v4 rfl rfl) (by kernel_rfl) c4) (arels_cons (agg_val (P := Tryz.prog) (hval 5 37 v5 rfl rfl) (by kernel_rfl) c5) (arels_cons (agg_val (P := Tryz.prog) (hval 6 39 v6 rfl rfl) (by kernel_rfl) c6) (arels_cons (one_val (P := Tryz.prog) (hval 7 3 v7 rfl rfl) (by kernel_rfl) c7) (arels_cons (one_val (P := Tryz.prog) (hval 8 3 v8 rfl rfl) (by kernel_rfl) c8) (arels_cons (one_val (P := Tryz.prog) (hval 9 3 v9 rfl rfl) (by kernel_rfl) c9) (arels_nil))))))))))) hW' rfl rfl (by kernel_rfl) (by kernel_rfl) (slices_full_of _ (by kernel_rfl)) ?_ (by kernel_rfl) (by kernel_rfl)
  have hs : Tryz.prog.types.size = 335 := by kernel_rfl
  rw [Tryz.params14, hs]; simp only [List.mem_cons, List.not_mem_nil, or_false]
  rintro t (rfl | rfl | rfl | rfl | rfl | rfl | rfl | rfl | rfl | rfl) <;> decide
set_option maxRecDepth 100000 in
theorem lifted (plain : ∀ (a0 : (List Int)) (a1 : (List Int)) (a2 : (List Int)) (a3 : (List Int)) (a4 : Int) (a5 : S_Piece) (a6 : S_Witness) (a7 : Int) (a8 : Int) (a9 : Int), ok_t32 a0 → ok_t32 a1 → ok_t32 a2 → ok_t32 a3 → ok_t3 a4 → ok_t37 a5 → ok_t39 a6 → ok_t3 a7 → ok_t3 a8 → ok_t3 a9 → bulk_t32 a0 + bulk_t32 a1 + bulk_t32 a2 + bulk_t32 a3 + bulk_t3 a4 + bulk_t37 a5 + bulk_t39 a6 + bulk_t3 a7 + bulk_t3 a8 + bulk_t3 a9 ≤ 1048576 → (law20_EdgecheckExclusive_C a0 a1 a2 a3 a4 a5 a6 a7 a8 a9).o = some true) (os : Os) (started : os.Started) (H : Type) (enc : TypeId × Value → H) (F : Stop.Interp) :
    ReturnsInHanded {} Tryz.checked os 14 .any ((Rows.OpenSpec.upto Rows.edgecheckExclusiveSpec).pre6 enc Tryz.prog Tryz.f14 Rows.edgecheckExclusiveUptoRow.domain false) (((Rows.OpenSpec.upto Rows.edgecheckExclusiveSpec).at F).post enc Tryz.prog Tryz.f14 false true false false) := by
  refine returnsInHanded_of_cond (C := Tryz.checked) (s := Rows.OpenSpec.upto Rows.edgecheckExclusiveSpec) (k := Rows.uptoSmall) rfl own started (by kernel_rfl) Tryz.func14
    (OpenSpec.witness (enc := enc) (C := Tryz.checked) (s := Rows.OpenSpec.upto Rows.edgecheckExclusiveSpec) (k := Rows.uptoSmall) rfl false ⟨#[], #[.slice none 0 0, .slice none 0 0, .slice none 0 0, .slice none 0 0, .int .i64 0, .agg #[.int .i64 0, .int .i64 0, .slice none 0 0], .agg #[.int .i64 0, .slice none 0 0, .slice none 0 0], .int .i64 0, .int .i64 0, .int .i64 0], []⟩ 8 (by kernel_rfl) (by kernel_rfl) (by kernel_rfl)
      (x := ([.nil, .nil, .nil, .nil, .lit (.int .i64 0), .agg [.lit (.int .i64 0), .lit (.int .i64 0), .nil], .agg [.lit (.int .i64 0), .nil, .nil], .lit (.int .i64 0), .lit (.int .i64 0), .lit (.int .i64 0)], [], [])) (by kernel_rfl) rfl (by kernel_rfl)) ?_
  intro W base args ds gs before hval hW _ hk _
  exact contract plain H enc W base args ds gs before hval hW hk
theorem over (plain : ∀ (a0 : (List Int)) (a1 : (List Int)) (a2 : (List Int)) (a3 : (List Int)) (a4 : Int) (a5 : S_Piece) (a6 : S_Witness) (a7 : Int) (a8 : Int) (a9 : Int), ok_t32 a0 → ok_t32 a1 → ok_t32 a2 → ok_t32 a3 → ok_t3 a4 → ok_t37 a5 → ok_t39 a6 → ok_t3 a7 → ok_t3 a8 → ok_t3 a9 → bulk_t32 a0 + bulk_t32 a1 + bulk_t32 a2 + bulk_t32 a3 + bulk_t3 a4 + bulk_t37 a5 + bulk_t39 a6 + bulk_t3 a7 + bulk_t3 a8 + bulk_t3 a9 ≤ 1048576 → (law20_EdgecheckExclusive_C a0 a1 a2 a3 a4 a5 a6 a7 a8 a9).o = some true) : Rows.edgecheckExclusiveUptoRow.holds Tryz.pinned (Rows.OpenSpec.upto Rows.edgecheckExclusiveSpec) :=
  OpenClaim.holds_of_cond 14 Tryz.f14 rfl rfl rfl rfl rfl rfl rfl ⟨rfl, rfl, rfl, rfl, rfl⟩ rfl rfl rfl rfl rfl (by kernel_rfl) Tryz.func14 closed
    (of_decide_eq_true (by kernel_rfl)) (by unfold Func.isWrapper; first | (rw [if_pos (by decide +kernel)]; kernel_rfl) | (rw [if_neg (by decide +kernel)]; exact ⟨rfl, rfl⟩))
    (fun os started H enc _ F => lifted plain os started H enc F)
end edgecheckExclusive
end Go.Abs
