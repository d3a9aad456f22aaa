/-
  TRoadmapNew (a part of a claim: our own text).
-/
import Derived.Test.YtkjkbdobenmgbaaGreatXKTop
import Derived.Test.YtkjkbdobenmgbaaGreatXKD3
import Derived.Test.YtkjkbdobenmgbaaGreatXKJRoadmapNewb
namespace Go.Abs
open Go.Proofs Go.Proofs.YtkjkbdobenmgbaaGreat Go.ChangeShapes Go.WideShapes Go.ChangeAt Go.RowKit
namespace roadmapNew
def cells_t9 (v : ByteArray) : List PVal := [.str v]
def ok_t9 (_ : ByteArray) : Prop := True
def bulk_t9 (v : ByteArray) : Nat := v.size + 1
theorem rep_t9 : Rep Tryz.prog 9 cells_t9 ok_t9 bulk_t9 := rep_string (by kernel_rfl)
def cells_t3 (v : Int) : List PVal := [.int .i64 v]
def ok_t3 (v : Int) : Prop := (Lit.int .i64 v).wf = true
def bulk_t3 (_ : Int) : Nat := 1
theorem rep_t3 : Rep Tryz.prog 3 cells_t3 ok_t3 bulk_t3 := rep_int (by kernel_rfl)
def cells_t2 (v : Int) : List PVal := [.int .i64 v]
def ok_t2 (v : Int) : Prop := (Lit.int .i64 v).wf = true
def bulk_t2 (_ : Int) : Nat := 1
theorem rep_t2 : Rep Tryz.prog 2 cells_t2 ok_t2 bulk_t2 := rep_int (by kernel_rfl)
def cells_t98 (v : (Int × Int × Int)) : List PVal := [.int .i64 v.1, .int .i64 v.2.1, .int .i64 v.2.2]
def ok_t98 (v : (Int × Int × Int)) : Prop := ok_t2 v.1 ∧ ok_t2 v.2.1 ∧ ok_t2 v.2.2 ∧ True
def bulk_t98 (v : (Int × Int × Int)) : Nat := (bulk_t2 v.1 + (bulk_t2 v.2.1 + (bulk_t2 v.2.2 + 0))) + 1
theorem rep_t98 : Rep Tryz.prog 98 cells_t98 ok_t98 bulk_t98 :=
  (rep_array (e := 2) (n := 3) (sz := 1) (fs := [(2, 0), (2, 1), (2, 2)]) (by kernel_rfl) (by kernel_rfl) (by kernel_rfl) (by kernel_rfl) (.cons (sz := 1) rep_t2 (by kernel_rfl) (.cons (sz := 1) rep_t2 (by kernel_rfl) (.cons (sz := 1) rep_t2 (by kernel_rfl) .nil)))).map (fun p => (p.1, p.2.1, p.2.2.1)) (fun _ => rfl) (fun _ h => h) (fun _ => Nat.le_refl _)
def cells_t100 (v : S_Joint) : List PVal := [.str v.Name, .int .i64 v.Kind, .int .i64 v.Parent, .int .i64 v.Offset.1, .int .i64 v.Offset.2.1, .int .i64 v.Offset.2.2, .int .i64 v.Lo, .int .i64 v.Hi, .int .i64 v.Weight, .int .i64 v.Speed, .int .i64 v.Accel, .int .i64 v.Torque]
def ok_t100 (v : S_Joint) : Prop := ok_t9 v.Name ∧ ok_t3 v.Kind ∧ ok_t3 v.Parent ∧ ok_t98 v.Offset ∧ ok_t2 v.Lo ∧ ok_t2 v.Hi ∧ ok_t2 v.Weight ∧ ok_t2 v.Speed ∧ ok_t2 v.Accel ∧ ok_t2 v.Torque ∧ True
def bulk_t100 (v : S_Joint) : Nat := (bulk_t9 v.Name + (bulk_t3 v.Kind + (bulk_t3 v.Parent + (bulk_t98 v.Offset + (bulk_t2 v.Lo + (bulk_t2 v.Hi + (bulk_t2 v.Weight + (bulk_t2 v.Speed + (bulk_t2 v.Accel + (bulk_t2 v.Torque + 0)))))))))) + 1
theorem rep_t100 : Rep Tryz.prog 100 cells_t100 ok_t100 bulk_t100 :=
  (rep_struct (fs := [(9, 0), (3, 1), (3, 2), (98, 3), (2, 6), (2, 7), (2, 8), (2, 9), (2, 10), (2, 11)]) (by kernel_rfl) (by kernel_rfl) (by kernel_rfl) (.cons (sz := 1) rep_t9 (by kernel_rfl) (.cons (sz := 1) rep_t3 (by kernel_rfl) (.cons (sz := 1) rep_t3 (by kernel_rfl) (.cons (sz := 3) rep_t98 (by kernel_rfl) (.cons (sz := 1) rep_t2 (by kernel_rfl) (.cons (sz := 1) rep_t2 (by kernel_rfl) (.cons (sz := 1) rep_t2 (by kernel_rfl) (.cons (sz := 1) rep_t2 (by kernel_rfl) (.cons (sz := 1) rep_t2 (by kernel_rfl) (.cons (sz := 1) rep_t2 (by kernel_rfl) .nil))))))))))).map (fun p => ⟨p.1, p.2.1, p.2.2.1, p.2.2.2.1, p.2.2.2.2.1, p.2.2.2.2.2.1, p.2.2.2.2.2.2.1, p.2.2.2.2.2.2.2.1, p.2.2.2.2.2.2.2.2.1, p.2.2.2.2.2.2.2.2.2.1⟩) (fun _ => rfl) (fun _ h => h) (fun _ => Nat.le_refl _)
def cells_t22 (v : (List S_Joint)) : List PVal := [encL 12 enc_Joint v]
def ok_t22 (v : (List S_Joint)) : Prop := ∀ a ∈ v, ok_t100 a
def bulk_t22 (v : (List S_Joint)) : Nat := (v.map bulk_t100).sum + 1
theorem rep_t22 : Rep Tryz.prog 22 cells_t22 ok_t22 bulk_t22 := rep_slice (cells := cells_t100) (enc := enc_Joint) (sz := 12) (by kernel_rfl) (by kernel_rfl) (by decide) (fun _ => rfl) (fun _ => rfl) rep_t100
def cells_t115 (v : S_Mass) : List PVal := [.int .i64 v.Link, .int .i64 v.Mass, .int .i64 v.Point.1, .int .i64 v.Point.2.1, .int .i64 v.Point.2.2]
def ok_t115 (v : S_Mass) : Prop := ok_t3 v.Link ∧ ok_t2 v.Mass ∧ ok_t98 v.Point ∧ True
def bulk_t115 (v : S_Mass) : Nat := (bulk_t3 v.Link + (bulk_t2 v.Mass + (bulk_t98 v.Point + 0))) + 1
theorem rep_t115 : Rep Tryz.prog 115 cells_t115 ok_t115 bulk_t115 :=
  (rep_struct (fs := [(3, 0), (2, 1), (98, 2)]) (by kernel_rfl) (by kernel_rfl) (by kernel_rfl) (.cons (sz := 1) rep_t3 (by kernel_rfl) (.cons (sz := 1) rep_t2 (by kernel_rfl) (.cons (sz := 3) rep_t98 (by kernel_rfl) .nil)))).map (fun p => ⟨p.1, p.2.1, p.2.2.1⟩) (fun _ => rfl) (fun _ h => h) (fun _ => Nat.le_refl _)
def cells_t23 (v : (List S_Mass)) : List PVal := [encL 5 enc_Mass v]
def ok_t23 (v : (List S_Mass)) : Prop := ∀ a ∈ v, ok_t115 a
def bulk_t23 (v : (List S_Mass)) : Nat := (v.map bulk_t115).sum + 1
theorem rep_t23 : Rep Tryz.prog 23 cells_t23 ok_t23 bulk_t23 := rep_slice (cells := cells_t115) (enc := enc_Mass) (sz := 5) (by kernel_rfl) (by kernel_rfl) (by decide) (fun _ => rfl) (fun _ => rfl) rep_t115
def cells_t25 (v : S_Robot) : List PVal := [encL 12 enc_Joint v.Joints, encL 5 enc_Mass v.Masses]
def ok_t25 (v : S_Robot) : Prop := ok_t22 v.Joints ∧ ok_t23 v.Masses ∧ True
def bulk_t25 (v : S_Robot) : Nat := (bulk_t22 v.Joints + (bulk_t23 v.Masses + 0)) + 1
theorem rep_t25 : Rep Tryz.prog 25 cells_t25 ok_t25 bulk_t25 :=
  (rep_struct (fs := [(22, 0), (23, 1)]) (by kernel_rfl) (by kernel_rfl) (by kernel_rfl) (.cons (sz := 1) rep_t22 (by kernel_rfl) (.cons (sz := 1) rep_t23 (by kernel_rfl) .nil))).map (fun p => ⟨p.1, p.2.1⟩) (fun _ => rfl) (fun _ h => h) (fun _ => Nat.le_refl _)
def cells_t40 (v : (List Int)) : List PVal := [encL 1 encI_i64 v]
def ok_t40 (v : (List Int)) : Prop := ∀ a ∈ v, ok_t2 a
def bulk_t40 (v : (List Int)) : Nat := (v.map bulk_t2).sum + 1
theorem rep_t40 : Rep Tryz.prog 40 cells_t40 ok_t40 bulk_t40 := rep_slice (cells := cells_t2) (enc := encI_i64) (sz := 1) (by kernel_rfl) (by kernel_rfl) (by decide) (fun _ => rfl) (fun _ => rfl) rep_t2
def cells_t26 (v : (List (List Int))) : List PVal := [encL 1 (encL 1 encI_i64) v]
def ok_t26 (v : (List (List Int))) : Prop := ∀ a ∈ v, ok_t40 a
def bulk_t26 (v : (List (List Int))) : Nat := (v.map bulk_t40).sum + 1
theorem rep_t26 : Rep Tryz.prog 26 cells_t26 ok_t26 bulk_t26 := rep_slice (cells := cells_t40) (enc := (encL 1 encI_i64)) (sz := 1) (by kernel_rfl) (by kernel_rfl) (by decide) (fun _ => rfl) (fun _ => rfl) rep_t40
def cells_t30 (v : (List Int)) : List PVal := [encL 1 encI_i64 v]
def ok_t30 (v : (List Int)) : Prop := ∀ a ∈ v, ok_t3 a
def bulk_t30 (v : (List Int)) : Nat := (v.map bulk_t3).sum + 1
theorem rep_t30 : Rep Tryz.prog 30 cells_t30 ok_t30 bulk_t30 := rep_slice (cells := cells_t3) (enc := encI_i64) (sz := 1) (by kernel_rfl) (by kernel_rfl) (by decide) (fun _ => rfl) (fun _ => rfl) rep_t3
theorem and_t {a b : Bool} (h : a = true) (k : b = true) : (a && b) = true := by rw [h, k]; rfl
set_option maxRecDepth 100000 in
theorem closed : joinedFacts Tryz.pinned.checked.prog 4 Tryz.f4 (Rows.OpenSpec.upto Rows.roadmapNewSpec).bare Rows.roadmapNewUptoRow = true := by
  unfold joinedFacts
  exact (and_t (and_t (and_t (and_t (and_t (and_t (and_t (and_t (and_t (and_t (and_t (and_t (and_t (and_t (and_t (and_t (and_t (and_t (and_t (and_t (and_t (and_t (and_t (and_t (and_t (and_t (and_t (and_t (and_t (and_t (and_t jf_wf jf_laid) jf_mapsRowed) jf_params) jf_named) jf_cstops) jf_stops) jf_cknobs) jf_knobs) jf_inPlace) jf_unf) jf_rec) jf_vars) jf_maps) jf_ifaces) jf_mapsOut) jf_loops) jf_wide) jf_varsR) jf_res) jf_ifacesOut) jf_loopsOut) jf_plainKeys) jf_short) jf_heard) jf_mayEnter) jf_lifted) jf_make) jf_kinds) jf_pinned) jf_veiled) jf_fits)
theorem own : ownKnob Tryz.prog.godebug = none := by kernel_rfl
set_option maxRecDepth 100000 in
theorem contract (plain : ∀ (a0 : S_Robot) (a1 : (List (List Int))) (a2 : (List Int)) (a3 : (List Int)) (a4 : Int) (a5 : Int), ok_t25 a0 → ok_t26 a1 → ok_t30 a2 → ok_t30 a3 → ok_t3 a4 → ok_t3 a5 → bulk_t25 a0 + bulk_t26 a1 + bulk_t30 a2 + bulk_t30 a3 + bulk_t3 a4 + bulk_t3 a5 ≤ 1048576 → (law25_RoadmapNew_C a0 a1 a2 a3 a4 a5).o = some true) (H : Type) (enc : TypeId × Value → H) (W : World) (base : Nat) (args : Array Value) (ds gs : List (DataW H)) (before : List MemPlace)
    (hval : ∀ (j : Nat) t v, Tryz.f4.params[j]? = some t → args[j]? = some v → Value.okWide Tryz.prog W .any base t v)
    (hW : DataW.Whole enc Tryz.prog Tryz.f4.params.toList Rows.roadmapNewSpec.vars false W args.toList ds gs before) (hk : Rows.uptoSmall H (ds ++ gs) = true) :
    Calls Tryz.prog 4 args W fun e W' => ∃ v, e = .returned v ∧ Rows.roadmapNewSpec.post enc Tryz.prog Tryz.f4 false true false false W args v W' := by
  have hW' := hW
  obtain ⟨p, q, hA0, hV, rfl, hfz, hnd⟩ := hW
  have hA : DataW.TrodAll enc Tryz.prog W 0 (fun _ => true) true Tryz.f4.params.toList args.toList ds p := hA0
  rw [Tryz.params4] at hA hval
  obtain ⟨v0, vs0, d0, ds0, p0, q0, hargs, rfl, rfl, h0, r0⟩ := trodAll_cons hA
  obtain ⟨v1, vs1, d1, ds1, p1, q1, hargs1, rfl, rfl, h1, r1⟩ := trodAll_cons r0
  subst hargs1
  obtain ⟨v2, vs2, d2, ds2, p2, q2, hargs2, rfl, rfl, h2, r2⟩ := trodAll_cons r1
  subst hargs2
  obtain ⟨v3, vs3, d3, ds3, p3, q3, hargs3, rfl, rfl, h3, r3⟩ := trodAll_cons r2
  subst hargs3
  obtain ⟨v4, vs4, d4, ds4, p4, q4, hargs4, rfl, rfl, h4, r4⟩ := trodAll_cons r3
  subst hargs4
  obtain ⟨v5, vs5, d5, ds5, p5, q5, hargs5, rfl, rfl, h5, r5⟩ := trodAll_cons r4
  subst hargs5
  obtain ⟨rfl, rfl, rfl⟩ := trodAll_nil r5
  obtain rfl : args = #[v0, v1, v2, v3, v4, v5] := by cases args; simp_all
  obtain ⟨rfl, rfl⟩ := trodVars_none hV
  obtain ⟨n0, h0⟩ := h0
  obtain ⟨a0, c0, o0, b0⟩ := rep_t25 H enc W _ _ _ h0
  obtain ⟨n1, h1⟩ := h1
  obtain ⟨a1, c1, o1, b1⟩ := rep_t26 H enc W _ _ _ h1
  obtain ⟨n2, h2⟩ := h2
  obtain ⟨a2, c2, o2, b2⟩ := rep_t30 H enc W _ _ _ h2
  obtain ⟨n3, h3⟩ := h3
  obtain ⟨a3, c3, o3, b3⟩ := rep_t30 H enc W _ _ _ h3
  obtain ⟨n4, h4⟩ := h4
  obtain ⟨a4, c4, o4, b4⟩ := rep_t3 H enc W _ _ _ h4
  obtain ⟨n5, h5⟩ := h5
  obtain ⟨a5, c5, o5, b5⟩ := rep_t3 H enc W _ _ _ h5
  have hb : Rows.uptoBulkAll ([d0, d1, d2, d3, d4, d5] ++ [] : List (DataW H)) ≤ 1048576 := of_decide_eq_true hk
  simp only [List.append_nil, Rows.uptoBulkAll] at hb
  have htrue := plain a0 a1 a2 a3 a4 a5 o0 o1 o2 o3 o4 o5 (by simp only at b0 b1 b2 b3 b4 b5; omega)
  refine post_of_spec (bt := 4) ((law25_RoadmapNew_C a0 a1 a2 a3 a4 a5).ok _ htrue) (fun ρ => arels_cons (agg_val (P := Tryz.prog) (hval 0 25 v0 rfl rfl) (by kernel_rfl) c0) (arels_cons (one_val (P := Tryz.prog) (hval 1 26 v1 rfl rfl) (by kernel_rfl) c1) (arels_cons (one_val (P := Tryz.prog) (hval 2 30 v2 rfl rfl) (by kernel_rfl) c2) (arels_cons (one_val (P := Tryz.prog) (hval 3 30 v3 rfl rfl) (by kernel_rfl) c3) (arels_cons (one_val (P := Tryz.prog) (hval 4 3 v4 rfl rfl) (by kernel_rfl) c4) (arels_cons (one_val (P := Tryz.prog) (hval 5 3 v5 rfl rfl) (by kernel_rfl) c5) (arels_nil))))))) hW' rfl rfl (by kernel_rfl) (by kernel_rfl) (slices_full_of _ (by kernel_rfl)) ?_ (by kernel_rfl) (by kernel_rfl)
  have hs : Tryz.prog.types.size = 243 := by kernel_rfl
  rw [Tryz.params4, hs]; simp only [List.mem_cons, List.not_mem_nil, or_false]
  rintro t (rfl | rfl | rfl | rfl | rfl | rfl) <;> decide
set_option maxRecDepth 100000 in
theorem lifted (plain : ∀ (a0 : S_Robot) (a1 : (List (List Int))) (a2 : (List Int)) (a3 : (List Int)) (a4 : Int) (a5 : Int), ok_t25 a0 → ok_t26 a1 → ok_t30 a2 → ok_t30 a3 → ok_t3 a4 → ok_t3 a5 → bulk_t25 a0 + bulk_t26 a1 + bulk_t30 a2 + bulk_t30 a3 + bulk_t3 a4 + bulk_t3 a5 ≤ 1048576 → (law25_RoadmapNew_C a0 a1 a2 a3 a4 a5).o = some true) (os : Os) (started : os.Started) (H : Type) (enc : TypeId × Value → H) (F : Stop.Interp) :
    ReturnsInHanded {} Tryz.checked os 4 .any ((Rows.OpenSpec.upto Rows.roadmapNewSpec).pre6 enc Tryz.prog Tryz.f4 Rows.roadmapNewUptoRow.domain false) (((Rows.OpenSpec.upto Rows.roadmapNewSpec).at F).post enc Tryz.prog Tryz.f4 false true false false) := by
  refine returnsInHanded_of_cond (C := Tryz.checked) (s := Rows.OpenSpec.upto Rows.roadmapNewSpec) (k := Rows.uptoSmall) rfl own started (by kernel_rfl) Tryz.func4
    (OpenSpec.witness (enc := enc) (C := Tryz.checked) (s := Rows.OpenSpec.upto Rows.roadmapNewSpec) (k := Rows.uptoSmall) rfl false ⟨#[], #[.agg #[.slice none 0 0, .slice none 0 0], .slice none 0 0, .slice none 0 0, .slice none 0 0, .int .i64 0, .int .i64 0], []⟩ 8 (by kernel_rfl) (by kernel_rfl) (by kernel_rfl)
      (x := ([.agg [.nil, .nil], .nil, .nil, .nil, .lit (.int .i64 0), .lit (.int .i64 0)], [], [])) (by kernel_rfl) rfl (by kernel_rfl)) ?_
  intro W base args ds gs before hval hW _ hk _
  exact contract plain H enc W base args ds gs before hval hW hk
theorem over (plain : ∀ (a0 : S_Robot) (a1 : (List (List Int))) (a2 : (List Int)) (a3 : (List Int)) (a4 : Int) (a5 : Int), ok_t25 a0 → ok_t26 a1 → ok_t30 a2 → ok_t30 a3 → ok_t3 a4 → ok_t3 a5 → bulk_t25 a0 + bulk_t26 a1 + bulk_t30 a2 + bulk_t30 a3 + bulk_t3 a4 + bulk_t3 a5 ≤ 1048576 → (law25_RoadmapNew_C a0 a1 a2 a3 a4 a5).o = some true) : Rows.roadmapNewUptoRow.holds Tryz.pinned (Rows.OpenSpec.upto Rows.roadmapNewSpec) :=
  OpenClaim.holds_of_cond 4 Tryz.f4 rfl rfl rfl rfl rfl rfl rfl ⟨rfl, rfl, rfl, rfl, rfl⟩ rfl rfl rfl rfl rfl (by kernel_rfl) Tryz.func4 closed
    (of_decide_eq_true (by kernel_rfl)) (by unfold Func.isWrapper; first | (rw [if_pos (by decide +kernel)]; kernel_rfl) | (rw [if_neg (by decide +kernel)]; exact ⟨rfl, rfl⟩))
    (fun os started H enc _ F => lifted plain os started H enc F)
end roadmapNew
end Go.Abs
