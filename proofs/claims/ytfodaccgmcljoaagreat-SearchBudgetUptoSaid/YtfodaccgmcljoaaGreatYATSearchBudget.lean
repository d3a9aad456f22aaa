/-
  TSearchBudget (a part of a claim: our own text).
-/
import Derived.Test.YtfodaccgmcljoaaGreatYATop
import Derived.Test.YtfodaccgmcljoaaGreatYAD3
import Derived.Test.YtfodaccgmcljoaaGreatYAJSearchBudgetb
namespace Go.Abs
open Go.Proofs Go.Proofs.YtfodaccgmcljoaaGreat Go.ChangeShapes Go.WideShapes Go.ChangeAt Go.RowKit
namespace searchBudget
def Izl (v : Int) : List PVal := [.int .i64 v]
def rzu (v : Int) : Prop := (Lit.int .i64 v).wf = true
def dz9 (_ : Int) : Nat := 1
theorem Czd : Rep Tryz.prog 3 Izl rzu dz9 := Rzh (by kernel_rfl)
def Kzp (v : (List Int)) : List PVal := [encL 1 az3 v]
def Az9 (v : (List Int)) : Prop := ∀ a ∈ v, rzu a
def izz (v : (List Int)) : Nat := (v.map dz9).sum + 1
theorem Mzf : Rep Tryz.prog 34 Kzp Az9 izz := Mze (cells := Izl) (enc := az3) (sz := 1) (by kernel_rfl) (by kernel_rfl) (by decide) (fun _ => rfl) (fun _ => rfl) Czd
theorem gzc {a b : Bool} (h : a = true) (k : b = true) : (a && b) = true := by rw [h, k]; rfl
set_option maxRecDepth 100000 in
theorem Sze : joinedFacts Tryz.pinned.checked.prog 6 Tryz.f6 (Rows.OpenSpec.upto Rows.searchBudgetSpec).bare Rows.searchBudgetUptoRow = true := by
  unfold joinedFacts
  exact (gzc (gzc (gzc (gzc (gzc (gzc (gzc (gzc (gzc (gzc (gzc (gzc (gzc (gzc (gzc (gzc (gzc (gzc (gzc (gzc (gzc (gzc (gzc (gzc (gzc (gzc (gzc (gzc (gzc (gzc (gzc Tzw Rz2) Fzh) Lzm) Oz4) Lzj) Oz6) Lzi) Oz2) Jzt) Szv) Szt) Rz5) Rz4) Lzk) Jzu) Oz3) Rz6) Oz7) Szu) Fzg) Hzf) Fzi) Oz5) Oz0) Hzg) Lzl) Rz3) Oz1) Lzn) Lzo) Rz1)
theorem own : ownKnob Tryz.prog.godebug = none := by kernel_rfl
set_option maxRecDepth 100000 in
theorem Nzh (plain : ∀ (a0 : (List Int)) (a1 : (List Int)) (a2 : Int) (a3 : Int) (a4 : Int) (a5 : Int) (a6 : Int), Az9 a0 → Az9 a1 → rzu a2 → rzu a3 → rzu a4 → rzu a5 → rzu a6 → izz a0 + izz a1 + dz9 a2 + dz9 a3 + dz9 a4 + dz9 a5 + dz9 a6 ≤ 1048576 → (czl a0 a1 a2 a3 a4 a5 a6).o = some true) (H : Type) (enc : TypeId × Value → H) (W : World) (base : Nat) (args : Array Value) (ds gs : List (DataW H)) (before : List MemPlace)
    (hval : ∀ (j : Nat) t v, Tryz.f6.params[j]? = some t → args[j]? = some v → Value.okWide Tryz.prog W .any base t v)
    (hW : DataW.Whole enc Tryz.prog Tryz.f6.params.toList Rows.searchBudgetSpec.vars false W args.toList ds gs before) (hk : Rows.uptoSmall H (ds ++ gs) = true) :
    Calls Tryz.prog 6 args W fun e W' => ∃ v, e = .returned v ∧ Rows.searchBudgetSpec.post enc Tryz.prog Tryz.f6 false true false false W args v W' := by
  have hW' := hW
  obtain ⟨p, q, hA0, hV, rfl, hfz, hnd⟩ := hW
  have hA : DataW.TrodAll enc Tryz.prog W 0 (fun _ => true) true Tryz.f6.params.toList args.toList ds p := hA0
  rw [Tryz.params6] at hA hval
  obtain ⟨v0, vs0, d0, ds0, p0, q0, hargs, rfl, rfl, h0, r0⟩ := trodAll_cons hA
  obtain ⟨v1, vs1, d1, ds1, p1, q1, hargs1, rfl, rfl, h1, r1⟩ := trodAll_cons r0
  subst hargs1
  obtain ⟨v2, vs2, d2, ds2, p2, q2, hargs2, rfl, rfl, h2, r2⟩ := trodAll_cons r1
  subst hargs2
  obtain ⟨v3, vs3, d3, ds3, p3, q3, hargs3, rfl, rfl, h3, r3⟩ := trodAll_cons r2
  subst hargs3
  obtain ⟨v4, vs4, d4, ds4, p4, q4, hargs4, rfl, rfl, h4, r4⟩ := trodAll_cons r3
  subst hargs4
  obtain ⟨v5, vs5, d5, ds5, p5, q5, hargs5, rfl, rfl, h5, r5⟩ := trodAll_cons r4
  subst hargs5
  obtain ⟨v6, vs6, d6, ds6, p6, q6, hargs6, rfl, rfl, h6, r6⟩ := trodAll_cons r5
  subst hargs6
  obtain ⟨rfl, rfl, rfl⟩ := trodAll_nil r6
  obtain rfl : args = #[v0, v1, v2, v3, v4, v5, v6] := by cases args; simp_all
  obtain ⟨rfl, rfl⟩ := trodVars_none hV
  obtain ⟨n0, h0⟩ := h0
  obtain ⟨a0, c0, o0, b0⟩ := Mzf H enc W _ _ _ h0
  obtain ⟨n1, h1⟩ := h1
  obtain ⟨a1, c1, o1, b1⟩ := Mzf H enc W _ _ _ h1
  obtain ⟨n2, h2⟩ := h2
  obtain ⟨a2, c2, o2, b2⟩ := Czd H enc W _ _ _ h2
  obtain ⟨n3, h3⟩ := h3
  obtain ⟨a3, c3, o3, b3⟩ := Czd H enc W _ _ _ h3
  obtain ⟨n4, h4⟩ := h4
  obtain ⟨a4, c4, o4, b4⟩ := Czd H enc W _ _ _ h4
  obtain ⟨n5, h5⟩ := h5
  obtain ⟨a5, c5, o5, b5⟩ := Czd H enc W _ _ _ h5
  obtain ⟨n6, h6⟩ := h6
  obtain ⟨a6, c6, o6, b6⟩ := Czd H enc W _ _ _ h6
  have hb : Rows.uptoBulkAll ([d0, d1, d2, d3, d4, d5, d6] ++ [] : List (DataW H)) ≤ 1048576 := of_decide_eq_true hk
  simp only [List.append_nil, Rows.uptoBulkAll] at hb
  have htrue := plain a0 a1 a2 a3 a4 a5 a6 o0 o1 o2 o3 o4 o5 o6 (by simp only at b0 b1 b2 b3 b4 b5 b6; omega)
  refine Gz5 (bt := 4) ((czl a0 a1 a2 a3 a4 a5 a6).ok _ htrue) (fun ρ => iz3 (uzl (P := Tryz.prog) (hval 0 34 v0 rfl rfl) (by kernel_rfl) c0) (iz3 (uzl (P := Tryz.prog) (hval 1 34 v1 rfl rfl) (by kernel_rfl) c1) (iz3 (uzl (P := Tryz.prog) (hval 2 3 v2 rfl rfl) (by kernel_rfl) c2) (iz3 (uzl (P := Tryz.prog) (hval 3 3 v3 rfl rfl) (by kernel_rfl) c3) (iz3 (uzl (P := Tryz.prog) (hval 4 3 v4 rfl rfl) (by kernel_rfl) c4) (iz3 (uzl (P := Tryz.prog) (hval 5 3 v5 rfl rfl) (by kernel_rfl) c5) (iz3 (uzl (P := Tryz.prog) (hval 6 3 v6 rfl rfl) (by kernel_rfl) c6) (Kzh)))))))) hW' rfl rfl (by kernel_rfl) (by kernel_rfl) (slices_full_of _ (by kernel_rfl)) ?_ (by kernel_rfl) (by kernel_rfl)
  have hs : Tryz.prog.types.size = 364 := by kernel_rfl
  rw [Tryz.params6, hs]; simp only [List.mem_cons, List.not_mem_nil, or_false]
  rintro t (rfl | rfl | rfl | rfl | rfl | rfl | rfl) <;> decide
set_option maxRecDepth 100000 in
theorem lifted (plain : ∀ (a0 : (List Int)) (a1 : (List Int)) (a2 : Int) (a3 : Int) (a4 : Int) (a5 : Int) (a6 : Int), Az9 a0 → Az9 a1 → rzu a2 → rzu a3 → rzu a4 → rzu a5 → rzu a6 → izz a0 + izz a1 + dz9 a2 + dz9 a3 + dz9 a4 + dz9 a5 + dz9 a6 ≤ 1048576 → (czl a0 a1 a2 a3 a4 a5 a6).o = some true) (os : Os) (started : os.Started) (H : Type) (enc : TypeId × Value → H) (F : Stop.Interp) :
    ReturnsInHanded {} Tryz.checked os 6 .any ((Rows.OpenSpec.upto Rows.searchBudgetSpec).pre6 enc Tryz.prog Tryz.f6 Rows.searchBudgetUptoRow.domain false) (((Rows.OpenSpec.upto Rows.searchBudgetSpec).at F).post enc Tryz.prog Tryz.f6 false true false false) := by
  refine returnsInHanded_of_cond (C := Tryz.checked) (s := Rows.OpenSpec.upto Rows.searchBudgetSpec) (k := Rows.uptoSmall) rfl own started (by kernel_rfl) Tryz.func6
    (OpenSpec.witness (enc := enc) (C := Tryz.checked) (s := Rows.OpenSpec.upto Rows.searchBudgetSpec) (k := Rows.uptoSmall) rfl false ⟨#[], #[.slice none 0 0, .slice none 0 0, .int .i64 0, .int .i64 0, .int .i64 0, .int .i64 0, .int .i64 0], []⟩ 8 (by kernel_rfl) (by kernel_rfl) (by kernel_rfl)
      (x := ([.nil, .nil, .lit (.int .i64 0), .lit (.int .i64 0), .lit (.int .i64 0), .lit (.int .i64 0), .lit (.int .i64 0)], [], [])) (by kernel_rfl) rfl (by kernel_rfl)) ?_
  intro W base args ds gs before hval hW _ hk _
  exact Nzh plain H enc W base args ds gs before hval hW hk
theorem over (plain : ∀ (a0 : (List Int)) (a1 : (List Int)) (a2 : Int) (a3 : Int) (a4 : Int) (a5 : Int) (a6 : Int), Az9 a0 → Az9 a1 → rzu a2 → rzu a3 → rzu a4 → rzu a5 → rzu a6 → izz a0 + izz a1 + dz9 a2 + dz9 a3 + dz9 a4 + dz9 a5 + dz9 a6 ≤ 1048576 → (czl a0 a1 a2 a3 a4 a5 a6).o = some true) : Rows.searchBudgetUptoRow.holds Tryz.pinned (Rows.OpenSpec.upto Rows.searchBudgetSpec) :=
  OpenClaim.holds_of_cond 6 Tryz.f6 rfl rfl rfl rfl rfl rfl rfl ⟨rfl, rfl, rfl, rfl, rfl⟩ rfl rfl rfl rfl rfl (by kernel_rfl) Tryz.func6 Sze
    (of_decide_eq_true (by kernel_rfl)) (by unfold Func.isWrapper; first | (rw [if_pos (by decide +kernel)]; kernel_rfl) | (rw [if_neg (by decide +kernel)]; exact ⟨rfl, rfl⟩))
    (fun os started H enc _ F => lifted plain os started H enc F)
end searchBudget
end Go.Abs
