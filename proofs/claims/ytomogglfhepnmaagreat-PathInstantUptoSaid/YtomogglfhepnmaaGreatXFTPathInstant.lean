/-
  TPathInstant (a part of a claim: our own text).
-/
import Derived.Test.YtomogglfhepnmaaGreatXFTop
import Derived.Test.YtomogglfhepnmaaGreatXFD3
import Derived.Test.YtomogglfhepnmaaGreatXFJPathInstantb
namespace Go.Abs
open Go.Proofs Go.Proofs.YtomogglfhepnmaaGreat Go.ChangeShapes Go.WideShapes Go.ChangeAt Go.RowKit
namespace pathInstant
def vze (v : Int) : List PVal := [.int .i64 v]
def nzl (v : Int) : Prop := (Lit.int .i64 v).wf = true
def cz2 (_ : Int) : Nat := 1
theorem wz5 : Rep Tryz.prog 3 vze nzl cz2 := Izj (by kernel_rfl)
def zzm (v : (List Int)) : List PVal := [encL 1 az3 v]
def lzk (v : (List Int)) : Prop := ∀ a ∈ v, nzl a
def czl (v : (List Int)) : Nat := (v.map cz2).sum + 1
theorem Bz1 : Rep Tryz.prog 22 zzm lzk czl := Bz0 (cells := vze) (enc := az3) (sz := 1) (by kernel_rfl) (by kernel_rfl) (by decide) (fun _ => rfl) (fun _ => rfl) wz5
def Jz3 (v : Int) : List PVal := [.int .i64 v]
def Szo (v : Int) : Prop := (Lit.int .i64 v).wf = true
def Lza (_ : Int) : Nat := 1
theorem Szw : Rep Tryz.prog 2 Jz3 Szo Lza := Izj (by kernel_rfl)
def Lzh (v : (List Int)) : List PVal := [encL 1 az3 v]
def Mzu (v : (List Int)) : Prop := ∀ a ∈ v, Szo a
def Czy (v : (List Int)) : Nat := (v.map Lza).sum + 1
theorem Nz8 : Rep Tryz.prog 31 Lzh Mzu Czy := Bz0 (cells := Jz3) (enc := az3) (sz := 1) (by kernel_rfl) (by kernel_rfl) (by decide) (fun _ => rfl) (fun _ => rfl) Szw
def Lzi (v : azy) : List PVal := [.int .i64 v.Pair, encL 1 az3 v.Left, encL 1 az3 v.Right]
def Jzm (v : azy) : Prop := nzl v.Pair ∧ Mzu v.Left ∧ Mzu v.Right ∧ True
def vzd (v : azy) : Nat := (cz2 v.Pair + (Czy v.Left + (Czy v.Right + 0))) + 1
theorem Rza : Rep Tryz.prog 39 Lzi Jzm vzd :=
  (Kzs (fs := [(3, 0), (31, 1), (31, 2)]) (by kernel_rfl) (by kernel_rfl) (by kernel_rfl) (.cons (sz := 1) wz5 (by kernel_rfl) (.cons (sz := 1) Nz8 (by kernel_rfl) (.cons (sz := 1) Nz8 (by kernel_rfl) .nil)))).map (fun p => ⟨p.1, p.2.1, p.2.2.1⟩) (fun _ => rfl) (fun _ h => h) (fun _ => Nat.le_refl _)
theorem bzz {a b : Bool} (h : a = true) (k : b = true) : (a && b) = true := by rw [h, k]; rfl
set_option maxRecDepth 100000 in
theorem Lzk : joinedFacts Tryz.pinned.checked.prog 8 Tryz.f8 (Rows.OpenSpec.upto Rows.pathInstantSpec).bare Rows.pathInstantUptoRow = true := by
  unfold joinedFacts
  exact (bzz (bzz (bzz (bzz (bzz (bzz (bzz (bzz (bzz (bzz (bzz (bzz (bzz (bzz (bzz (bzz (bzz (bzz (bzz (bzz (bzz (bzz (bzz (bzz (bzz (bzz (bzz (bzz (bzz (bzz (bzz Rz1 Hzu) rzp) Az9) Dzz) Az6) Ez1) Az5) Dzx) xz9) Mzc) Mza) Hzx) Hzw) Az7) xza) Dzy) Hzy) Ez2) Mzb) rzo) uzq) rzq) Ez0) Dzv) uzr) Az8) Hzv) Dzw) Aza) Azb) Hzt)
theorem own : ownKnob Tryz.prog.godebug = none := by kernel_rfl
set_option maxRecDepth 100000 in
theorem Dz4 (plain : ∀ (a0 : (List Int)) (a1 : (List Int)) (a2 : Int) (a3 : Int) (a4 : Int) (a5 : Int) (a6 : azy), lzk a0 → lzk a1 → nzl a2 → nzl a3 → nzl a4 → nzl a5 → Jzm a6 → czl a0 + czl a1 + cz2 a2 + cz2 a3 + cz2 a4 + cz2 a5 + vzd a6 ≤ 1048576 → (cz0 a0 a1 a2 a3 a4 a5 a6).o = some true) (H : Type) (enc : TypeId × Value → H) (W : World) (base : Nat) (args : Array Value) (ds gs : List (DataW H)) (before : List MemPlace)
    (hval : ∀ (j : Nat) t v, Tryz.f8.params[j]? = some t → args[j]? = some v → Value.okWide Tryz.prog W .any base t v)
    (hW : DataW.Whole enc Tryz.prog Tryz.f8.params.toList Rows.pathInstantSpec.vars false W args.toList ds gs before) (hk : Rows.uptoSmall H (ds ++ gs) = true) :
    Calls Tryz.prog 8 args W fun e W' => ∃ v, e = .returned v ∧ Rows.pathInstantSpec.post enc Tryz.prog Tryz.f8 false true false false W args v W' := by
  have hW' := hW
  obtain ⟨p, q, hA0, hV, rfl, hfz, hnd⟩ := hW
  have hA : DataW.TrodAll enc Tryz.prog W 0 (fun _ => true) true Tryz.f8.params.toList args.toList ds p := hA0
  rw [Tryz.params8] at hA hval
  obtain ⟨v0, vs0, d0, ds0, p0, q0, hargs, rfl, rfl, h0, r0⟩ := trodAll_cons hA
  obtain ⟨v1, vs1, d1, ds1, p1, q1, hargs1, rfl, rfl, h1, r1⟩ := trodAll_cons r0
  subst hargs1
  obtain ⟨v2, vs2, d2, ds2, p2, q2, hargs2, rfl, rfl, h2, r2⟩ := trodAll_cons r1
  subst hargs2
  obtain ⟨v3, vs3, d3, ds3, p3, q3, hargs3, rfl, rfl, h3, r3⟩ := trodAll_cons r2
  subst hargs3
  obtain ⟨v4, vs4, d4, ds4, p4, q4, hargs4, rfl, rfl, h4, r4⟩ := trodAll_cons r3
  subst hargs4
  obtain ⟨v5, vs5, d5, ds5, p5, q5, hargs5, rfl, rfl, h5, r5⟩ := trodAll_cons r4
  subst hargs5
  obtain ⟨v6, vs6, d6, ds6, p6, q6, hargs6, rfl, rfl, h6, r6⟩ := trodAll_cons r5
  subst hargs6
  obtain ⟨rfl, rfl, rfl⟩ := trodAll_nil r6
  obtain rfl : args = #[v0, v1, v2, v3, v4, v5, v6] := by cases args; simp_all
  obtain ⟨rfl, rfl⟩ := trodVars_none hV
  obtain ⟨n0, h0⟩ := h0
  obtain ⟨a0, c0, o0, b0⟩ := Bz1 H enc W _ _ _ h0
  obtain ⟨n1, h1⟩ := h1
  obtain ⟨a1, c1, o1, b1⟩ := Bz1 H enc W _ _ _ h1
  obtain ⟨n2, h2⟩ := h2
  obtain ⟨a2, c2, o2, b2⟩ := wz5 H enc W _ _ _ h2
  obtain ⟨n3, h3⟩ := h3
  obtain ⟨a3, c3, o3, b3⟩ := wz5 H enc W _ _ _ h3
  obtain ⟨n4, h4⟩ := h4
  obtain ⟨a4, c4, o4, b4⟩ := wz5 H enc W _ _ _ h4
  obtain ⟨n5, h5⟩ := h5
  obtain ⟨a5, c5, o5, b5⟩ := wz5 H enc W _ _ _ h5
  obtain ⟨n6, h6⟩ := h6
  obtain ⟨a6, c6, o6, b6⟩ := Rza H enc W _ _ _ h6
  have hb : Rows.uptoBulkAll ([d0, d1, d2, d3, d4, d5, d6] ++ [] : List (DataW H)) ≤ 1048576 := of_decide_eq_true hk
  simp only [List.append_nil, Rows.uptoBulkAll] at hb
  have htrue := plain a0 a1 a2 a3 a4 a5 a6 o0 o1 o2 o3 o4 o5 o6 (by simp only at b0 b1 b2 b3 b4 b5 b6; omega)
  refine yze (bt := 4) ((cz0 a0 a1 a2 a3 a4 a5 a6).ok _ htrue) (fun ρ => ezi (pzq (P := Tryz.prog) (hval 0 22 v0 rfl rfl) (by kernel_rfl) c0) (ezi (pzq (P := Tryz.prog) (hval 1 22 v1 rfl rfl) (by kernel_rfl) c1) (ezi (pzq (P := Tryz.prog) (hval 2 3 v2 rfl rfl) (by kernel_rfl) c2) (ezi (pzq (P := Tryz.prog) (hval 3 3 v3 rfl rfl) (by kernel_rfl) c3) (ezi (pzq (P := Tryz.prog) (hval 4 3 v4 rfl rfl) (by kernel_rfl) c4) (ezi (pzq (P := Tryz.prog) (hval 5 3 v5 rfl rfl) (by kernel_rfl) c5) (ezi (Qz8 (P := Tryz.prog) (hval 6 39 v6 rfl rfl) (by kernel_rfl) c6) (Fz4)))))))) hW' rfl rfl (by kernel_rfl) (by kernel_rfl) (slices_full_of _ (by kernel_rfl)) ?_ (by kernel_rfl) (by kernel_rfl)
  have hs : Tryz.prog.types.size = 368 := by kernel_rfl
  rw [Tryz.params8, hs]; simp only [List.mem_cons, List.not_mem_nil, or_false]
  rintro t (rfl | rfl | rfl | rfl | rfl | rfl | rfl) <;> decide
set_option maxRecDepth 100000 in
theorem lifted (plain : ∀ (a0 : (List Int)) (a1 : (List Int)) (a2 : Int) (a3 : Int) (a4 : Int) (a5 : Int) (a6 : azy), lzk a0 → lzk a1 → nzl a2 → nzl a3 → nzl a4 → nzl a5 → Jzm a6 → czl a0 + czl a1 + cz2 a2 + cz2 a3 + cz2 a4 + cz2 a5 + vzd a6 ≤ 1048576 → (cz0 a0 a1 a2 a3 a4 a5 a6).o = some true) (os : Os) (started : os.Started) (H : Type) (enc : TypeId × Value → H) (F : Stop.Interp) :
    ReturnsInHanded {} Tryz.checked os 8 .any ((Rows.OpenSpec.upto Rows.pathInstantSpec).pre6 enc Tryz.prog Tryz.f8 Rows.pathInstantUptoRow.domain false) (((Rows.OpenSpec.upto Rows.pathInstantSpec).at F).post enc Tryz.prog Tryz.f8 false true false false) := by
  refine returnsInHanded_of_cond (C := Tryz.checked) (s := Rows.OpenSpec.upto Rows.pathInstantSpec) (k := Rows.uptoSmall) rfl own started (by kernel_rfl) Tryz.func8
    (OpenSpec.witness (enc := enc) (C := Tryz.checked) (s := Rows.OpenSpec.upto Rows.pathInstantSpec) (k := Rows.uptoSmall) rfl false ⟨#[], #[.slice none 0 0, .slice none 0 0, .int .i64 0, .int .i64 0, .int .i64 0, .int .i64 0, .agg #[.int .i64 0, .slice none 0 0, .slice none 0 0]], []⟩ 8 (by kernel_rfl) (by kernel_rfl) (by kernel_rfl)
      (x := ([.nil, .nil, .lit (.int .i64 0), .lit (.int .i64 0), .lit (.int .i64 0), .lit (.int .i64 0), .agg [.lit (.int .i64 0), .nil, .nil]], [], [])) (by kernel_rfl) rfl (by kernel_rfl)) ?_
  intro W base args ds gs before hval hW _ hk _
  exact Dz4 plain H enc W base args ds gs before hval hW hk
theorem over (plain : ∀ (a0 : (List Int)) (a1 : (List Int)) (a2 : Int) (a3 : Int) (a4 : Int) (a5 : Int) (a6 : azy), lzk a0 → lzk a1 → nzl a2 → nzl a3 → nzl a4 → nzl a5 → Jzm a6 → czl a0 + czl a1 + cz2 a2 + cz2 a3 + cz2 a4 + cz2 a5 + vzd a6 ≤ 1048576 → (cz0 a0 a1 a2 a3 a4 a5 a6).o = some true) : Rows.pathInstantUptoRow.holds Tryz.pinned (Rows.OpenSpec.upto Rows.pathInstantSpec) :=
  OpenClaim.holds_of_cond 8 Tryz.f8 rfl rfl rfl rfl rfl rfl rfl ⟨rfl, rfl, rfl, rfl, rfl⟩ rfl rfl rfl rfl rfl (by kernel_rfl) Tryz.func8 Lzk
    (of_decide_eq_true (by kernel_rfl)) (by unfold Func.isWrapper; first | (rw [if_pos (by decide +kernel)]; kernel_rfl) | (rw [if_neg (by decide +kernel)]; exact ⟨rfl, rfl⟩))
    (fun os started H enc _ F => lifted plain os started H enc F)
end pathInstant
end Go.Abs
