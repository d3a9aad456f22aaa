/-
  TEdgeProves (a part of a claim: our own text).
-/
import Derived.Test.YtnehaejghnoigaaGreatXCTop
import Derived.Test.YtnehaejghnoigaaGreatXCD3
import Derived.Test.YtnehaejghnoigaaGreatXCJEdgeProvesb
namespace Go.Abs
open Go.Proofs Go.Proofs.YtnehaejghnoigaaGreat Go.ChangeShapes Go.WideShapes Go.ChangeAt Go.RowKit
namespace edgeProves
def Qzr (v : ByteArray) : List PVal := [.str v]
def Vzt (_ : ByteArray) : Prop := True
def Oz0 (v : ByteArray) : Nat := v.size + 1
theorem Vzy : Rep Tryz.prog 9 Qzr Vzt Oz0 := Nzj (by kernel_rfl)
def Mzb (v : Int) : List PVal := [.int .i64 v]
def Dz1 (v : Int) : Prop := (Lit.int .i64 v).wf = true
def gzf (_ : Int) : Nat := 1
theorem Bz2 : Rep Tryz.prog 3 Mzb Dz1 gzf := Pzu (by kernel_rfl)
def Mza (v : Int) : List PVal := [.int .i64 v]
def zzn (v : Int) : Prop := (Lit.int .i64 v).wf = true
def gze (_ : Int) : Nat := 1
theorem sz8 : Rep Tryz.prog 2 Mza zzn gze := Pzu (by kernel_rfl)
def Iz8 (v : (Int × Int × Int)) : List PVal := [.int .i64 v.1, .int .i64 v.2.1, .int .i64 v.2.2]
def Mzo (v : (Int × Int × Int)) : Prop := zzn v.1 ∧ zzn v.2.1 ∧ zzn v.2.2 ∧ True
def Bzq (v : (Int × Int × Int)) : Nat := (gze v.1 + (gze v.2.1 + (gze v.2.2 + 0))) + 1
theorem Lzj : Rep Tryz.prog 49 Iz8 Mzo Bzq :=
  (Pzt (e := 2) (n := 3) (sz := 1) (fs := [(2, 0), (2, 1), (2, 2)]) (by kernel_rfl) (by kernel_rfl) (by kernel_rfl) (by kernel_rfl) (.cons (sz := 1) sz8 (by kernel_rfl) (.cons (sz := 1) sz8 (by kernel_rfl) (.cons (sz := 1) sz8 (by kernel_rfl) .nil)))).map (fun p => (p.1, p.2.1, p.2.2.1)) (fun _ => rfl) (fun _ h => h) (fun _ => Nat.le_refl _)
def Ezy (v : azi) : List PVal := [.str v.Name, .int .i64 v.Kind, .int .i64 v.Parent, .int .i64 v.Offset.1, .int .i64 v.Offset.2.1, .int .i64 v.Offset.2.2, .int .i64 v.Lo, .int .i64 v.Hi, .int .i64 v.Weight, .int .i64 v.Speed, .int .i64 v.Accel, .int .i64 v.Torque]
def Pzj (v : azi) : Prop := Vzt v.Name ∧ Dz1 v.Kind ∧ Dz1 v.Parent ∧ Mzo v.Offset ∧ zzn v.Lo ∧ zzn v.Hi ∧ zzn v.Weight ∧ zzn v.Speed ∧ zzn v.Accel ∧ zzn v.Torque ∧ True
def Iz3 (v : azi) : Nat := (Oz0 v.Name + (gzf v.Kind + (gzf v.Parent + (Bzq v.Offset + (gze v.Lo + (gze v.Hi + (gze v.Weight + (gze v.Speed + (gze v.Accel + (gze v.Torque + 0)))))))))) + 1
theorem Rzo : Rep Tryz.prog 147 Ezy Pzj Iz3 :=
  (lz9 (fs := [(9, 0), (3, 1), (3, 2), (49, 3), (2, 6), (2, 7), (2, 8), (2, 9), (2, 10), (2, 11)]) (by kernel_rfl) (by kernel_rfl) (by kernel_rfl) (.cons (sz := 1) Vzy (by kernel_rfl) (.cons (sz := 1) Bz2 (by kernel_rfl) (.cons (sz := 1) Bz2 (by kernel_rfl) (.cons (sz := 3) Lzj (by kernel_rfl) (.cons (sz := 1) sz8 (by kernel_rfl) (.cons (sz := 1) sz8 (by kernel_rfl) (.cons (sz := 1) sz8 (by kernel_rfl) (.cons (sz := 1) sz8 (by kernel_rfl) (.cons (sz := 1) sz8 (by kernel_rfl) (.cons (sz := 1) sz8 (by kernel_rfl) .nil))))))))))).map (fun p => ⟨p.1, p.2.1, p.2.2.1, p.2.2.2.1, p.2.2.2.2.1, p.2.2.2.2.2.1, p.2.2.2.2.2.2.1, p.2.2.2.2.2.2.2.1, p.2.2.2.2.2.2.2.2.1, p.2.2.2.2.2.2.2.2.2.1⟩) (fun _ => rfl) (fun _ h => h) (fun _ => Nat.le_refl _)
def Oz5 (v : (List azi)) : List PVal := [encL 12 az9 v]
def Szp (v : (List azi)) : Prop := ∀ a ∈ v, Pzj a
def Mz3 (v : (List azi)) : Nat := (v.map Iz3).sum + 1
theorem Uz5 : Rep Tryz.prog 22 Oz5 Szp Mz3 := mz6 (cells := Ezy) (enc := az9) (sz := 12) (by kernel_rfl) (by kernel_rfl) (by decide) (fun _ => rfl) (fun _ => rfl) Rzo
def Fz0 (v : bza) : List PVal := [.int .i64 v.Link, .int .i64 v.Mass, .int .i64 v.Point.1, .int .i64 v.Point.2.1, .int .i64 v.Point.2.2]
def Pzl (v : bza) : Prop := Dz1 v.Link ∧ zzn v.Mass ∧ Mzo v.Point ∧ True
def Iz5 (v : bza) : Nat := (gzf v.Link + (gze v.Mass + (Bzq v.Point + 0))) + 1
theorem Rzq : Rep Tryz.prog 208 Fz0 Pzl Iz5 :=
  (lz9 (fs := [(3, 0), (2, 1), (49, 2)]) (by kernel_rfl) (by kernel_rfl) (by kernel_rfl) (.cons (sz := 1) Bz2 (by kernel_rfl) (.cons (sz := 1) sz8 (by kernel_rfl) (.cons (sz := 3) Lzj (by kernel_rfl) .nil)))).map (fun p => ⟨p.1, p.2.1, p.2.2.1⟩) (fun _ => rfl) (fun _ h => h) (fun _ => Nat.le_refl _)
def Oz6 (v : (List bza)) : List PVal := [encL 5 azb v]
def Szq (v : (List bza)) : Prop := ∀ a ∈ v, Pzl a
def Mz4 (v : (List bza)) : Nat := (v.map Iz5).sum + 1
theorem Uz6 : Rep Tryz.prog 23 Oz6 Szq Mz4 := mz6 (cells := Fz0) (enc := azb) (sz := 5) (by kernel_rfl) (by kernel_rfl) (by decide) (fun _ => rfl) (fun _ => rfl) Rzq
def Oz7 (v : azm) : List PVal := [encL 12 az9 v.Joints, encL 5 azb v.Masses]
def Szr (v : azm) : Prop := Szp v.Joints ∧ Szq v.Masses ∧ True
def Mz5 (v : azm) : Nat := (Mz3 v.Joints + (Mz4 v.Masses + 0)) + 1
theorem Uz7 : Rep Tryz.prog 25 Oz7 Szr Mz5 :=
  (lz9 (fs := [(22, 0), (23, 1)]) (by kernel_rfl) (by kernel_rfl) (by kernel_rfl) (.cons (sz := 1) Uz5 (by kernel_rfl) (.cons (sz := 1) Uz6 (by kernel_rfl) .nil))).map (fun p => ⟨p.1, p.2.1⟩) (fun _ => rfl) (fun _ h => h) (fun _ => Nat.le_refl _)
def Ozd (v : (List (Int × Int × Int))) : List PVal := [encL 3 az1 v]
def Szu (v : (List (Int × Int × Int))) : Prop := ∀ a ∈ v, Mzo a
def Mz8 (v : (List (Int × Int × Int))) : Nat := (v.map Bzq).sum + 1
theorem Uzb : Rep Tryz.prog 35 Ozd Szu Mz8 := mz6 (cells := Iz8) (enc := az1) (sz := 3) (by kernel_rfl) (by kernel_rfl) (by decide) (fun _ => rfl) (fun _ => rfl) Lzj
def Ezx (v : azn) : List PVal := [.int .i64 v.Link, .int .i64 v.Radius, encL 3 az1 v.Points]
def Pzi (v : azn) : Prop := Dz1 v.Link ∧ zzn v.Radius ∧ Szu v.Points ∧ True
def Iz2 (v : azn) : Nat := (gzf v.Link + (gze v.Radius + (Mz8 v.Points + 0))) + 1
theorem Rzn : Rep Tryz.prog 108 Ezx Pzi Iz2 :=
  (lz9 (fs := [(3, 0), (2, 1), (35, 2)]) (by kernel_rfl) (by kernel_rfl) (by kernel_rfl) (.cons (sz := 1) Bz2 (by kernel_rfl) (.cons (sz := 1) sz8 (by kernel_rfl) (.cons (sz := 1) Uzb (by kernel_rfl) .nil)))).map (fun p => ⟨p.1, p.2.1, p.2.2.1⟩) (fun _ => rfl) (fun _ h => h) (fun _ => Nat.le_refl _)
def Oz8 (v : (List azn)) : List PVal := [encL 3 azd v]
def Szs (v : (List azn)) : Prop := ∀ a ∈ v, Pzi a
def Mz6 (v : (List azn)) : Nat := (v.map Iz2).sum + 1
theorem Uz8 : Rep Tryz.prog 26 Oz8 Szs Mz6 := mz6 (cells := Ezx) (enc := azd) (sz := 3) (by kernel_rfl) (by kernel_rfl) (by decide) (fun _ => rfl) (fun _ => rfl) Rzn
def Ezz (v : ezc) : List PVal := [.int .i64 v.A, .int .i64 v.B]
def Pzk (v : ezc) : Prop := Dz1 v.A ∧ Dz1 v.B ∧ True
def Iz4 (v : ezc) : Nat := (gzf v.A + (gzf v.B + 0)) + 1
theorem Rzp : Rep Tryz.prog 154 Ezz Pzk Iz4 :=
  (lz9 (fs := [(3, 0), (3, 1)]) (by kernel_rfl) (by kernel_rfl) (by kernel_rfl) (.cons (sz := 1) Bz2 (by kernel_rfl) (.cons (sz := 1) Bz2 (by kernel_rfl) .nil))).map (fun p => ⟨p.1, p.2.1⟩) (fun _ => rfl) (fun _ h => h) (fun _ => Nat.le_refl _)
def Oz9 (v : (List ezc)) : List PVal := [encL 2 azq v]
def Szt (v : (List ezc)) : Prop := ∀ a ∈ v, Pzk a
def Mz7 (v : (List ezc)) : Nat := (v.map Iz4).sum + 1
theorem Uz9 : Rep Tryz.prog 27 Oz9 Szt Mz7 := mz6 (cells := Ezz) (enc := azq) (sz := 2) (by kernel_rfl) (by kernel_rfl) (by decide) (fun _ => rfl) (fun _ => rfl) Rzp
def Oza (v : aza) : List PVal := [encL 12 az9 v.Robot.Joints, encL 5 azb v.Robot.Masses, encL 3 azd v.Shapes, encL 2 azq v.Skips]
def Mzn (v : aza) : Prop := Szr v.Robot ∧ Szs v.Shapes ∧ Szt v.Skips ∧ True
def xz1 (v : aza) : Nat := (Mz5 v.Robot + (Mz6 v.Shapes + (Mz7 v.Skips + 0))) + 1
theorem Uza : Rep Tryz.prog 29 Oza Mzn xz1 :=
  (lz9 (fs := [(25, 0), (26, 2), (27, 3)]) (by kernel_rfl) (by kernel_rfl) (by kernel_rfl) (.cons (sz := 2) Uz7 (by kernel_rfl) (.cons (sz := 1) Uz8 (by kernel_rfl) (.cons (sz := 1) Uz9 (by kernel_rfl) .nil)))).map (fun p => ⟨p.1, p.2.1, p.2.2.1⟩) (fun _ => rfl) (fun _ h => h) (fun _ => Nat.le_refl _)
def Ozb (v : (List Int)) : List PVal := [encL 1 az3 v]
def Dz2 (v : (List Int)) : Prop := ∀ a ∈ v, zzn a
def jz0 (v : (List Int)) : Nat := (v.map gze).sum + 1
theorem Pzv : Rep Tryz.prog 30 Ozb Dz2 jz0 := mz6 (cells := Mza) (enc := az3) (sz := 1) (by kernel_rfl) (by kernel_rfl) (by decide) (fun _ => rfl) (fun _ => rfl) sz8
def Ozc (v : (List Int)) : List PVal := [encL 1 az3 v]
def vzk (v : (List Int)) : Prop := ∀ a ∈ v, Dz1 a
def ezx (v : (List Int)) : Nat := (v.map gzf).sum + 1
theorem Lzi : Rep Tryz.prog 32 Ozc vzk ezx := mz6 (cells := Mzb) (enc := az3) (sz := 1) (by kernel_rfl) (by kernel_rfl) (by decide) (fun _ => rfl) (fun _ => rfl) Bz2
theorem gzb {a b : Bool} (h : a = true) (k : b = true) : (a && b) = true := by rw [h, k]; rfl
set_option maxRecDepth 100000 in
theorem Vz4 : joinedFacts Tryz.pinned.checked.prog 6 Tryz.f6 (Rows.OpenSpec.upto Rows.edgeProvesSpec).bare Rows.edgeProvesUptoRow = true := by
  unfold joinedFacts
  exact (gzb (gzb (gzb (gzb (gzb (gzb (gzb (gzb (gzb (gzb (gzb (gzb (gzb (gzb (gzb (gzb (gzb (gzb (gzb (gzb (gzb (gzb (gzb (gzb (gzb (gzb (gzb (gzb (gzb (gzb (gzb Wzf Tzs) Izx) Pz4) Rzd) Pz1) Rzf) Pz0) Rzb) Nzc) Vzl) Vzj) Tzv) Tzu) Pz2) Nzd) Rzc) Tzw) Rzg) Vzk) Izw) Kzx) Izy) Rze) Rz9) Kzy) Pz3) Tzt) Rza) Pz5) Pz6) Tzr)
theorem own : ownKnob Tryz.prog.godebug = none := by kernel_rfl
set_option maxRecDepth 100000 in
theorem Qzt (plain : ∀ (a0 : aza) (a1 : (List Int)) (a2 : (List Int)) (a3 : (List Int)) (a4 : (List Int)) (a5 : (List Int)) (a6 : Int), Mzn a0 → Dz2 a1 → Dz2 a2 → vzk a3 → vzk a4 → vzk a5 → Dz1 a6 → xz1 a0 + jz0 a1 + jz0 a2 + ezx a3 + ezx a4 + ezx a5 + gzf a6 ≤ 1048576 → (czg a0 a1 a2 a3 a4 a5 a6).o = some true) (H : Type) (enc : TypeId × Value → H) (W : World) (base : Nat) (args : Array Value) (ds gs : List (DataW H)) (before : List MemPlace)
    (hval : ∀ (j : Nat) t v, Tryz.f6.params[j]? = some t → args[j]? = some v → Value.okWide Tryz.prog W .any base t v)
    (hW : DataW.Whole enc Tryz.prog Tryz.f6.params.toList Rows.edgeProvesSpec.vars false W args.toList ds gs before) (hk : Rows.uptoSmall H (ds ++ gs) = true) :
    Calls Tryz.prog 6 args W fun e W' => ∃ v, e = .returned v ∧ Rows.edgeProvesSpec.post enc Tryz.prog Tryz.f6 false true false false W args v W' := by
  have hW' := hW
  obtain ⟨p, q, hA0, hV, rfl, hfz, hnd⟩ := hW
  have hA : DataW.TrodAll enc Tryz.prog W 0 (fun _ => true) true Tryz.f6.params.toList args.toList ds p := hA0
  rw [Tryz.params6] at hA hval
  obtain ⟨v0, vs0, d0, ds0, p0, q0, hargs, rfl, rfl, h0, r0⟩ := trodAll_cons hA
  obtain ⟨v1, vs1, d1, ds1, p1, q1, hargs1, rfl, rfl, h1, r1⟩ := trodAll_cons r0
  subst hargs1
  obtain ⟨v2, vs2, d2, ds2, p2, q2, hargs2, rfl, rfl, h2, r2⟩ := trodAll_cons r1
  subst hargs2
  obtain ⟨v3, vs3, d3, ds3, p3, q3, hargs3, rfl, rfl, h3, r3⟩ := trodAll_cons r2
  subst hargs3
  obtain ⟨v4, vs4, d4, ds4, p4, q4, hargs4, rfl, rfl, h4, r4⟩ := trodAll_cons r3
  subst hargs4
  obtain ⟨v5, vs5, d5, ds5, p5, q5, hargs5, rfl, rfl, h5, r5⟩ := trodAll_cons r4
  subst hargs5
  obtain ⟨v6, vs6, d6, ds6, p6, q6, hargs6, rfl, rfl, h6, r6⟩ := trodAll_cons r5
  subst hargs6
  obtain ⟨rfl, rfl, rfl⟩ := trodAll_nil r6
  obtain rfl : args = #[v0, v1, v2, v3, v4, v5, v6] := by cases args; simp_all
  obtain ⟨rfl, rfl⟩ := trodVars_none hV
  obtain ⟨n0, h0⟩ := h0
  obtain ⟨a0, c0, o0, b0⟩ := Uza H enc W _ _ _ h0
  obtain ⟨n1, h1⟩ := h1
  obtain ⟨a1, c1, o1, b1⟩ := Pzv H enc W _ _ _ h1
  obtain ⟨n2, h2⟩ := h2
  obtain ⟨a2, c2, o2, b2⟩ := Pzv H enc W _ _ _ h2
  obtain ⟨n3, h3⟩ := h3
  obtain ⟨a3, c3, o3, b3⟩ := Lzi H enc W _ _ _ h3
  obtain ⟨n4, h4⟩ := h4
  obtain ⟨a4, c4, o4, b4⟩ := Lzi H enc W _ _ _ h4
  obtain ⟨n5, h5⟩ := h5
  obtain ⟨a5, c5, o5, b5⟩ := Lzi H enc W _ _ _ h5
  obtain ⟨n6, h6⟩ := h6
  obtain ⟨a6, c6, o6, b6⟩ := Bz2 H enc W _ _ _ h6
  have hb : Rows.uptoBulkAll ([d0, d1, d2, d3, d4, d5, d6] ++ [] : List (DataW H)) ≤ 1048576 := of_decide_eq_true hk
  simp only [List.append_nil, Rows.uptoBulkAll] at hb
  have htrue := plain a0 a1 a2 a3 a4 a5 a6 o0 o1 o2 o3 o4 o5 o6 (by simp only at b0 b1 b2 b3 b4 b5 b6; omega)
  refine Jzg (bt := 4) ((czg a0 a1 a2 a3 a4 a5 a6).ok _ htrue) (fun ρ => iz8 (Tz5 (P := Tryz.prog) (hval 0 29 v0 rfl rfl) (by kernel_rfl) c0) (iz8 (zzo (P := Tryz.prog) (hval 1 30 v1 rfl rfl) (by kernel_rfl) c1) (iz8 (zzo (P := Tryz.prog) (hval 2 30 v2 rfl rfl) (by kernel_rfl) c2) (iz8 (zzo (P := Tryz.prog) (hval 3 32 v3 rfl rfl) (by kernel_rfl) c3) (iz8 (zzo (P := Tryz.prog) (hval 4 32 v4 rfl rfl) (by kernel_rfl) c4) (iz8 (zzo (P := Tryz.prog) (hval 5 32 v5 rfl rfl) (by kernel_rfl) c5) (iz8 (zzo (P := Tryz.prog) (hval 6 3 v6 rfl rfl) (by kernel_rfl) c6) (Nzw)))))))) hW' rfl rfl (by kernel_rfl) (by kernel_rfl) (slices_full_of _ (by kernel_rfl)) ?_ (by kernel_rfl) (by kernel_rfl)
  have hs : Tryz.prog.types.size = 335 := by kernel_rfl
  rw [Tryz.params6, hs]; simp only [List.mem_cons, List.not_mem_nil, or_false]
  rintro t (rfl | rfl | rfl | rfl | rfl | rfl | rfl) <;> decide
set_option maxRecDepth 100000 in
theorem lifted (plain : ∀ (a0 : aza) (a1 : (List Int)) (a2 : (List Int)) (a3 : (List Int)) (a4 : (List Int)) (a5 : (List Int)) (a6 : Int), Mzn a0 → Dz2 a1 → Dz2 a2 → vzk a3 → vzk a4 → vzk a5 → Dz1 a6 → xz1 a0 + jz0 a1 + jz0 a2 + ezx a3 + ezx a4 + ezx a5 + gzf a6 ≤ 1048576 → (czg a0 a1 a2 a3 a4 a5 a6).o = some true) (os : Os) (started : os.Started) (H : Type) (enc : TypeId × Value → H) (F : Stop.Interp) :
    ReturnsInHanded {} Tryz.checked os 6 .any ((Rows.OpenSpec.upto Rows.edgeProvesSpec).pre6 enc Tryz.prog Tryz.f6 Rows.edgeProvesUptoRow.domain false) (((Rows.OpenSpec.upto Rows.edgeProvesSpec).at F).post enc Tryz.prog Tryz.f6 false true false false) := by
  refine returnsInHanded_of_cond (C := Tryz.checked) (s := Rows.OpenSpec.upto Rows.edgeProvesSpec) (k := Rows.uptoSmall) rfl own started (by kernel_rfl) Tryz.func6
    (OpenSpec.witness (enc := enc) (C := Tryz.checked) (s := Rows.OpenSpec.upto Rows.edgeProvesSpec) (k := Rows.uptoSmall) rfl false ⟨#[], #[.agg #[.slice none 0 0, .slice none 0 0, .slice none 0 0, .slice none 0 0], .slice none 0 0, .slice none 0 0, .slice none 0 0, .slice none 0 0, .slice none 0 0, .int .i64 0], []⟩ 8 (by kernel_rfl) (by kernel_rfl) (by kernel_rfl)
      (x := ([.agg [.agg [.nil, .nil], .nil, .nil], .nil, .nil, .nil, .nil, .nil, .lit (.int .i64 0)], [], [])) (by kernel_rfl) rfl (by kernel_rfl)) ?_
  intro W base args ds gs before hval hW _ hk _
  exact Qzt plain H enc W base args ds gs before hval hW hk
theorem over (plain : ∀ (a0 : aza) (a1 : (List Int)) (a2 : (List Int)) (a3 : (List Int)) (a4 : (List Int)) (a5 : (List Int)) (a6 : Int), Mzn a0 → Dz2 a1 → Dz2 a2 → vzk a3 → vzk a4 → vzk a5 → Dz1 a6 → xz1 a0 + jz0 a1 + jz0 a2 + ezx a3 + ezx a4 + ezx a5 + gzf a6 ≤ 1048576 → (czg a0 a1 a2 a3 a4 a5 a6).o = some true) : Rows.edgeProvesUptoRow.holds Tryz.pinned (Rows.OpenSpec.upto Rows.edgeProvesSpec) :=
  OpenClaim.holds_of_cond 6 Tryz.f6 rfl rfl rfl rfl rfl rfl rfl ⟨rfl, rfl, rfl, rfl, rfl⟩ rfl rfl rfl rfl rfl (by kernel_rfl) Tryz.func6 Vz4
    (of_decide_eq_true (by kernel_rfl)) (by unfold Func.isWrapper; first | (rw [if_pos (by decide +kernel)]; kernel_rfl) | (rw [if_neg (by decide +kernel)]; exact ⟨rfl, rfl⟩))
    (fun os started H enc _ F => lifted plain os started H enc F)
end edgeProves
end Go.Abs
