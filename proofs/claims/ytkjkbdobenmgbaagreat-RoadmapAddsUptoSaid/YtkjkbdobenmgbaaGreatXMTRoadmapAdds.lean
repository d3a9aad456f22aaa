/-
  TRoadmapAdds (a part of a claim: our own text).
-/
import Derived.Test.YtkjkbdobenmgbaaGreatXMTop
import Derived.Test.YtkjkbdobenmgbaaGreatXMD3
import Derived.Test.YtkjkbdobenmgbaaGreatXMJRoadmapAddsb
namespace Go.Abs
open Go.Proofs Go.Proofs.YtkjkbdobenmgbaaGreat Go.ChangeShapes Go.WideShapes Go.ChangeAt Go.RowKit
namespace roadmapAdds
def Gzg (v : ByteArray) : List PVal := [.str v]
def Mz6 (_ : ByteArray) : Prop := True
def Dzf (v : ByteArray) : Nat := v.size + 1
theorem Mzf : Rep Tryz.prog 9 Gzg Mz6 Dzf := Czw (by kernel_rfl)
def Bzj (v : Int) : List PVal := [.int .i64 v]
def pza (v : Int) : Prop := (Lit.int .i64 v).wf = true
def ez1 (_ : Int) : Nat := 1
theorem ozd : Rep Tryz.prog 3 Bzj pza ez1 := Fzk (by kernel_rfl)
def Bzi (v : Int) : List PVal := [.int .i64 v]
def rzt (v : Int) : Prop := (Lit.int .i64 v).wf = true
def fz7 (_ : Int) : Nat := 1
theorem nz2 : Rep Tryz.prog 2 Bzi rzt fz7 := Fzk (by kernel_rfl)
def yzc (v : (Int × Int × Int)) : List PVal := [.int .i64 v.1, .int .i64 v.2.1, .int .i64 v.2.2]
def Cz1 (v : (Int × Int × Int)) : Prop := rzt v.1 ∧ rzt v.2.1 ∧ rzt v.2.2 ∧ True
def qz1 (v : (Int × Int × Int)) : Nat := (fz7 v.1 + (fz7 v.2.1 + (fz7 v.2.2 + 0))) + 1
theorem Azw : Rep Tryz.prog 98 yzc Cz1 qz1 :=
  (Fzj (e := 2) (n := 3) (sz := 1) (fs := [(2, 0), (2, 1), (2, 2)]) (by kernel_rfl) (by kernel_rfl) (by kernel_rfl) (by kernel_rfl) (.cons (sz := 1) nz2 (by kernel_rfl) (.cons (sz := 1) nz2 (by kernel_rfl) (.cons (sz := 1) nz2 (by kernel_rfl) .nil)))).map (fun p => (p.1, p.2.1, p.2.2.1)) (fun _ => rfl) (fun _ h => h) (fun _ => Nat.le_refl _)
def vzz (v : azi) : List PVal := [.str v.Name, .int .i64 v.Kind, .int .i64 v.Parent, .int .i64 v.Offset.1, .int .i64 v.Offset.2.1, .int .i64 v.Offset.2.2, .int .i64 v.Lo, .int .i64 v.Hi, .int .i64 v.Weight, .int .i64 v.Speed, .int .i64 v.Accel, .int .i64 v.Torque]
def Fz7 (v : azi) : Prop := Mz6 v.Name ∧ pza v.Kind ∧ pza v.Parent ∧ Cz1 v.Offset ∧ rzt v.Lo ∧ rzt v.Hi ∧ rzt v.Weight ∧ rzt v.Speed ∧ rzt v.Accel ∧ rzt v.Torque ∧ True
def yz7 (v : azi) : Nat := (Dzf v.Name + (ez1 v.Kind + (ez1 v.Parent + (qz1 v.Offset + (fz7 v.Lo + (fz7 v.Hi + (fz7 v.Weight + (fz7 v.Speed + (fz7 v.Accel + (fz7 v.Torque + 0)))))))))) + 1
theorem Hzh : Rep Tryz.prog 100 vzz Fz7 yz7 :=
  (hzk (fs := [(9, 0), (3, 1), (3, 2), (98, 3), (2, 6), (2, 7), (2, 8), (2, 9), (2, 10), (2, 11)]) (by kernel_rfl) (by kernel_rfl) (by kernel_rfl) (.cons (sz := 1) Mzf (by kernel_rfl) (.cons (sz := 1) ozd (by kernel_rfl) (.cons (sz := 1) ozd (by kernel_rfl) (.cons (sz := 3) Azw (by kernel_rfl) (.cons (sz := 1) nz2 (by kernel_rfl) (.cons (sz := 1) nz2 (by kernel_rfl) (.cons (sz := 1) nz2 (by kernel_rfl) (.cons (sz := 1) nz2 (by kernel_rfl) (.cons (sz := 1) nz2 (by kernel_rfl) (.cons (sz := 1) nz2 (by kernel_rfl) .nil))))))))))).map (fun p => ⟨p.1, p.2.1, p.2.2.1, p.2.2.2.1, p.2.2.2.2.1, p.2.2.2.2.2.1, p.2.2.2.2.2.2.1, p.2.2.2.2.2.2.2.1, p.2.2.2.2.2.2.2.2.1, p.2.2.2.2.2.2.2.2.2.1⟩) (fun _ => rfl) (fun _ h => h) (fun _ => Nat.le_refl _)
def Dzh (v : (List azi)) : List PVal := [encL 12 aza v]
def Izr (v : (List azi)) : Prop := ∀ a ∈ v, Fz7 a
def Bze (v : (List azi)) : Nat := (v.map yz7).sum + 1
theorem Kz7 : Rep Tryz.prog 22 Dzh Izr Bze := jzh (cells := vzz) (enc := aza) (sz := 12) (by kernel_rfl) (by kernel_rfl) (by decide) (fun _ => rfl) (fun _ => rfl) Hzh
def wz0 (v : bzp) : List PVal := [.int .i64 v.Link, .int .i64 v.Mass, .int .i64 v.Point.1, .int .i64 v.Point.2.1, .int .i64 v.Point.2.2]
def Fz8 (v : bzp) : Prop := pza v.Link ∧ rzt v.Mass ∧ Cz1 v.Point ∧ True
def yz8 (v : bzp) : Nat := (ez1 v.Link + (fz7 v.Mass + (qz1 v.Point + 0))) + 1
theorem Hzi : Rep Tryz.prog 115 wz0 Fz8 yz8 :=
  (hzk (fs := [(3, 0), (2, 1), (98, 2)]) (by kernel_rfl) (by kernel_rfl) (by kernel_rfl) (.cons (sz := 1) ozd (by kernel_rfl) (.cons (sz := 1) nz2 (by kernel_rfl) (.cons (sz := 3) Azw (by kernel_rfl) .nil)))).map (fun p => ⟨p.1, p.2.1, p.2.2.1⟩) (fun _ => rfl) (fun _ h => h) (fun _ => Nat.le_refl _)
def Dzi (v : (List bzp)) : List PVal := [encL 5 azc v]
def Izs (v : (List bzp)) : Prop := ∀ a ∈ v, Fz8 a
def Bzf (v : (List bzp)) : Nat := (v.map yz8).sum + 1
theorem Kz8 : Rep Tryz.prog 23 Dzi Izs Bzf := jzh (cells := wz0) (enc := azc) (sz := 5) (by kernel_rfl) (by kernel_rfl) (by decide) (fun _ => rfl) (fun _ => rfl) Hzi
def Dzj (v : az7) : List PVal := [encL 12 aza v.Joints, encL 5 azc v.Masses]
def Bzz (v : az7) : Prop := Izr v.Joints ∧ Izs v.Masses ∧ True
def rze (v : az7) : Nat := (Bze v.Joints + (Bzf v.Masses + 0)) + 1
theorem Kz9 : Rep Tryz.prog 25 Dzj Bzz rze :=
  (hzk (fs := [(22, 0), (23, 1)]) (by kernel_rfl) (by kernel_rfl) (by kernel_rfl) (.cons (sz := 1) Kz7 (by kernel_rfl) (.cons (sz := 1) Kz8 (by kernel_rfl) .nil))).map (fun p => ⟨p.1, p.2.1⟩) (fun _ => rfl) (fun _ h => h) (fun _ => Nat.le_refl _)
def yz9 (v : (List Int)) : List PVal := [encL 1 az0 v]
def uzy (v : (List Int)) : Prop := ∀ a ∈ v, rzt a
def hzu (v : (List Int)) : Nat := (v.map fz7).sum + 1
theorem xzp : Rep Tryz.prog 40 yz9 uzy hzu := jzh (cells := Bzi) (enc := az0) (sz := 1) (by kernel_rfl) (by kernel_rfl) (by decide) (fun _ => rfl) (fun _ => rfl) nz2
def Dzk (v : (List (List Int))) : List PVal := [encL 1 (encL 1 az0) v]
def Izt (v : (List (List Int))) : Prop := ∀ a ∈ v, uzy a
def tzq (v : (List (List Int))) : Nat := (v.map hzu).sum + 1
theorem Kza : Rep Tryz.prog 26 Dzk Izt tzq := jzh (cells := yz9) (enc := (encL 1 az0)) (sz := 1) (by kernel_rfl) (by kernel_rfl) (by decide) (fun _ => rfl) (fun _ => rfl) xzp
def Dzp (v : (List (Int × Int × Int))) : List PVal := [encL 3 azd v]
def Izw (v : (List (Int × Int × Int))) : Prop := ∀ a ∈ v, Cz1 a
def wzq (v : (List (Int × Int × Int))) : Nat := (v.map qz1).sum + 1
theorem Kze : Rep Tryz.prog 49 Dzp Izw wzq := jzh (cells := yzc) (enc := azd) (sz := 3) (by kernel_rfl) (by kernel_rfl) (by decide) (fun _ => rfl) (fun _ => rfl) Azw
def yza (v : azk) : List PVal := [.int .i64 v.Depth, .int .i64 v.Index, encL 3 azd v.Normals]
def Fz9 (v : azk) : Prop := pza v.Depth ∧ rzt v.Index ∧ Izw v.Normals ∧ True
def kzn (v : azk) : Nat := (ez1 v.Depth + (fz7 v.Index + (wzq v.Normals + 0))) + 1
theorem Fzl : Rep Tryz.prog 51 yza Fz9 kzn :=
  (hzk (fs := [(3, 0), (2, 1), (49, 2)]) (by kernel_rfl) (by kernel_rfl) (by kernel_rfl) (.cons (sz := 1) ozd (by kernel_rfl) (.cons (sz := 1) nz2 (by kernel_rfl) (.cons (sz := 1) Kze (by kernel_rfl) .nil)))).map (fun p => ⟨p.1, p.2.1, p.2.2.1⟩) (fun _ => rfl) (fun _ h => h) (fun _ => Nat.le_refl _)
def Dzo (v : (List azk)) : List PVal := [encL 3 azs v]
def Izv (v : (List azk)) : Prop := ∀ a ∈ v, Fz9 a
def wzp (v : (List azk)) : Nat := (v.map kzn).sum + 1
theorem Kzd : Rep Tryz.prog 48 Dzo Izv wzp := jzh (cells := yza) (enc := azs) (sz := 3) (by kernel_rfl) (by kernel_rfl) (by decide) (fun _ => rfl) (fun _ => rfl) Fzl
def Dzq (v : azr) : List PVal := [.int .i64 v.Pair, encL 1 az0 v.Left, encL 1 az0 v.Right]
def Izx (v : azr) : Prop := pza v.Pair ∧ uzy v.Left ∧ uzy v.Right ∧ True
def wzr (v : azr) : Nat := (ez1 v.Pair + (hzu v.Left + (hzu v.Right + 0))) + 1
theorem Kzf : Rep Tryz.prog 53 Dzq Izx wzr :=
  (hzk (fs := [(3, 0), (40, 1), (40, 2)]) (by kernel_rfl) (by kernel_rfl) (by kernel_rfl) (.cons (sz := 1) ozd (by kernel_rfl) (.cons (sz := 1) xzp (by kernel_rfl) (.cons (sz := 1) xzp (by kernel_rfl) .nil)))).map (fun p => ⟨p.1, p.2.1, p.2.2.1⟩) (fun _ => rfl) (fun _ h => h) (fun _ => Nat.le_refl _)
def Dzr (v : azb) : List PVal := [.int .i64 v.Kind, encL 3 azs v.Pieces, .int .i64 v.At.Depth, .int .i64 v.At.Index, encL 3 azd v.At.Normals, .int .i64 v.Witness.Pair, encL 1 az0 v.Witness.Left, encL 1 az0 v.Witness.Right]
def Izy (v : azb) : Prop := pza v.Kind ∧ Izv v.Pieces ∧ Fz9 v.At ∧ Izx v.Witness ∧ True
def tzs (v : azb) : Nat := (ez1 v.Kind + (wzp v.Pieces + (kzn v.At + (wzr v.Witness + 0)))) + 1
theorem Kzg : Rep Tryz.prog 55 Dzr Izy tzs :=
  (hzk (fs := [(3, 0), (48, 1), (51, 2), (53, 5)]) (by kernel_rfl) (by kernel_rfl) (by kernel_rfl) (.cons (sz := 1) ozd (by kernel_rfl) (.cons (sz := 1) Kzd (by kernel_rfl) (.cons (sz := 3) Fzl (by kernel_rfl) (.cons (sz := 3) Kzf (by kernel_rfl) .nil))))).map (fun p => ⟨p.1, p.2.1, p.2.2.1, p.2.2.2.1⟩) (fun _ => rfl) (fun _ h => h) (fun _ => Nat.le_refl _)
def yzb (v : az1) : List PVal := [.int .i64 v.U, .int .i64 v.V, .int .i64 v.Cost, .int .i64 v.State, .int .i64 v.Proof.Kind, encL 3 azs v.Proof.Pieces, .int .i64 v.Proof.At.Depth, .int .i64 v.Proof.At.Index, encL 3 azd v.Proof.At.Normals, .int .i64 v.Proof.Witness.Pair, encL 1 az0 v.Proof.Witness.Left, encL 1 az0 v.Proof.Witness.Right]
def Izz (v : az1) : Prop := pza v.U ∧ pza v.V ∧ rzt v.Cost ∧ pza v.State ∧ Izy v.Proof ∧ True
def qz0 (v : az1) : Nat := (ez1 v.U + (ez1 v.V + (fz7 v.Cost + (ez1 v.State + (tzs v.Proof + 0))))) + 1
theorem Kzh : Rep Tryz.prog 57 yzb Izz qz0 :=
  (hzk (fs := [(3, 0), (3, 1), (2, 2), (3, 3), (55, 4)]) (by kernel_rfl) (by kernel_rfl) (by kernel_rfl) (.cons (sz := 1) ozd (by kernel_rfl) (.cons (sz := 1) ozd (by kernel_rfl) (.cons (sz := 1) nz2 (by kernel_rfl) (.cons (sz := 1) ozd (by kernel_rfl) (.cons (sz := 8) Kzg (by kernel_rfl) .nil)))))).map (fun p => ⟨p.1, p.2.1, p.2.2.1, p.2.2.2.1, p.2.2.2.2.1⟩) (fun _ => rfl) (fun _ h => h) (fun _ => Nat.le_refl _)
def Dzl (v : (List az1)) : List PVal := [encL 12 az2 v]
def Izu (v : (List az1)) : Prop := ∀ a ∈ v, Izz a
def tzr (v : (List az1)) : Nat := (v.map qz0).sum + 1
theorem Kzb : Rep Tryz.prog 27 Dzl Izu tzr := jzh (cells := yzb) (enc := az2) (sz := 12) (by kernel_rfl) (by kernel_rfl) (by decide) (fun _ => rfl) (fun _ => rfl) Kzh
def Dzm (v : az8) : List PVal := [encL 1 (encL 1 az0) v.Points, encL 12 az2 v.Edges]
def Cz0 (v : az8) : Prop := Izt v.Points ∧ Izu v.Edges ∧ True
def pzz (v : az8) : Nat := (tzq v.Points + (tzr v.Edges + 0)) + 1
theorem Kzc : Rep Tryz.prog 29 Dzm Cz0 pzz :=
  (hzk (fs := [(26, 0), (27, 1)]) (by kernel_rfl) (by kernel_rfl) (by kernel_rfl) (.cons (sz := 1) Kza (by kernel_rfl) (.cons (sz := 1) Kzb (by kernel_rfl) .nil))).map (fun p => ⟨p.1, p.2.1⟩) (fun _ => rfl) (fun _ h => h) (fun _ => Nat.le_refl _)
def Dzn (v : (List Int)) : List PVal := [encL 1 az0 v]
def qzk (v : (List Int)) : Prop := ∀ a ∈ v, pza a
def ezv (v : (List Int)) : Nat := (v.map ez1).sum + 1
theorem Azv : Rep Tryz.prog 30 Dzn qzk ezv := jzh (cells := Bzj) (enc := az0) (sz := 1) (by kernel_rfl) (by kernel_rfl) (by decide) (fun _ => rfl) (fun _ => rfl) ozd
theorem gzv {a b : Bool} (h : a = true) (k : b = true) : (a && b) = true := by rw [h, k]; rfl
set_option maxRecDepth 100000 in
theorem Lza : joinedFacts Tryz.pinned.checked.prog 8 Tryz.f8 (Rows.OpenSpec.upto Rows.roadmapAddsSpec).bare Rows.roadmapAddsUptoRow = true := by
  unfold joinedFacts
  exact (gzv (gzv (gzv (gzv (gzv (gzv (gzv (gzv (gzv (gzv (gzv (gzv (gzv (gzv (gzv (gzv (gzv (gzv (gzv (gzv (gzv (gzv (gzv (gzv (gzv (gzv (gzv (gzv (gzv (gzv (gzv Nz2 Jzw) zz5) Ezp) Hz0) Ezm) Hz2) Ezl) Gzy) Czp) Lzu) Lzs) Jzz) Jzy) Ezn) Czq) Gzz) Kz0) Hz3) Lzt) zz4) Azn) zz6) Hz1) Gzw) Azo) Ezo) Jzx) Gzx) Ezq) Ezr) Jzv)
theorem own : ownKnob Tryz.prog.godebug = none := by kernel_rfl
set_option maxRecDepth 100000 in
theorem Gzh (plain : ∀ (a0 : az7) (a1 : az8) (a2 : (List Int)) (a3 : (List Int)) (a4 : (List Int)) (a5 : (List Int)) (a6 : Int) (a7 : Int), Bzz a0 → Cz0 a1 → uzy a2 → qzk a3 → qzk a4 → qzk a5 → pza a6 → pza a7 → rze a0 + pzz a1 + hzu a2 + ezv a3 + ezv a4 + ezv a5 + ez1 a6 + ez1 a7 ≤ 1048576 → (czv a0 a1 a2 a3 a4 a5 a6 a7).o = some true) (H : Type) (enc : TypeId × Value → H) (W : World) (base : Nat) (args : Array Value) (ds gs : List (DataW H)) (before : List MemPlace)
    (hval : ∀ (j : Nat) t v, Tryz.f8.params[j]? = some t → args[j]? = some v → Value.okWide Tryz.prog W .any base t v)
    (hW : DataW.Whole enc Tryz.prog Tryz.f8.params.toList Rows.roadmapAddsSpec.vars false W args.toList ds gs before) (hk : Rows.uptoSmall H (ds ++ gs) = true) :
    Calls Tryz.prog 8 args W fun e W' => ∃ v, e = .returned v ∧ Rows.roadmapAddsSpec.post enc Tryz.prog Tryz.f8 false true false false W args v W' := by
  have hW' := hW
  obtain ⟨p, q, hA0, hV, rfl, hfz, hnd⟩ := hW
  have hA : DataW.TrodAll enc Tryz.prog W 0 (fun _ => true) true Tryz.f8.params.toList args.toList ds p := hA0
  rw [Tryz.params8] at hA hval
  obtain ⟨v0, vs0, d0, ds0, p0, q0, hargs, rfl, rfl, h0, r0⟩ := trodAll_cons hA
  obtain ⟨v1, vs1, d1, ds1, p1, q1, hargs1, rfl, rfl, h1, r1⟩ := trodAll_cons r0
  subst hargs1
  obtain ⟨v2, vs2, d2, ds2, p2, q2, hargs2, rfl, rfl, h2, r2⟩ := trodAll_cons r1
  subst hargs2
  obtain ⟨v3, vs3, d3, ds3, p3, q3, hargs3, rfl, rfl, h3, r3⟩ := trodAll_cons r2
  subst hargs3
  obtain ⟨v4, vs4, d4, ds4, p4, q4, hargs4, rfl, rfl, h4, r4⟩ := trodAll_cons r3
  subst hargs4
  obtain ⟨v5, vs5, d5, ds5, p5, q5, hargs5, rfl, rfl, h5, r5⟩ := trodAll_cons r4
  subst hargs5
  obtain ⟨v6, vs6, d6, ds6, p6, q6, hargs6, rfl, rfl, h6, r6⟩ := trodAll_cons r5
  subst hargs6
  obtain ⟨v7, vs7, d7, ds7, p7, q7, hargs7, rfl, rfl, h7, r7⟩ := trodAll_cons r6
  subst hargs7
  obtain ⟨rfl, rfl, rfl⟩ := trodAll_nil r7
  obtain rfl : args = #[v0, v1, v2, v3, v4, v5, v6, v7] := by cases args; simp_all
  obtain ⟨rfl, rfl⟩ := trodVars_none hV
  obtain ⟨n0, h0⟩ := h0
  obtain ⟨a0, c0, o0, b0⟩ := Kz9 H enc W _ _ _ h0
  obtain ⟨n1, h1⟩ := h1
  obtain ⟨a1, c1, o1, b1⟩ := Kzc H enc W _ _ _ h1
  obtain ⟨n2, h2⟩ := h2
  obtain ⟨a2, c2, o2, b2⟩ := xzp H enc W _ _ _ h2
  obtain ⟨n3, h3⟩ := h3
  obtain ⟨a3, c3, o3, b3⟩ := Azv H enc W _ _ _ h3
  obtain ⟨n4, h4⟩ := h4
  obtain ⟨a4, c4, o4, b4⟩ := Azv H enc W _ _ _ h4
  obtain ⟨n5, h5⟩ := h5
  obtain ⟨a5, c5, o5, b5⟩ := Azv H enc W _ _ _ h5
  obtain ⟨n6, h6⟩ := h6
  obtain ⟨a6, c6, o6, b6⟩ := ozd H enc W _ _ _ h6
  obtain ⟨n7, h7⟩ := h7
  obtain ⟨a7, c7, o7, b7⟩ := ozd H enc W _ _ _ h7
  have hb : Rows.uptoBulkAll ([d0, d1, d2, d3, d4, d5, d6, d7] ++ [] : List (DataW H)) ≤ 1048576 := of_decide_eq_true hk
  simp only [List.append_nil, Rows.uptoBulkAll] at hb
  have htrue := plain a0 a1 a2 a3 a4 a5 a6 a7 o0 o1 o2 o3 o4 o5 o6 o7 (by simp only at b0 b1 b2 b3 b4 b5 b6 b7; omega)
  refine zzk (bt := 4) ((czv a0 a1 a2 a3 a4 a5 a6 a7).ok _ htrue) (fun ρ => hzf (Dz9 (P := Tryz.prog) (hval 0 25 v0 rfl rfl) (by kernel_rfl) c0) (hzf (Dz9 (P := Tryz.prog) (hval 1 29 v1 rfl rfl) (by kernel_rfl) c1) (hzf (szr (P := Tryz.prog) (hval 2 40 v2 rfl rfl) (by kernel_rfl) c2) (hzf (szr (P := Tryz.prog) (hval 3 30 v3 rfl rfl) (by kernel_rfl) c3) (hzf (szr (P := Tryz.prog) (hval 4 30 v4 rfl rfl) (by kernel_rfl) c4) (hzf (szr (P := Tryz.prog) (hval 5 30 v5 rfl rfl) (by kernel_rfl) c5) (hzf (szr (P := Tryz.prog) (hval 6 3 v6 rfl rfl) (by kernel_rfl) c6) (hzf (szr (P := Tryz.prog) (hval 7 3 v7 rfl rfl) (by kernel_rfl) c7) (Dzb))))))))) hW' rfl rfl (by kernel_rfl) (by kernel_rfl) (slices_full_of _ (by kernel_rfl)) ?_ (by kernel_rfl) (by kernel_rfl)
  have hs : Tryz.prog.types.size = 243 := by kernel_rfl
  rw [Tryz.params8, hs]; simp only [List.mem_cons, List.not_mem_nil, or_false]
  rintro t (rfl | rfl | rfl | rfl | rfl | rfl | rfl | rfl) <;> decide
set_option maxRecDepth 100000 in
theorem lifted (plain : ∀ (a0 : az7) (a1 : az8) (a2 : (List Int)) (a3 : (List Int)) (a4 : (List Int)) (a5 : (List Int)) (a6 : Int) (a7 : Int), Bzz a0 → Cz0 a1 → uzy a2 → qzk a3 → qzk a4 → qzk a5 → pza a6 → pza a7 → rze a0 + pzz a1 + hzu a2 + ezv a3 + ezv a4 + ezv a5 + ez1 a6 + ez1 a7 ≤ 1048576 → (czv a0 a1 a2 a3 a4 a5 a6 a7).o = some true) (os : Os) (started : os.Started) (H : Type) (enc : TypeId × Value → H) (F : Stop.Interp) :
    ReturnsInHanded {} Tryz.checked os 8 .any ((Rows.OpenSpec.upto Rows.roadmapAddsSpec).pre6 enc Tryz.prog Tryz.f8 Rows.roadmapAddsUptoRow.domain false) (((Rows.OpenSpec.upto Rows.roadmapAddsSpec).at F).post enc Tryz.prog Tryz.f8 false true false false) := by
  refine returnsInHanded_of_cond (C := Tryz.checked) (s := Rows.OpenSpec.upto Rows.roadmapAddsSpec) (k := Rows.uptoSmall) rfl own started (by kernel_rfl) Tryz.func8
    (OpenSpec.witness (enc := enc) (C := Tryz.checked) (s := Rows.OpenSpec.upto Rows.roadmapAddsSpec) (k := Rows.uptoSmall) rfl false ⟨#[], #[.agg #[.slice none 0 0, .slice none 0 0], .agg #[.slice none 0 0, .slice none 0 0], .slice none 0 0, .slice none 0 0, .slice none 0 0, .slice none 0 0, .int .i64 0, .int .i64 0], []⟩ 8 (by kernel_rfl) (by kernel_rfl) (by kernel_rfl)
      (x := ([.agg [.nil, .nil], .agg [.nil, .nil], .nil, .nil, .nil, .nil, .lit (.int .i64 0), .lit (.int .i64 0)], [], [])) (by kernel_rfl) rfl (by kernel_rfl)) ?_
  intro W base args ds gs before hval hW _ hk _
  exact Gzh plain H enc W base args ds gs before hval hW hk
theorem over (plain : ∀ (a0 : az7) (a1 : az8) (a2 : (List Int)) (a3 : (List Int)) (a4 : (List Int)) (a5 : (List Int)) (a6 : Int) (a7 : Int), Bzz a0 → Cz0 a1 → uzy a2 → qzk a3 → qzk a4 → qzk a5 → pza a6 → pza a7 → rze a0 + pzz a1 + hzu a2 + ezv a3 + ezv a4 + ezv a5 + ez1 a6 + ez1 a7 ≤ 1048576 → (czv a0 a1 a2 a3 a4 a5 a6 a7).o = some true) : Rows.roadmapAddsUptoRow.holds Tryz.pinned (Rows.OpenSpec.upto Rows.roadmapAddsSpec) :=
  OpenClaim.holds_of_cond 8 Tryz.f8 rfl rfl rfl rfl rfl rfl rfl ⟨rfl, rfl, rfl, rfl, rfl⟩ rfl rfl rfl rfl rfl (by kernel_rfl) Tryz.func8 Lza
    (of_decide_eq_true (by kernel_rfl)) (by unfold Func.isWrapper; first | (rw [if_pos (by decide +kernel)]; kernel_rfl) | (rw [if_neg (by decide +kernel)]; exact ⟨rfl, rfl⟩))
    (fun os started H enc _ F => lifted plain os started H enc F)
end roadmapAdds
end Go.Abs
