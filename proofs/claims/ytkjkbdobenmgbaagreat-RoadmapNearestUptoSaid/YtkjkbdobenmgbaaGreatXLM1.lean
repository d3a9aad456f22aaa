/-
  M1 (a part of a claim: our own text).
-/
import Derived.Test.YtkjkbdobenmgbaaGreatXLRngF
import Derived.Test.YtkjkbdobenmgbaaGreatChecked
namespace Go.Abs
open Go.Proofs
abbrev pz (x : Int) : AVal := .pure (.int .i64 x)
theorem hd : DrawSound Tryz.prog drawB := draw_sound (by kernel_rfl)
structure S_make_Source where
  list : (List Int)
  next : Int
instance : Inhabited S_make_Source := ⟨⟨default, default⟩⟩
structure S_Piece where
  Depth : Int
  Index : Int
  Normals : (List (Int × Int × Int))
instance : Inhabited S_Piece := ⟨⟨default, default, default⟩⟩
structure S_Witness where
  Pair : Int
  Left : (List Int)
  Right : (List Int)
instance : Inhabited S_Witness := ⟨⟨default, default, default⟩⟩
structure S_EdgeResult where
  Kind : Int
  Pieces : (List S_Piece)
  At : S_Piece
  Witness : S_Witness
instance : Inhabited S_EdgeResult := ⟨⟨default, default, default, default⟩⟩
structure S_RoadmapEdge where
  U : Int
  V : Int
  Cost : Int
  State : Int
  Proof : S_EdgeResult
instance : Inhabited S_RoadmapEdge := ⟨⟨default, default, default, default, default⟩⟩
structure S_Roadmap where
  Points : (List (List Int))
  Edges : (List S_RoadmapEdge)
instance : Inhabited S_Roadmap := ⟨⟨default, default⟩⟩
structure S_Joint where
  Name : ByteArray
  Kind : Int
  Parent : Int
  Offset : (Int × Int × Int)
  Lo : Int
  Hi : Int
  Weight : Int
  Speed : Int
  Accel : Int
  Torque : Int
instance : Inhabited S_Joint := ⟨⟨default, default, default, default, default, default, default, default, default, default⟩⟩
structure S_Mass where
  Link : Int
  Mass : Int
  Point : (Int × Int × Int)
instance : Inhabited S_Mass := ⟨⟨default, default, default⟩⟩
structure S_Robot where
  Joints : (List S_Joint)
  Masses : (List S_Mass)
instance : Inhabited S_Robot := ⟨⟨default, default⟩⟩
structure S_KdNode where
  Point : Int
  Axis : Int
  Low : Int
  High : Int
instance : Inhabited S_KdNode := ⟨⟨default, default, default, default⟩⟩
structure S_neighbor_search where
  joints : (List S_Joint)
  points : (List (List Int))
  tree : (List S_KdNode)
  q : (List Int)
instance : Inhabited S_neighbor_search := ⟨⟨default, default, default, default⟩⟩
def enc_arr_3_int64 (v : (Int × Int × Int)) : PVal := .agg [.int .i64 v.1, .int .i64 v.2.1, .int .i64 v.2.2]
def enc_Piece (v : S_Piece) : PVal := .agg [.int .i64 v.Depth, .int .i64 v.Index, encL 3 enc_arr_3_int64 v.Normals]
def enc_EdgeResult (v : S_EdgeResult) : PVal := .agg [.int .i64 v.Kind, encL 3 enc_Piece v.Pieces, .int .i64 v.At.Depth, .int .i64 v.At.Index, encL 3 enc_arr_3_int64 v.At.Normals, .int .i64 v.Witness.Pair, encL 1 encI_i64 v.Witness.Left, encL 1 encI_i64 v.Witness.Right]
def enc_RoadmapEdge (v : S_RoadmapEdge) : PVal := .agg [.int .i64 v.U, .int .i64 v.V, .int .i64 v.Cost, .int .i64 v.State, .int .i64 v.Proof.Kind, encL 3 enc_Piece v.Proof.Pieces, .int .i64 v.Proof.At.Depth, .int .i64 v.Proof.At.Index, encL 3 enc_arr_3_int64 v.Proof.At.Normals, .int .i64 v.Proof.Witness.Pair, encL 1 encI_i64 v.Proof.Witness.Left, encL 1 encI_i64 v.Proof.Witness.Right]
def enc_Roadmap (v : S_Roadmap) : PVal := .agg [encL 1 (encL 1 encI_i64) v.Points, encL 12 enc_RoadmapEdge v.Edges]
def enc_Joint (v : S_Joint) : PVal := .agg [.str v.Name, .int .i64 v.Kind, .int .i64 v.Parent, .int .i64 v.Offset.1, .int .i64 v.Offset.2.1, .int .i64 v.Offset.2.2, .int .i64 v.Lo, .int .i64 v.Hi, .int .i64 v.Weight, .int .i64 v.Speed, .int .i64 v.Accel, .int .i64 v.Torque]
def enc_Mass (v : S_Mass) : PVal := .agg [.int .i64 v.Link, .int .i64 v.Mass, .int .i64 v.Point.1, .int .i64 v.Point.2.1, .int .i64 v.Point.2.2]
def enc_Robot (v : S_Robot) : PVal := .agg [encL 12 enc_Joint v.Joints, encL 5 enc_Mass v.Masses]
def cells_arr_10_int64 (v : (Int × Int × Int × Int × Int × Int × Int × Int × Int × Int)) : List PVal := [.int .i64 v.1, .int .i64 v.2.1, .int .i64 v.2.2.1, .int .i64 v.2.2.2.1, .int .i64 v.2.2.2.2.1, .int .i64 v.2.2.2.2.2.1, .int .i64 v.2.2.2.2.2.2.1, .int .i64 v.2.2.2.2.2.2.2.1, .int .i64 v.2.2.2.2.2.2.2.2.1, .int .i64 v.2.2.2.2.2.2.2.2.2]
def enc_KdNode (v : S_KdNode) : PVal := .agg [.int .i64 v.Point, .int .i64 v.Axis, .int .i64 v.Low, .int .i64 v.High]
def enc_neighbor_search (v : S_neighbor_search) : PVal := .agg [encL 12 enc_Joint v.joints, encL 1 (encL 1 encI_i64) v.points, encL 4 enc_KdNode v.tree, encL 1 encI_i64 v.q]
def enc_arr_2_int (v : (Int × Int)) : PVal := .agg [.int .i64 v.1, .int .i64 v.2]
def cells_arr_2_int (v : (Int × Int)) : List PVal := [.int .i64 v.1, .int .i64 v.2]
theorem guard39 : GuardFn Tryz.prog 39 :=
  guardFn_of (fn := Tryz.f39) Tryz.func39 (by kernel_rfl) ⟨0, (gOps Tryz.f39).getD 0 default, (gOps Tryz.f39).getD 1 default, 1, 2, gX Tryz.f39, gC ((gOps Tryz.f39).getD 0 default), 20, 20, by kernel_rfl, by kernel_rfl, by kernel_rfl, by kernel_rfl, by kernel_rfl, by kernel_rfl, by kernel_rfl, by kernel_rfl, ⟨gMs (Tryz.prog.underlying 20), by kernel_rfl⟩, by decide, by decide, by kernel_rfl⟩
theorem guard52 : GuardFn Tryz.prog 52 :=
  guardFn_of (fn := Tryz.f52) Tryz.func52 (by kernel_rfl) ⟨0, (gOps Tryz.f52).getD 0 default, (gOps Tryz.f52).getD 1 default, 1, 2, gX Tryz.f52, gC ((gOps Tryz.f52).getD 0 default), 20, 20, by kernel_rfl, by kernel_rfl, by kernel_rfl, by kernel_rfl, by kernel_rfl, by kernel_rfl, by kernel_rfl, by kernel_rfl, ⟨gMs (Tryz.prog.underlying 20), by kernel_rfl⟩, by decide, by decide, by kernel_rfl⟩
theorem guard59 : GuardFn Tryz.prog 59 :=
  guardFn_of (fn := Tryz.f59) Tryz.func59 (by kernel_rfl) ⟨0, (gOps Tryz.f59).getD 0 default, (gOps Tryz.f59).getD 1 default, 1, 2, gX Tryz.f59, gC ((gOps Tryz.f59).getD 0 default), 20, 20, by kernel_rfl, by kernel_rfl, by kernel_rfl, by kernel_rfl, by kernel_rfl, by kernel_rfl, by kernel_rfl, by kernel_rfl, ⟨gMs (Tryz.prog.underlying 20), by kernel_rfl⟩, by decide, by decide, by kernel_rfl⟩
theorem guard74 : GuardFn Tryz.prog 74 :=
  guardFn_of (fn := Tryz.f74) Tryz.func74 (by kernel_rfl) ⟨0, (gOps Tryz.f74).getD 0 default, (gOps Tryz.f74).getD 1 default, 2, 3, gX Tryz.f74, gC ((gOps Tryz.f74).getD 0 default), 20, 20, by kernel_rfl, by kernel_rfl, by kernel_rfl, by kernel_rfl, by kernel_rfl, by kernel_rfl, by kernel_rfl, by kernel_rfl, ⟨gMs (Tryz.prog.underlying 20), by kernel_rfl⟩, by decide, by decide, by kernel_rfl⟩
theorem guard79 : GuardFn Tryz.prog 79 :=
  guardFn_of (fn := Tryz.f79) Tryz.func79 (by kernel_rfl) ⟨0, (gOps Tryz.f79).getD 0 default, (gOps Tryz.f79).getD 1 default, 1, 2, gX Tryz.f79, gC ((gOps Tryz.f79).getD 0 default), 20, 20, by kernel_rfl, by kernel_rfl, by kernel_rfl, by kernel_rfl, by kernel_rfl, by kernel_rfl, by kernel_rfl, by kernel_rfl, ⟨gMs (Tryz.prog.underlying 20), by kernel_rfl⟩, by decide, by decide, by kernel_rfl⟩
theorem guard107 : GuardFn Tryz.prog 107 :=
  guardFn_of (fn := Tryz.f107) Tryz.func107 (by kernel_rfl) ⟨0, (gOps Tryz.f107).getD 0 default, (gOps Tryz.f107).getD 1 default, 1, 2, gX Tryz.f107, gC ((gOps Tryz.f107).getD 0 default), 20, 20, by kernel_rfl, by kernel_rfl, by kernel_rfl, by kernel_rfl, by kernel_rfl, by kernel_rfl, by kernel_rfl, by kernel_rfl, ⟨gMs (Tryz.prog.underlying 20), by kernel_rfl⟩, by decide, by decide, by kernel_rfl⟩
theorem guard117 : GuardFn Tryz.prog 117 :=
  guardFn_of (fn := Tryz.f117) Tryz.func117 (by kernel_rfl) ⟨0, (gOps Tryz.f117).getD 0 default, (gOps Tryz.f117).getD 1 default, 1, 2, gX Tryz.f117, gC ((gOps Tryz.f117).getD 0 default), 20, 20, by kernel_rfl, by kernel_rfl, by kernel_rfl, by kernel_rfl, by kernel_rfl, by kernel_rfl, by kernel_rfl, by kernel_rfl, ⟨gMs (Tryz.prog.underlying 20), by kernel_rfl⟩, by decide, by decide, by kernel_rfl⟩
theorem guard169 : GuardFn Tryz.prog 169 :=
  guardFn_of (fn := Tryz.f169) Tryz.func169 (by kernel_rfl) ⟨0, (gOps Tryz.f169).getD 0 default, (gOps Tryz.f169).getD 1 default, 1, 2, gX Tryz.f169, gC ((gOps Tryz.f169).getD 0 default), 20, 20, by kernel_rfl, by kernel_rfl, by kernel_rfl, by kernel_rfl, by kernel_rfl, by kernel_rfl, by kernel_rfl, by kernel_rfl, ⟨gMs (Tryz.prog.underlying 20), by kernel_rfl⟩, by decide, by decide, by kernel_rfl⟩
noncomputable def make_From_T (a0 : (List Int)) : T ((List Int) × Int) :=
 .ret (a0, 0)
noncomputable def make_From_C (a0 : (List Int)) : CallS ((List Int) × Int) :=
  mkC [] hd Tryz.func37 (by kernel_rfl) (make_From_T a0) 0 [.pure (encL 1 encI_i64 a0)] [] (fun _ => .ptr 0 0) (fun r => [(0, .box [.pure (encL 1 encI_i64 r.1), pz r.2])]) (by kernel_rfl)
noncomputable def make_Round_T (a0 : Int) (a1 : Int) : T Int :=
 .grd (a1 ≠ 0) <|
 .cut 0 (fun (y1 : Int) => ⟨[(5, pz y1)], [], [], 0⟩)
 (.br (decide ((a0.tmod a1) < 0))
 (.ret (.out (IntKind.i64.wrap ((a0.tmod a1) + a1))))
 (.ret (.out (a0.tmod a1)))) fun y1 =>
 .ret y1
noncomputable def make_Round_C (a0 : Int) (a1 : Int) : CallS Int :=
  mkC [] hd Tryz.func18 (by kernel_rfl) (make_Round_T a0 a1) 0 [pz a0, pz a1] [] (fun r => pz r) (fun _ => []) (by kernel_rfl)
noncomputable def Source_Next_T (a0 : (List Int)) (a1 : Int) (a2 : Int) : T (Int × (List Int) × Int) :=
 .br (decide (a1 ≥ ((a0.length : Nat) : Int)))
 (.ret (0, a0, a1))
 (.grd (0 ≤ (IntKind.i64.wrap ((IntKind.i64.wrap (a1 + 1)) - 1)) ∧ (IntKind.i64.wrap ((IntKind.i64.wrap (a1 + 1)) - 1)) < ((a0.length : Nat) : Int)) <|
 .call (make_Round_C (a0.getD (((IntKind.i64.wrap ((IntKind.i64.wrap (a1 + 1)) - 1))).toNat) default) a2) [] fun y2 =>
 .ret (y2, a0, (IntKind.i64.wrap (a1 + 1))))
noncomputable def Source_Next_C (a0 : (List Int)) (a1 : Int) (a2 : Int) : CallS (Int × (List Int) × Int) :=
  mkC [] hd Tryz.func38 (by kernel_rfl) (Source_Next_T a0 a1 a2) 1 [.ptr 0 0, pz a2] [(0, .box [.pure (encL 1 encI_i64 a0), pz a1])] (fun r => pz r.1) (fun r => [(0, .box [.pure (encL 1 encI_i64 r.2.1), pz r.2.2])]) (by kernel_rfl)
noncomputable def make_Claim_T (a0 : Int) : T S_EdgeResult :=
 .br (a0 == 1)
 (.conv 3001 (cvLitP 3 enc_Piece ([(⟨0, 0, nl⟩ : S_Piece)] : (List S_Piece)) 51 [.agg [.int .i64 0, .int .i64 0, .lst 0 0 fun _ => .unk]] (by kernel_rfl)) <|
 .ret (⟨1, ([(⟨0, 0, nl⟩ : S_Piece)] : (List S_Piece)), (⟨0, 0, nl⟩ : S_Piece), (⟨0, nl, nl⟩ : S_Witness)⟩ : S_EdgeResult))
 (.br (a0 == 2)
 (.conv 5000 (cvLit 1 encI_i64 ([1] : (List Int)) 2) <|
 .conv 5001 (cvLit 1 encI_i64 ([1] : (List Int)) 2) <|
 .ret (⟨2, nl, (⟨0, 0, nl⟩ : S_Piece), (⟨0, ([1] : (List Int)), ([1] : (List Int))⟩ : S_Witness)⟩ : S_EdgeResult))
 (.br (a0 == 3)
 (.ret (⟨0, nl, (⟨1, 0, nl⟩ : S_Piece), (⟨0, nl, nl⟩ : S_Witness)⟩ : S_EdgeResult))
 (.ret (⟨0, nl, (⟨0, 0, nl⟩ : S_Piece), (⟨0, nl, nl⟩ : S_Witness)⟩ : S_EdgeResult))))
noncomputable def make_Claim_C (a0 : Int) : CallS S_EdgeResult :=
  mkC [] hd Tryz.func31 (by kernel_rfl) (make_Claim_T a0) 0 [pz a0] [] (fun r => .pure (enc_EdgeResult r)) (fun _ => []) (by kernel_rfl)
noncomputable def roadmap_hasEnds_T (a0 : S_Roadmap) (a1 : S_RoadmapEdge) : T Bool :=
 .br (decide (a1.U ≥ 0))
 (.br (decide (a1.U < ((a0.Points.length : Nat) : Int)))
 (.br (decide (a1.V ≥ 0))
 (.ret (decide (a1.V < ((a0.Points.length : Nat) : Int))))
 (.ret false))
 (.ret false))
 (.ret false)
noncomputable def roadmap_hasEnds_C (a0 : S_Roadmap) (a1 : S_RoadmapEdge) : CallS Bool :=
  mkC [] hd Tryz.func61 (by kernel_rfl) (roadmap_hasEnds_T a0 a1) 0 [.pure (enc_Roadmap a0), .pure (enc_RoadmapEdge a1)] [] (fun r => .pure (.bool r)) (fun _ => []) (by kernel_rfl)
noncomputable def roadmap_usable_T (a0 : Int) (a1 : Int) : T Bool :=
 .br (a1 == 0)
 (.ret (a0 == 1))
 (.br (a1 == 1)
 (.br (a0 == 1)
 (.ret true)
 (.ret (a0 == 0)))
 (.br (a1 == 2)
 (.ret (a0 != 2))
 (.ret false)))
noncomputable def roadmap_usable_C (a0 : Int) (a1 : Int) : CallS Bool :=
  mkC [] hd Tryz.func62 (by kernel_rfl) (roadmap_usable_T a0 a1) 0 [pz a0, pz a1] [] (fun r => .pure (.bool r)) (fun _ => []) (by kernel_rfl)
noncomputable def roadmap_Components_2_T (a0 : Int) (a1 : (List Int)) : T (Int × (List Int)) :=
 .loop (fun (x5 : ((List Int) × Int)) => ⟨[(0, pz x5.2), (1, .ptr 0 0)], [(0, .box [.vec 1]), (1, vecO 1 encI_i64 x5.1 3)], [], 2⟩)
 (.exit 0) (fun (y6 : ((List Int) × Int)) => ⟨[(0, pz y6.2)], [(0, .box [.vec 1]), (1, vecO 1 encI_i64 y6.1 3)], [], 2⟩)
 (fun x5 => .grd (0 ≤ x5.2 ∧ x5.2 < ((x5.1.length : Nat) : Int)) <|
 .grd ((x5.2).toNat < x5.1.length) <|
 .br ((x5.1.getD ((x5.2).toNat) default) != x5.2)
 (.grd (0 ≤ x5.2 ∧ x5.2 < ((x5.1.length : Nat) : Int)) <|
 .grd ((x5.2).toNat < x5.1.length) <|
 .grd (0 ≤ (x5.1.getD ((x5.2).toNat) default) ∧ (x5.1.getD ((x5.2).toNat) default) < ((x5.1.length : Nat) : Int)) <|
 .grd (((x5.1.getD ((x5.2).toNat) default)).toNat < x5.1.length) <|
 .grd (0 ≤ x5.2 ∧ x5.2 < ((x5.1.length : Nat) : Int)) <|
 .conv 2010 (cvSet 1 encI_i64 x5.1 3 ((x5.2).toNat) (x5.1.getD (((x5.1.getD ((x5.2).toNat) default)).toNat) default)) <|
 .grd ((x5.2).toNat < x5.1.length ∧ 0 ≤ (x5.2).toNat) <|
 .grd (0 ≤ x5.2 ∧ x5.2 < (((x5.1.set ((x5.2).toNat) (x5.1.getD (((x5.1.getD ((x5.2).toNat) default)).toNat) default)).length : Nat) : Int)) <|
 .grd ((x5.2).toNat < (x5.1.set ((x5.2).toNat) (x5.1.getD (((x5.1.getD ((x5.2).toNat) default)).toNat) default)).length) <|
 .ret (.next ((x5.1.set ((x5.2).toNat) (x5.1.getD (((x5.1.getD ((x5.2).toNat) default)).toNat) default)), ((x5.1.set ((x5.2).toNat) (x5.1.getD (((x5.1.getD ((x5.2).toNat) default)).toNat) default)).getD ((x5.2).toNat) default))))
 (.ret (.out (x5.1, x5.2))))
 (a1, a0) [] fun y6 =>
 .ret (y6.2, y6.1)
noncomputable def roadmap_Components_2_C (a0 : Int) (a1 : (List Int)) : CallS (Int × (List Int)) :=
  mkC [] hd Tryz.func60 (by kernel_rfl) (roadmap_Components_2_T a0 a1) 2 [pz a0, .ptr 0 0] [(0, .box [.vec 1]), (1, vecO 1 encI_i64 a1 3)] (fun r => pz r.1) (fun r => [(0, .box [.vec 1]), (1, vecO 1 encI_i64 r.2 3)]) (by kernel_rfl)
set_option maxHeartbeats 8000000 in
set_option maxRecDepth 20000 in
noncomputable def roadmap_Components_T (a0 : S_Roadmap) (a1 : Int) : T (List Int) :=
 .conv 2003 (cvRep 1 encI_i64 3 (((a0.Points.length : Nat) : Int)).toNat 0) <|
 .grd (0 ≤ ((a0.Points.length : Nat) : Int) ∧ ((a0.Points.length : Nat) : Int) ≤ ((a0.Points.length : Nat) : Int) ∧ ((a0.Points.length : Nat) : Int) ≤ 9223372036854775807 ∧ ((a0.Points.length : Nat) : Int) * 8 ≤ 140737488355328) <|
 .loop (fun (x5 : ((List Int) × Int)) => ⟨[(1, pz a1), (2, .ptr 0 0), (4, .ptr 1 0), (18, pz (((List.replicate (((a0.Points.length : Nat) : Int)).toNat (0 : Int)).length : Nat) : Int)), (19, pz x5.2)], [(0, .box [.pure (encL 1 (encL 1 encI_i64) a0.Points), .pure (encL 12 enc_RoadmapEdge a0.Edges)]), (1, .box [.vec 2]), (2, vecO 1 encI_i64 x5.1 3)], [.func 59 [] [.ptr 1 0]], 3⟩)
 (.exit 0) (fun (y6 : (List Int)) => ⟨[(1, pz a1), (2, .ptr 0 0), (4, .ptr 1 0)], [(0, .box [.pure (encL 1 (encL 1 encI_i64) a0.Points), .pure (encL 12 enc_RoadmapEdge a0.Edges)]), (1, .box [.vec 2]), (2, vecO 1 encI_i64 y6 3)], [.func 59 [] [.ptr 1 0]], 3⟩)
 (fun x5 => .br (decide (x5.2 < (((List.replicate (((a0.Points.length : Nat) : Int)).toNat (0 : Int)).length : Nat) : Int)))
 (.grd (0 ≤ x5.2 ∧ x5.2 < ((x5.1.length : Nat) : Int)) <|
 .conv 6004 (cvSet 1 encI_i64 x5.1 3 ((x5.2).toNat) x5.2) <|
 .grd ((x5.2).toNat < x5.1.length ∧ 0 ≤ (x5.2).toNat) <|
 .ret (.next ((x5.1.set ((x5.2).toNat) x5.2), (IntKind.i64.wrap (x5.2 + 1)))))
 (.ret (.out x5.1)))
 ((List.replicate (((a0.Points.length : Nat) : Int)).toNat (0 : Int)), 0) [] fun y6 =>
 .loop (fun (x147 : ((List Int) × Int)) => ⟨[(1, pz a1), (2, .ptr 0 0), (4, .ptr 1 0), (6, .func 60 [] [.ptr 1 0]), (29, .pure (encL 12 enc_RoadmapEdge a0.Edges)), (30, pz ((a0.Edges.length : Nat) : Int)), (31, pz x147.2)], [(0, .box [.pure (encL 1 (encL 1 encI_i64) a0.Points), .pure (encL 12 enc_RoadmapEdge a0.Edges)]), (1, .box [.vec 2]), (2, vecO 1 encI_i64 x147.1 3)], [.func 59 [] [.ptr 1 0]], 3⟩)
 (.exit 2) (fun (y182 : (List Int)) => ⟨[(4, .ptr 0 0), (6, .func 60 [] [.ptr 0 0])], [(0, .box [.vec 1]), (1, vecO 1 encI_i64 y182 3)], [.func 59 [] [.ptr 0 0]], 2⟩)
 (fun x147 => .br (decide (x147.2 < ((a0.Edges.length : Nat) : Int)))
 (.cut 0 (fun (y205 : (List Int)) => ⟨[(1, pz a1), (2, .ptr 0 0), (4, .ptr 1 0), (6, .func 60 [] [.ptr 1 0]), (29, .pure (encL 12 enc_RoadmapEdge a0.Edges)), (30, pz ((a0.Edges.length : Nat) : Int)), (31, pz x147.2)], [(0, .box [.pure (encL 1 (encL 1 encI_i64) a0.Points), .pure (encL 12 enc_RoadmapEdge a0.Edges)]), (1, .box [.vec 2]), (2, vecO 1 encI_i64 y205 3)], [.func 59 [] [.ptr 1 0]], 3⟩)
 (.grd (0 ≤ x147.2 ∧ x147.2 < ((a0.Edges.length : Nat) : Int)) <|
 .cut 0 (fun (y210 : Bool) => ⟨[(1, pz a1), (2, .ptr 0 0), (4, .ptr 1 0), (6, .func 60 [] [.ptr 1 0]), (8, .ptr 3 0), (29, .pure (encL 12 enc_RoadmapEdge a0.Edges)), (30, pz ((a0.Edges.length : Nat) : Int)), (31, pz x147.2), (43, .pure (.bool y210))], [(0, .box [.pure (encL 1 (encL 1 encI_i64) a0.Points), .pure (encL 12 enc_RoadmapEdge a0.Edges)]), (1, .box [.vec 2]), (2, vecO 1 encI_i64 x147.1 3), (3, .box [pz ((a0.Edges.getD ((x147.2).toNat) default).U), pz ((a0.Edges.getD ((x147.2).toNat) default).V), pz ((a0.Edges.getD ((x147.2).toNat) default).Cost), pz ((a0.Edges.getD ((x147.2).toNat) default).State), pz ((a0.Edges.getD ((x147.2).toNat) default).Proof.Kind), .pure (encL 3 enc_Piece ((a0.Edges.getD ((x147.2).toNat) default).Proof.Pieces)), pz ((a0.Edges.getD ((x147.2).toNat) default).Proof.At.Depth), pz ((a0.Edges.getD ((x147.2).toNat) default).Proof.At.Index), .pure (encL 3 enc_arr_3_int64 ((a0.Edges.getD ((x147.2).toNat) default).Proof.At.Normals)), pz ((a0.Edges.getD ((x147.2).toNat) default).Proof.Witness.Pair), .pure (encL 1 encI_i64 ((a0.Edges.getD ((x147.2).toNat) default).Proof.Witness.Left)), .pure (encL 1 encI_i64 ((a0.Edges.getD ((x147.2).toNat) default).Proof.Witness.Right))])], [.func 59 [] [.ptr 1 0]], 4⟩)
 (.call (roadmap_hasEnds_C (⟨a0.Points, a0.Edges⟩ : S_Roadmap) (a0.Edges.getD ((x147.2).toNat) default)) [] fun y211 =>
 .br y211
 (.call (roadmap_usable_C ((a0.Edges.getD ((x147.2).toNat) default).State) a1) [] fun y212 =>
 .ret (.out y212))
 (.ret (.out false))) fun y210 =>
 .br y210
 (.call (roadmap_Components_2_C ((a0.Edges.getD ((x147.2).toNat) default).U) x147.1) [(0, 1), (1, 2)] fun y215 =>
 .call (roadmap_Components_2_C ((a0.Edges.getD ((x147.2).toNat) default).V) y215.2) [(0, 1), (1, 2)] fun y216 =>
 .grd (0 ≤ (max y215.1 y216.1) ∧ (max y215.1 y216.1) < ((y216.2.length : Nat) : Int)) <|
 .conv 14008 (cvSet 1 encI_i64 y216.2 3 (((max y215.1 y216.1)).toNat) (min y215.1 y216.1)) <|
 .grd (((max y215.1 y216.1)).toNat < y216.2.length ∧ 0 ≤ ((max y215.1 y216.1)).toNat) <|
 .ret (.out (y216.2.set (((max y215.1 y216.1)).toNat) (min y215.1 y216.1))))
 (.ret (.out x147.1))) fun y205 =>
 .ret (.next (y205, (IntKind.i64.wrap (x147.2 + 1)))))
 (.ret (.out x147.1)))
 (y6, 0) [] fun y182 =>
 .loop (fun (x229 : ((List Int) × Int)) => ⟨[(4, .ptr 0 0), (6, .func 60 [] [.ptr 0 0]), (62, pz ((y182.length : Nat) : Int)), (63, pz x229.2)], [(0, .box [.vec 1]), (1, vecO 1 encI_i64 x229.1 3)], [.func 59 [] [.ptr 0 0]], 2⟩)
 (.exit 4) (fun (y232 : (List Int)) => ⟨[(4, .ptr 0 0)], [(0, .box [.vec 1]), (1, vecO 1 encI_i64 y232 3)], [.func 59 [] [.ptr 0 0]], 2⟩)
 (fun x229 => .br (decide (x229.2 < ((y182.length : Nat) : Int)))
 (.call (roadmap_Components_2_C x229.2 x229.1) [(0, 0), (1, 1)] fun y234 =>
 .grd (0 ≤ x229.2 ∧ x229.2 < ((y234.2.length : Nat) : Int)) <|
 .conv 19006 (cvSet 1 encI_i64 y234.2 3 ((x229.2).toNat) y234.1) <|
 .grd ((x229.2).toNat < y234.2.length ∧ 0 ≤ (x229.2).toNat) <|
 .ret (.next ((y234.2.set ((x229.2).toNat) y234.1), (IntKind.i64.wrap (x229.2 + 1)))))
 (.ret (.out x229.1)))
 (y182, 0) [] fun y232 =>
 .ret y232
noncomputable def roadmap_Components_C (a0 : S_Roadmap) (a1 : Int) : CallS (List Int) :=
  mkC [⟨59, guard59⟩] hd Tryz.func24 (by kernel_rfl) (roadmap_Components_T a0 a1) 0 [.pure (enc_Roadmap a0), pz a1] [] (fun r => .pure (encL 1 encI_i64 r)) (fun _ => []) (by kernel_rfl)
noncomputable def make_letter_T (a0 : Int) : T ByteArray :=
 .grd (0 ≤ a0 ∧ a0 ≤ (IntKind.i64.wrap (a0 + 1)) ∧ (IntKind.i64.wrap (a0 + 1)) ≤ (((⟨#[97, 98, 99, 100, 101, 102, 103, 104, 105, 106]⟩ : ByteArray).size : Nat) : Int)) <|
 .ret ((⟨#[97, 98, 99, 100, 101, 102, 103, 104, 105, 106]⟩ : ByteArray).extract (a0).toNat ((IntKind.i64.wrap (a0 + 1))).toNat)
noncomputable def make_letter_C (a0 : Int) : CallS ByteArray :=
  mkC [] hd Tryz.func78 (by kernel_rfl) (make_letter_T a0) 0 [pz a0] [] (fun r => .pure (.str r)) (fun _ => []) (by kernel_rfl)
noncomputable def make_Slider_T (a0 : Int) (a1 : Int) : T S_Robot :=
 .loop (fun (x13 : ((List S_Joint) × Int)) => ⟨[(0, pz a0), (1, pz a1), (4, .ptr 0 0), (5, .ptr 3 0), (6, pz x13.2)], [(0, .box [.vec 1, .vec 2]), (1, .nilv), (2, .nilv), (3, .box [.vec 4, .vec 5]), (4, vecO 12 enc_Joint x13.1 100), (5, .nilv)], [], 6⟩)
 (.exit 0) (fun (y16 : (List S_Joint)) => ⟨[(4, .ptr 0 0), (5, .ptr 3 0)], [(0, .box [.vec 1, .vec 2]), (1, .nilv), (2, .nilv), (3, .box [.vec 4, .vec 5]), (4, vecO 12 enc_Joint y16 100), (5, .nilv)], [], 6⟩)
 (fun x13 => .br (decide (x13.2 < a0))
 (.call (make_letter_C x13.2) [] fun y18 =>
 .ok ((2 : Int) ≠ 0) (by decide) <|
 .conv 5011 (cvLit 12 enc_Joint ([(⟨y18, (IntKind.i64.wrap (4 + (x13.2.tmod 2))), (IntKind.i64.wrap (x13.2 - 1)), (0, 0, 0), 0, a1, 1, 65536, 65536, 65536⟩ : S_Joint)] : (List S_Joint)) 100) <|
 .conv 5012 (cvApp 12 enc_Joint x13.1 ([(⟨y18, (IntKind.i64.wrap (4 + (x13.2.tmod 2))), (IntKind.i64.wrap (x13.2 - 1)), (0, 0, 0), 0, a1, 1, 65536, 65536, 65536⟩ : S_Joint)] : (List S_Joint)) 100) <|
 .grd ((x13.1.length + ([(⟨y18, (IntKind.i64.wrap (4 + (x13.2.tmod 2))), (IntKind.i64.wrap (x13.2 - 1)), (0, 0, 0), 0, a1, 1, 65536, 65536, 65536⟩ : S_Joint)] : (List S_Joint)).length) * 104 ≤ 140737488355328 ∧ (x13.1.length + ([(⟨y18, (IntKind.i64.wrap (4 + (x13.2.tmod 2))), (IntKind.i64.wrap (x13.2 - 1)), (0, 0, 0), 0, a1, 1, 65536, 65536, 65536⟩ : S_Joint)] : (List S_Joint)).length) ≤ maxLen) <|
 .ret (.next ((x13.1 ++ ([(⟨y18, (IntKind.i64.wrap (4 + (x13.2.tmod 2))), (IntKind.i64.wrap (x13.2 - 1)), (0, 0, 0), 0, a1, 1, 65536, 65536, 65536⟩ : S_Joint)] : (List S_Joint))), (IntKind.i64.wrap (x13.2 + 1)))))
 (.ret (.out x13.1)))
 (nl, 0) [] fun y16 =>
 .ret (⟨y16, nl⟩ : S_Robot)
noncomputable def make_Slider_C (a0 : Int) (a1 : Int) : CallS S_Robot :=
  mkC [] hd Tryz.func33 (by kernel_rfl) (make_Slider_T a0 a1) 0 [pz a0, pz a1] [] (fun r => .pure (enc_Robot r)) (fun _ => []) (by kernel_rfl)
noncomputable def token_isLetter_T (a0 : Int) : T Bool :=
 .br (decide (97 ≤ a0))
 (.ret (decide (a0 ≤ 122)))
 (.ret false)
noncomputable def token_isLetter_C (a0 : Int) : CallS Bool :=
  mkC [] hd Tryz.func157 (by kernel_rfl) (token_isLetter_T a0) 0 [.pure (.int .i32 a0)] [] (fun r => .pure (.bool r)) (fun _ => []) (by kernel_rfl)
noncomputable def token_isDigit_T (a0 : Int) : T Bool :=
 .br (decide (48 ≤ a0))
 (.ret (decide (a0 ≤ 57)))
 (.ret false)
noncomputable def token_isDigit_C (a0 : Int) : CallS Bool :=
  mkC [] hd Tryz.func158 (by kernel_rfl) (token_isDigit_T a0) 0 [.pure (.int .i32 a0)] [] (fun r => .pure (.bool r)) (fun _ => []) (by kernel_rfl)
noncomputable def token_Name_T (a0 : ByteArray) : T Bool :=
 .cut 2 (fun (y2 : Bool) => ⟨[(0, .pure (.str a0)), (16, .pure (.bool y2))], [], [], 0⟩)
 (.br (((a0.size : Nat) : Int) == 0)
 (.ret (.out true))
 (.br (decide (((a0.size : Nat) : Int) > 16))
 (.ret (.out true))
 (.ret (.out (a0 == (⟨#[119, 111, 114, 108, 100]⟩ : ByteArray)))))) fun y2 =>
 .br y2
 (.ret false)
 (.loop (fun (x35 : Nat) => ⟨[(18, .ptr 0 0)], [(0, .iter a0 x35)], [], 1⟩)
 (.exit 0) (fun (_ : U0) => ⟨[], [], [], 0⟩)
 (fun x35 => .brP (x35 < a0.size)
 (.cut 2 (fun (y48 : Bool) => ⟨[(18, .ptr 0 0), (38, .pure (.bool y48))], [(0, .iter a0 (x35 + (Utf8.decode a0 x35).2))], [], 1⟩)
 (.call (token_isLetter_C ((Utf8.decode a0 x35).1 : Int)) [] fun y49 =>
 .br (!y49)
 (.br (((x35 : Nat) : Int) == 0)
 (.ret (.out true))
 (.call (token_isDigit_C ((Utf8.decode a0 x35).1 : Int)) [] fun y50 =>
 .br (!y50)
 (.ret (.out (((Utf8.decode a0 x35).1 : Int) != 95)))
 (.ret (.out false))))
 (.ret (.out false))) fun y48 =>
 .br y48
 (.ret (.fin false))
 (.ret (.next (x35 + (Utf8.decode a0 x35).2))))
 (.ret (.out .u)))
 0 [] fun _ =>
 .ret true)
noncomputable def token_Name_C (a0 : ByteArray) : CallS Bool :=
  mkC [] hd Tryz.func127 (by kernel_rfl) (token_Name_T a0) 0 [.pure (.str a0)] [] (fun r => .pure (.bool r)) (fun _ => []) (by kernel_rfl)
noncomputable def robot_Find_T (a0 : S_Robot) (a1 : ByteArray) : T Int :=
 .loop (fun (x5 : Int) => ⟨[(1, .pure (.str a1)), (2, .ptr 0 0), (8, pz ((a0.Joints.length : Nat) : Int)), (9, pz x5)], [(0, .box [.pure (encL 12 enc_Joint a0.Joints), .pure (encL 5 enc_Mass a0.Masses)])], [], 1⟩)
 (.exit 0) (fun (_ : U0) => ⟨[], [], [], 0⟩)
 (fun x5 => .br (decide (x5 < ((a0.Joints.length : Nat) : Int)))
 (.grd (0 ≤ x5 ∧ x5 < ((a0.Joints.length : Nat) : Int)) <|
 .br (((a0.Joints.getD ((x5).toNat) default).Name) == a1)
 (.ret (.fin x5))
 (.ret (.next (IntKind.i64.wrap (x5 + 1)))))
 (.ret (.out .u)))
 0 [] fun _ =>
 .ret (-1)
noncomputable def robot_Find_C (a0 : S_Robot) (a1 : ByteArray) : CallS Int :=
  mkC [] hd Tryz.func128 (by kernel_rfl) (robot_Find_T a0 a1) 0 [.pure (enc_Robot a0), .pure (.str a1)] [] (fun r => pz r) (fun _ => []) (by kernel_rfl)
noncomputable def robot_beyond_T (a0 : (Int × Int × Int)) : T Bool :=
 .loop (fun (x13 : Int) => ⟨[(5, .pure (enc_arr_3_int64 a0)), (6, pz x13)], [], [], 0⟩)
 (.exit 0) (fun (_ : U0) => ⟨[], [], [], 0⟩)
 (fun x13 => .br (decide (x13 < 3))
 (.grd (0 ≤ x13 ∧ x13 < ((3 : Nat) : Int)) <|
 .cut 0 (fun (y18 : Bool) => ⟨[(5, .pure (enc_arr_3_int64 a0)), (6, pz x13), (14, .pure (.bool y18))], [], [], 0⟩)
 (.br (decide ((([a0.1, a0.2.1, a0.2.2] : List Int).getD (x13).toNat 0) < (-4194304)))
 (.ret (.out true))
 (.ret (.out (decide ((([a0.1, a0.2.1, a0.2.2] : List Int).getD (x13).toNat 0) > 4194304))))) fun y18 =>
 .br y18
 (.ret (.fin true))
 (.ret (.next (IntKind.i64.wrap (x13 + 1)))))
 (.ret (.out .u)))
 0 [] fun _ =>
 .ret false
noncomputable def robot_beyond_C (a0 : (Int × Int × Int)) : CallS Bool :=
  mkC [] hd Tryz.func129 (by kernel_rfl) (robot_beyond_T a0) 0 [.pure (enc_arr_3_int64 a0)] [] (fun r => .pure (.bool r)) (fun _ => []) (by kernel_rfl)
noncomputable def robot_limit_T (a0 : Int) : T Int :=
 .cut 3 (fun (y3 : Bool) => ⟨[(3, pz a0), (4, .pure (.bool y3))], [], [], 0⟩)
 (.br (a0 == 1)
 (.ret (.out (a0 == 1)))
 (.br (a0 == 2)
 (.ret (.out (a0 == 2)))
 (.ret (.out (a0 == 3))))) fun y3 =>
 .br y3
 (.ret 524288)
 (.cut 0 (fun (y4 : Bool) => ⟨[(8, .pure (.bool y4))], [], [], 0⟩)
 (.br (a0 == 4)
 (.ret (.out (a0 == 4)))
 (.br (a0 == 5)
 (.ret (.out (a0 == 5)))
 (.ret (.out (a0 == 6))))) fun y4 =>
 .br y4
 (.ret 4194304)
 (.ret 0))
noncomputable def robot_limit_C (a0 : Int) : CallS Int :=
  mkC [] hd Tryz.func130 (by kernel_rfl) (robot_limit_T a0) 0 [pz a0] [] (fun r => pz r) (fun _ => []) (by kernel_rfl)
noncomputable def robot_from1_T (a0 : Int) (a1 : Int) : T Bool :=
 .br (decide (1 ≤ a0))
 (.ret (decide (a0 ≤ a1)))
 (.ret false)
noncomputable def robot_from1_C (a0 : Int) (a1 : Int) : CallS Bool :=
  mkC [] hd Tryz.func131 (by kernel_rfl) (robot_from1_T a0 a1) 0 [pz a0, pz a1] [] (fun r => .pure (.bool r)) (fun _ => []) (by kernel_rfl)
noncomputable def robot_checkJoint_T (a0 : S_Robot) (a1 : Int) : T Int :=
 .grd (0 ≤ a1 ∧ a1 < ((a0.Joints.length : Nat) : Int)) <|
 .cut 1 (fun (y16 : Bool) => ⟨[(1, pz a1), (5, .ptr 0 0), (12, .pure (.bool y16))], [(0, .box [.pure (.str ((a0.Joints.getD ((a1).toNat) default).Name)), pz ((a0.Joints.getD ((a1).toNat) default).Kind), pz ((a0.Joints.getD ((a1).toNat) default).Parent), pz ((a0.Joints.getD ((a1).toNat) default).Offset.1), pz ((a0.Joints.getD ((a1).toNat) default).Offset.2.1), pz ((a0.Joints.getD ((a1).toNat) default).Offset.2.2), pz ((a0.Joints.getD ((a1).toNat) default).Lo), pz ((a0.Joints.getD ((a1).toNat) default).Hi), pz ((a0.Joints.getD ((a1).toNat) default).Weight), pz ((a0.Joints.getD ((a1).toNat) default).Speed), pz ((a0.Joints.getD ((a1).toNat) default).Accel), pz ((a0.Joints.getD ((a1).toNat) default).Torque)])], [], 1⟩)
 (.call (token_Name_C ((a0.Joints.getD ((a1).toNat) default).Name)) [] fun y17 =>
 .br (!y17)
 (.ret (.out true))
 (.call (robot_Find_C (⟨a0.Joints, a0.Masses⟩ : S_Robot) ((a0.Joints.getD ((a1).toNat) default).Name)) [] fun y18 =>
 .ret (.out (y18 != a1)))) fun y16 =>
 .br y16
 (.ret 802)
 (.cut 0 (fun (y19 : Bool) => ⟨[(1, pz a1), (5, .ptr 0 0), (25, .pure (.bool y19))], [(0, .box [.pure (.str ((a0.Joints.getD ((a1).toNat) default).Name)), pz ((a0.Joints.getD ((a1).toNat) default).Kind), pz ((a0.Joints.getD ((a1).toNat) default).Parent), pz ((a0.Joints.getD ((a1).toNat) default).Offset.1), pz ((a0.Joints.getD ((a1).toNat) default).Offset.2.1), pz ((a0.Joints.getD ((a1).toNat) default).Offset.2.2), pz ((a0.Joints.getD ((a1).toNat) default).Lo), pz ((a0.Joints.getD ((a1).toNat) default).Hi), pz ((a0.Joints.getD ((a1).toNat) default).Weight), pz ((a0.Joints.getD ((a1).toNat) default).Speed), pz ((a0.Joints.getD ((a1).toNat) default).Accel), pz ((a0.Joints.getD ((a1).toNat) default).Torque)])], [], 1⟩)
 (.br (decide (((a0.Joints.getD ((a1).toNat) default).Kind) < 0))
 (.ret (.out true))
 (.ret (.out (decide (((a0.Joints.getD ((a1).toNat) default).Kind) > 6))))) fun y19 =>
 .br y19
 (.ret 803)
 (.cut 0 (fun (y20 : Bool) => ⟨[(5, .ptr 0 0), (34, .pure (.bool y20))], [(0, .box [.pure (.str ((a0.Joints.getD ((a1).toNat) default).Name)), pz ((a0.Joints.getD ((a1).toNat) default).Kind), pz ((a0.Joints.getD ((a1).toNat) default).Parent), pz ((a0.Joints.getD ((a1).toNat) default).Offset.1), pz ((a0.Joints.getD ((a1).toNat) default).Offset.2.1), pz ((a0.Joints.getD ((a1).toNat) default).Offset.2.2), pz ((a0.Joints.getD ((a1).toNat) default).Lo), pz ((a0.Joints.getD ((a1).toNat) default).Hi), pz ((a0.Joints.getD ((a1).toNat) default).Weight), pz ((a0.Joints.getD ((a1).toNat) default).Speed), pz ((a0.Joints.getD ((a1).toNat) default).Accel), pz ((a0.Joints.getD ((a1).toNat) default).Torque)])], [], 1⟩)
 (.br (decide (((a0.Joints.getD ((a1).toNat) default).Parent) < (-1)))
 (.ret (.out true))
 (.ret (.out (decide (((a0.Joints.getD ((a1).toNat) default).Parent) ≥ a1))))) fun y20 =>
 .br y20
 (.ret 804)
 (.call (robot_beyond_C ((a0.Joints.getD ((a1).toNat) default).Offset)) [] fun y22 =>
 .br y22
 (.ret 805)
 (.call (robot_limit_C ((a0.Joints.getD ((a1).toNat) default).Kind)) [] fun y24 =>
 .cut 1 (fun (y26 : Bool) => ⟨[(5, .ptr 0 0), (68, .pure (.bool y26))], [(0, .box [.pure (.str ((a0.Joints.getD ((a1).toNat) default).Name)), pz ((a0.Joints.getD ((a1).toNat) default).Kind), pz ((a0.Joints.getD ((a1).toNat) default).Parent), pz ((a0.Joints.getD ((a1).toNat) default).Offset.1), pz ((a0.Joints.getD ((a1).toNat) default).Offset.2.1), pz ((a0.Joints.getD ((a1).toNat) default).Offset.2.2), pz ((a0.Joints.getD ((a1).toNat) default).Lo), pz ((a0.Joints.getD ((a1).toNat) default).Hi), pz ((a0.Joints.getD ((a1).toNat) default).Weight), pz ((a0.Joints.getD ((a1).toNat) default).Speed), pz ((a0.Joints.getD ((a1).toNat) default).Accel), pz ((a0.Joints.getD ((a1).toNat) default).Torque)])], [], 1⟩)
 (.br (decide (((a0.Joints.getD ((a1).toNat) default).Lo) > ((a0.Joints.getD ((a1).toNat) default).Hi)))
 (.ret (.out true))
 (.br (decide (((a0.Joints.getD ((a1).toNat) default).Lo) < (IntKind.i64.wrap (0 - y24))))
 (.ret (.out true))
 (.ret (.out (decide (((a0.Joints.getD ((a1).toNat) default).Hi) > y24)))))) fun y26 =>
 .br y26
 (.ret 806)
 (.cut 1 (fun (y48 : Bool) => ⟨[(90, .pure (.bool y48))], [], [], 0⟩)
 (.call (robot_from1_C ((a0.Joints.getD ((a1).toNat) default).Weight) 1024) [] fun y49 =>
 .br (!y49)
 (.ret (.out true))
 (.call (robot_from1_C ((a0.Joints.getD ((a1).toNat) default).Speed) 1048576) [] fun y50 =>
 .br (!y50)
 (.ret (.out true))
 (.call (robot_from1_C ((a0.Joints.getD ((a1).toNat) default).Accel) 1048576) [] fun y51 =>
 .br (!y51)
 (.ret (.out true))
 (.call (robot_from1_C ((a0.Joints.getD ((a1).toNat) default).Torque) 1099511627776) [] fun y52 =>
 .ret (.out (!y52)))))) fun y48 =>
 .br y48
 (.ret 807)
 (.ret 0))))))
noncomputable def robot_checkJoint_C (a0 : S_Robot) (a1 : Int) : CallS Int :=
  mkC [] hd Tryz.func82 (by kernel_rfl) (robot_checkJoint_T a0 a1) 0 [.pure (enc_Robot a0), pz a1] [] (fun r => pz r) (fun _ => []) (by kernel_rfl)
noncomputable def robot_validMass_T (a0 : S_Robot) (a1 : S_Mass) : T Bool :=
 .br (decide (0 ≤ a1.Link))
 (.br (decide (a1.Link < ((a0.Joints.length : Nat) : Int)))
 (.call (robot_from1_C a1.Mass 65536) [] fun y1 =>
 .br y1
 (.call (robot_beyond_C a1.Point) [] fun y2 =>
 .ret (!y2))
 (.ret false))
 (.ret false))
 (.ret false)
noncomputable def robot_validMass_C (a0 : S_Robot) (a1 : S_Mass) : CallS Bool :=
  mkC [] hd Tryz.func85 (by kernel_rfl) (robot_validMass_T a0 a1) 0 [.pure (enc_Robot a0), .pure (enc_Mass a1)] [] (fun r => .pure (.bool r)) (fun _ => []) (by kernel_rfl)
noncomputable def robot_Check_1_T (a0 : S_Mass) (a1 : (List S_Joint)) (a2 : (List S_Mass)) : T Bool :=
 .call (robot_validMass_C (⟨a1, a2⟩ : S_Robot) (⟨a0.Link, a0.Mass, a0.Point⟩ : S_Mass)) [] fun y1 =>
 .ret (!y1)
noncomputable def robot_Check_1_C (a0 : S_Mass) (a1 : (List S_Joint)) (a2 : (List S_Mass)) : CallS Bool :=
  mkC [] hd Tryz.func84 (by kernel_rfl) (robot_Check_1_T a0 a1 a2) 1 [.pure (enc_Mass a0), .ptr 0 0] [(0, .box [.pure (encL 12 enc_Joint a1), .pure (encL 5 enc_Mass a2)])] (fun r => .pure (.bool r)) (fun _ => [(0, .box [.pure (encL 12 enc_Joint a1), .pure (encL 5 enc_Mass a2)])]) (by kernel_rfl)
noncomputable def slices_IndexFunc_api_Mass_api_Mass_T (a0 : (List S_Mass)) (a1 : (List S_Joint)) (a2 : (List S_Mass)) : T Int :=
 .loop (fun (x21 : Int) => ⟨[(0, .pure (encL 5 enc_Mass a0)), (1, .func 84 [] [.ptr 0 0]), (7, pz ((a0.length : Nat) : Int)), (8, pz x21)], [(0, .box [.pure (encL 12 enc_Joint a1), .pure (encL 5 enc_Mass a2)])], [], 1⟩)
 (.exit 0) (fun (_ : U0) => ⟨[], [(0, .box [.pure (encL 12 enc_Joint a1), .pure (encL 5 enc_Mass a2)])], [], 1⟩)
 (fun x21 => .br (decide (x21 < ((a0.length : Nat) : Int)))
 (.grd (0 ≤ x21 ∧ x21 < ((a0.length : Nat) : Int)) <|
 .call (robot_Check_1_C (a0.getD ((x21).toNat) default) a1 a2) [(0, 0)] fun y30 =>
 .br y30
 (.ret (.fin x21))
 (.ret (.next (IntKind.i64.wrap (x21 + 1)))))
 (.ret (.out .u)))
 0 [] fun _ =>
 .ret (-1)
noncomputable def slices_IndexFunc_api_Mass_api_Mass_C (a0 : (List S_Mass)) (a1 : (List S_Joint)) (a2 : (List S_Mass)) : CallS Int :=
  mkC [] hd Tryz.func132 (by kernel_rfl) (slices_IndexFunc_api_Mass_api_Mass_T a0 a1 a2) 1 [.pure (encL 5 enc_Mass a0), .func 84 [] [.ptr 0 0]] [(0, .box [.pure (encL 12 enc_Joint a1), .pure (encL 5 enc_Mass a2)])] (fun r => pz r) (fun _ => [(0, .box [.pure (encL 12 enc_Joint a1), .pure (encL 5 enc_Mass a2)])]) (by kernel_rfl)
noncomputable def slices_ContainsFunc_api_Mass_api_Mass_T (a0 : (List S_Mass)) (a1 : (List S_Joint)) (a2 : (List S_Mass)) : T Bool :=
 .call (slices_IndexFunc_api_Mass_api_Mass_C a0 a1 a2) [(0, 0)] fun y1 =>
 .ret (decide (y1 ≥ 0))
noncomputable def slices_ContainsFunc_api_Mass_api_Mass_C (a0 : (List S_Mass)) (a1 : (List S_Joint)) (a2 : (List S_Mass)) : CallS Bool :=
  mkC [] hd Tryz.func83 (by kernel_rfl) (slices_ContainsFunc_api_Mass_api_Mass_T a0 a1 a2) 1 [.pure (encL 5 enc_Mass a0), .func 84 [] [.ptr 0 0]] [(0, .box [.pure (encL 12 enc_Joint a1), .pure (encL 5 enc_Mass a2)])] (fun r => .pure (.bool r)) (fun _ => [(0, .box [.pure (encL 12 enc_Joint a1), .pure (encL 5 enc_Mass a2)])]) (by kernel_rfl)
noncomputable def robot_Check_T (a0 : S_Robot) : T Int :=
 .cut 2 (fun (y2 : Bool) => ⟨[(1, .ptr 0 0), (14, .pure (.bool y2))], [(0, .box [.pure (encL 12 enc_Joint a0.Joints), .pure (encL 5 enc_Mass a0.Masses)])], [], 1⟩)
 (.br (((a0.Joints.length : Nat) : Int) == 0)
 (.ret (.out true))
 (.ret (.out (decide (((a0.Joints.length : Nat) : Int) > 10))))) fun y2 =>
 .br y2
 (.ret 801)
 (.loop (fun (x23 : Int) => ⟨[(1, .ptr 0 0), (17, pz ((a0.Joints.length : Nat) : Int)), (18, pz x23)], [(0, .box [.pure (encL 12 enc_Joint a0.Joints), .pure (encL 5 enc_Mass a0.Masses)])], [], 1⟩)
 (.exit 0) (fun (_ : U0) => ⟨[(1, .ptr 0 0)], [(0, .box [.pure (encL 12 enc_Joint a0.Joints), .pure (encL 5 enc_Mass a0.Masses)])], [], 1⟩)
 (fun x23 => .br (decide (x23 < ((a0.Joints.length : Nat) : Int)))
 (.call (robot_checkJoint_C (⟨a0.Joints, a0.Masses⟩ : S_Robot) x23) [] fun y32 =>
 .br (y32 != 0)
 (.ret (.fin y32))
 (.ret (.next (IntKind.i64.wrap (x23 + 1)))))
 (.ret (.out .u)))
 0 [] fun _ =>
 .cut 1 (fun (y39 : Bool) => ⟨[(37, .pure (.bool y39))], [], [], 0⟩)
 (.br (decide (((a0.Masses.length : Nat) : Int) > 32))
 (.ret (.out true))
 (.call (slices_ContainsFunc_api_Mass_api_Mass_C a0.Masses a0.Joints a0.Masses) [(0, 0)] fun y40 =>
 .ret (.out y40))) fun y39 =>
 .br y39
 (.ret 808)
 (.ret 0))
noncomputable def robot_Check_C (a0 : S_Robot) : CallS Int :=
  mkC [] hd Tryz.func40 (by kernel_rfl) (robot_Check_T a0) 0 [.pure (enc_Robot a0)] [] (fun r => pz r) (fun _ => []) (by kernel_rfl)
noncomputable def config_Inside_1_T (a0 : S_Joint) (a1 : Int) : T Bool :=
 .br (decide (a0.Lo ≤ a1))
 (.ret (decide (a1 ≤ a0.Hi)))
 (.ret false)
noncomputable def config_Inside_1_C (a0 : S_Joint) (a1 : Int) : CallS Bool :=
  mkC [] hd Tryz.func106 (by kernel_rfl) (config_Inside_1_T a0 a1) 0 [.pure (enc_Joint a0), pz a1] [] (fun r => .pure (.bool r)) (fun _ => []) (by kernel_rfl)
noncomputable def config_every_api_Joint_int64_T (a0 : (List S_Joint)) (a1 : (List Int)) : T Bool :=
 .br (((a0.length : Nat) : Int) != ((a1.length : Nat) : Int))
 (.ret false)
 (.loop (fun (x21 : Int) => ⟨[(1, .pure (encL 1 encI_i64 a1)), (2, .func 106 [] []), (14, .pure (encL 12 enc_Joint a0)), (15, pz ((a0.length : Nat) : Int)), (16, pz x21)], [], [], 0⟩)
 (.exit 0) (fun (_ : U0) => ⟨[], [], [], 0⟩)
 (fun x21 => .br (decide (x21 < ((a0.length : Nat) : Int)))
 (.grd (0 ≤ x21 ∧ x21 < ((a0.length : Nat) : Int)) <|
 .grd (0 ≤ x21 ∧ x21 < ((a1.length : Nat) : Int)) <|
 .call (config_Inside_1_C (a0.getD ((x21).toNat) default) (a1.getD ((x21).toNat) default)) [] fun y30 =>
 .br (!y30)
 (.ret (.fin false))
 (.ret (.next (IntKind.i64.wrap (x21 + 1)))))
 (.ret (.out .u)))
 0 [] fun _ =>
 .ret true)
noncomputable def config_every_api_Joint_int64_C (a0 : (List S_Joint)) (a1 : (List Int)) : CallS Bool :=
  mkC [] hd Tryz.func105 (by kernel_rfl) (config_every_api_Joint_int64_T a0 a1) 0 [.pure (encL 12 enc_Joint a0), .pure (encL 1 encI_i64 a1), .func 106 [] []] [] (fun r => .pure (.bool r)) (fun _ => []) (by kernel_rfl)
noncomputable def config_Inside_T (a0 : S_Robot) (a1 : (List Int)) : T Bool :=
 .call (robot_Check_C a0) [] fun y1 =>
 .br (y1 == 0)
 (.call (config_every_api_Joint_int64_C a0.Joints a1) [] fun y2 =>
 .ret y2)
 (.ret false)
noncomputable def config_Inside_C (a0 : S_Robot) (a1 : (List Int)) : CallS Bool :=
  mkC [] hd Tryz.func66 (by kernel_rfl) (config_Inside_T a0 a1) 0 [.pure (enc_Robot a0), .pure (encL 1 encI_i64 a1)] [] (fun r => .pure (.bool r)) (fun _ => []) (by kernel_rfl)
noncomputable def slices_Clone_int64_int64_T (a0 : (List Int)) : T (List Int) :=
  (match a0 with
   | [] => .unroll 1 <|
   .grd (a0.length = 0) <|
   .both
    (.ret nl)
    (.conv 3000 (cvLit 1 encI_i64 ([] : (List Int)) 2) <|
    .conv 3002 (cvApp 1 encI_i64 ([] : (List Int)) a0 2) <|
    .grd ((([] : (List Int)).length + a0.length) * 8 ≤ 140737488355328 ∧ (([] : (List Int)).length + a0.length) ≤ maxLen) <|
    .ret (([] : (List Int)) ++ a0))
   | _ :: _ => .grd (0 < a0.length) <|
   .conv 3000 (cvLit 1 encI_i64 ([] : (List Int)) 2) <|
   .conv 3002 (cvApp 1 encI_i64 ([] : (List Int)) a0 2) <|
   .grd ((([] : (List Int)).length + a0.length) * 8 ≤ 140737488355328 ∧ (([] : (List Int)).length + a0.length) ≤ maxLen) <|
   .ret (([] : (List Int)) ++ a0))
noncomputable def slices_Clone_int64_int64_C (a0 : (List Int)) : CallS (List Int) :=
  mkH [] hd Tryz.func70 (by kernel_rfl) (slices_Clone_int64_int64_T a0) 0 [.pure (encL 1 encI_i64 a0)] [] (fun r => .pure (encL 1 encI_i64 r)) (fun _ => []) (by cases a0 <;> exact Ob.of_side (by kernel_rfl))
set_option maxHeartbeats 8000000 in
set_option maxRecDepth 20000 in
noncomputable def roadmap_distinct_T (a0 : S_Robot) (a1 : (List (List Int))) : T (List (List Int)) :=
 .loop (fun (x69 : ((List (List Int)) × (List ((Int × Int × Int × Int × Int × Int × Int × Int × Int × Int) × Bool)) × Int)) => ⟨[(2, .ptr 0 0), (5, .vec 1), (6, .map 2), (11, .pure (encL 1 (encL 1 encI_i64) a1)), (12, pz ((a1.length : Nat) : Int)), (13, pz x69.2.2)], [(0, .box [.pure (encL 12 enc_Joint a0.Joints), .pure (encL 5 enc_Mass a0.Masses)]), (1, vecO 1 (encL 1 encI_i64) x69.1 40), (2, mapR_b [.int .i64 0, .int .i64 0, .int .i64 0, .int .i64 0, .int .i64 0, .int .i64 0, .int .i64 0, .int .i64 0, .int .i64 0, .int .i64 0] cells_arr_10_int64 x69.2.1)], [], 3⟩)
 (.exit 0) (fun (y86 : (List (List Int))) => ⟨[(5, .vec 0)], [(0, vecO 1 (encL 1 encI_i64) y86 40)], [], 1⟩)
 (fun x69 => .br (decide (x69.2.2 < ((a1.length : Nat) : Int)))
 (.cut 0 (fun (y97 : ((List (List Int)) × (List ((Int × Int × Int × Int × Int × Int × Int × Int × Int × Int) × Bool)))) => ⟨[(2, .ptr 0 0), (5, .vec 1), (6, .map 2), (11, .pure (encL 1 (encL 1 encI_i64) a1)), (12, pz ((a1.length : Nat) : Int)), (13, pz x69.2.2)], [(0, .box [.pure (encL 12 enc_Joint a0.Joints), .pure (encL 5 enc_Mass a0.Masses)]), (1, vecO 1 (encL 1 encI_i64) y97.1 40), (2, mapR_b [.int .i64 0, .int .i64 0, .int .i64 0, .int .i64 0, .int .i64 0, .int .i64 0, .int .i64 0, .int .i64 0, .int .i64 0, .int .i64 0] cells_arr_10_int64 y97.2)], [], 3⟩)
 (.grd (0 ≤ x69.2.2 ∧ x69.2.2 < ((a1.length : Nat) : Int)) <|
 .br (((x69.1.length : Nat) : Int) == 1024)
 (.ret (.fin (.out x69.1)))
 (.call (config_Inside_C (⟨a0.Joints, a0.Masses⟩ : S_Robot) (a1.getD ((x69.2.2).toNat) default)) [] fun y101 =>
 .br (!y101)
 (.ret (.out (x69.1, x69.2.1)))
 (.ok ((mdom cells_arr_10_int64 x69.2.1 (cells_arr_10_int64 ((if 0 < (a1.getD ((x69.2.2).toNat) default).length then (a1.getD ((x69.2.2).toNat) default).getD 0 default else 0), (if 1 < (a1.getD ((x69.2.2).toNat) default).length then (a1.getD ((x69.2.2).toNat) default).getD 1 default else 0), (if 2 < (a1.getD ((x69.2.2).toNat) default).length then (a1.getD ((x69.2.2).toNat) default).getD 2 default else 0), (if 3 < (a1.getD ((x69.2.2).toNat) default).length then (a1.getD ((x69.2.2).toNat) default).getD 3 default else 0), (if 4 < (a1.getD ((x69.2.2).toNat) default).length then (a1.getD ((x69.2.2).toNat) default).getD 4 default else 0), (if 5 < (a1.getD ((x69.2.2).toNat) default).length then (a1.getD ((x69.2.2).toNat) default).getD 5 default else 0), (if 6 < (a1.getD ((x69.2.2).toNat) default).length then (a1.getD ((x69.2.2).toNat) default).getD 6 default else 0), (if 7 < (a1.getD ((x69.2.2).toNat) default).length then (a1.getD ((x69.2.2).toNat) default).getD 7 default else 0), (if 8 < (a1.getD ((x69.2.2).toNat) default).length then (a1.getD ((x69.2.2).toNat) default).getD 8 default else 0), (if 9 < (a1.getD ((x69.2.2).toNat) default).length then (a1.getD ((x69.2.2).toNat) default).getD 9 default else 0)))) = false → PVal.bool (mgetB cells_arr_10_int64 x69.2.1 (cells_arr_10_int64 ((if 0 < (a1.getD ((x69.2.2).toNat) default).length then (a1.getD ((x69.2.2).toNat) default).getD 0 default else 0), (if 1 < (a1.getD ((x69.2.2).toNat) default).length then (a1.getD ((x69.2.2).toNat) default).getD 1 default else 0), (if 2 < (a1.getD ((x69.2.2).toNat) default).length then (a1.getD ((x69.2.2).toNat) default).getD 2 default else 0), (if 3 < (a1.getD ((x69.2.2).toNat) default).length then (a1.getD ((x69.2.2).toNat) default).getD 3 default else 0), (if 4 < (a1.getD ((x69.2.2).toNat) default).length then (a1.getD ((x69.2.2).toNat) default).getD 4 default else 0), (if 5 < (a1.getD ((x69.2.2).toNat) default).length then (a1.getD ((x69.2.2).toNat) default).getD 5 default else 0), (if 6 < (a1.getD ((x69.2.2).toNat) default).length then (a1.getD ((x69.2.2).toNat) default).getD 6 default else 0), (if 7 < (a1.getD ((x69.2.2).toNat) default).length then (a1.getD ((x69.2.2).toNat) default).getD 7 default else 0), (if 8 < (a1.getD ((x69.2.2).toNat) default).length then (a1.getD ((x69.2.2).toNat) default).getD 8 default else 0), (if 9 < (a1.getD ((x69.2.2).toNat) default).length then (a1.getD ((x69.2.2).toNat) default).getD 9 default else 0)))) = .bool false) mgetB0 <|
 .br (!(mgetB cells_arr_10_int64 x69.2.1 (cells_arr_10_int64 ((if 0 < (a1.getD ((x69.2.2).toNat) default).length then (a1.getD ((x69.2.2).toNat) default).getD 0 default else 0), (if 1 < (a1.getD ((x69.2.2).toNat) default).length then (a1.getD ((x69.2.2).toNat) default).getD 1 default else 0), (if 2 < (a1.getD ((x69.2.2).toNat) default).length then (a1.getD ((x69.2.2).toNat) default).getD 2 default else 0), (if 3 < (a1.getD ((x69.2.2).toNat) default).length then (a1.getD ((x69.2.2).toNat) default).getD 3 default else 0), (if 4 < (a1.getD ((x69.2.2).toNat) default).length then (a1.getD ((x69.2.2).toNat) default).getD 4 default else 0), (if 5 < (a1.getD ((x69.2.2).toNat) default).length then (a1.getD ((x69.2.2).toNat) default).getD 5 default else 0), (if 6 < (a1.getD ((x69.2.2).toNat) default).length then (a1.getD ((x69.2.2).toNat) default).getD 6 default else 0), (if 7 < (a1.getD ((x69.2.2).toNat) default).length then (a1.getD ((x69.2.2).toNat) default).getD 7 default else 0), (if 8 < (a1.getD ((x69.2.2).toNat) default).length then (a1.getD ((x69.2.2).toNat) default).getD 8 default else 0), (if 9 < (a1.getD ((x69.2.2).toNat) default).length then (a1.getD ((x69.2.2).toNat) default).getD 9 default else 0)))))
 (.conv 11002 (cvMapB [.int .i64 0, .int .i64 0, .int .i64 0, .int .i64 0, .int .i64 0, .int .i64 0, .int .i64 0, .int .i64 0, .int .i64 0, .int .i64 0] cells_arr_10_int64 x69.2.1 ((if 0 < (a1.getD ((x69.2.2).toNat) default).length then (a1.getD ((x69.2.2).toNat) default).getD 0 default else 0), (if 1 < (a1.getD ((x69.2.2).toNat) default).length then (a1.getD ((x69.2.2).toNat) default).getD 1 default else 0), (if 2 < (a1.getD ((x69.2.2).toNat) default).length then (a1.getD ((x69.2.2).toNat) default).getD 2 default else 0), (if 3 < (a1.getD ((x69.2.2).toNat) default).length then (a1.getD ((x69.2.2).toNat) default).getD 3 default else 0), (if 4 < (a1.getD ((x69.2.2).toNat) default).length then (a1.getD ((x69.2.2).toNat) default).getD 4 default else 0), (if 5 < (a1.getD ((x69.2.2).toNat) default).length then (a1.getD ((x69.2.2).toNat) default).getD 5 default else 0), (if 6 < (a1.getD ((x69.2.2).toNat) default).length then (a1.getD ((x69.2.2).toNat) default).getD 6 default else 0), (if 7 < (a1.getD ((x69.2.2).toNat) default).length then (a1.getD ((x69.2.2).toNat) default).getD 7 default else 0), (if 8 < (a1.getD ((x69.2.2).toNat) default).length then (a1.getD ((x69.2.2).toNat) default).getD 8 default else 0), (if 9 < (a1.getD ((x69.2.2).toNat) default).length then (a1.getD ((x69.2.2).toNat) default).getD 9 default else 0)) true) <|
 .call (slices_Clone_int64_int64_C (a1.getD ((x69.2.2).toNat) default)) [] fun y102 =>
 .conv 12003 (cvLit 1 (encL 1 encI_i64) ([y102] : (List (List Int))) 40) <|
 .conv 12004 (cvApp 1 (encL 1 encI_i64) x69.1 ([y102] : (List (List Int))) 40) <|
 .grd ((x69.1.length + ([y102] : (List (List Int))).length) * 24 ≤ 140737488355328 ∧ (x69.1.length + ([y102] : (List (List Int))).length) ≤ maxLen) <|
 .ret (.out ((x69.1 ++ ([y102] : (List (List Int)))), ((((if 0 < (a1.getD ((x69.2.2).toNat) default).length then (a1.getD ((x69.2.2).toNat) default).getD 0 default else 0), (if 1 < (a1.getD ((x69.2.2).toNat) default).length then (a1.getD ((x69.2.2).toNat) default).getD 1 default else 0), (if 2 < (a1.getD ((x69.2.2).toNat) default).length then (a1.getD ((x69.2.2).toNat) default).getD 2 default else 0), (if 3 < (a1.getD ((x69.2.2).toNat) default).length then (a1.getD ((x69.2.2).toNat) default).getD 3 default else 0), (if 4 < (a1.getD ((x69.2.2).toNat) default).length then (a1.getD ((x69.2.2).toNat) default).getD 4 default else 0), (if 5 < (a1.getD ((x69.2.2).toNat) default).length then (a1.getD ((x69.2.2).toNat) default).getD 5 default else 0), (if 6 < (a1.getD ((x69.2.2).toNat) default).length then (a1.getD ((x69.2.2).toNat) default).getD 6 default else 0), (if 7 < (a1.getD ((x69.2.2).toNat) default).length then (a1.getD ((x69.2.2).toNat) default).getD 7 default else 0), (if 8 < (a1.getD ((x69.2.2).toNat) default).length then (a1.getD ((x69.2.2).toNat) default).getD 8 default else 0), (if 9 < (a1.getD ((x69.2.2).toNat) default).length then (a1.getD ((x69.2.2).toNat) default).getD 9 default else 0)), true) :: x69.2.1))))
 (.ret (.out (x69.1, x69.2.1)))))) fun y97 =>
 .ret (.next (y97.1, y97.2, (IntKind.i64.wrap (x69.2.2 + 1)))))
 (.ret (.out x69.1)))
 (nl, (nl : List ((Int × Int × Int × Int × Int × Int × Int × Int × Int × Int) × Bool)), 0) [] fun y86 =>
 .ret y86
noncomputable def roadmap_distinct_C (a0 : S_Robot) (a1 : (List (List Int))) : CallS (List (List Int)) :=
  mkC [] hd Tryz.func41 (by kernel_rfl) (roadmap_distinct_T a0 a1) 0 [.pure (enc_Robot a0), .pure (encL 1 (encL 1 encI_i64) a1)] [] (fun r => .pure (encL 1 (encL 1 encI_i64) r)) (fun _ => []) (by kernel_rfl)
noncomputable def neighbor_small_T (a0 : (List Int)) : T Bool :=
 .loop (fun (x13 : Int) => ⟨[(5, .pure (encL 1 encI_i64 a0)), (6, pz ((a0.length : Nat) : Int)), (7, pz x13)], [], [], 0⟩)
 (.exit 0) (fun (_ : U0) => ⟨[], [], [], 0⟩)
 (fun x13 => .br (decide (x13 < ((a0.length : Nat) : Int)))
 (.grd (0 ≤ x13 ∧ x13 < ((a0.length : Nat) : Int)) <|
 .cut 0 (fun (y18 : Bool) => ⟨[(5, .pure (encL 1 encI_i64 a0)), (6, pz ((a0.length : Nat) : Int)), (7, pz x13), (16, .pure (.bool y18))], [], [], 0⟩)
 (.br (decide ((a0.getD ((x13).toNat) default) < (-2147483648)))
 (.ret (.out true))
 (.ret (.out (decide ((a0.getD ((x13).toNat) default) > 2147483648))))) fun y18 =>
 .br y18
 (.ret (.fin false))
 (.ret (.next (IntKind.i64.wrap (x13 + 1)))))
 (.ret (.out .u)))
 0 [] fun _ =>
 .ret true
noncomputable def neighbor_small_C (a0 : (List Int)) : CallS Bool :=
  mkC [] hd Tryz.func139 (by kernel_rfl) (neighbor_small_T a0) 0 [.pure (encL 1 encI_i64 a0)] [] (fun r => .pure (.bool r)) (fun _ => []) (by kernel_rfl)
noncomputable def neighbor_validPoints_T (a0 : (List (List Int))) : T Bool :=
 .br (decide (((a0.length : Nat) : Int) > 1024))
 (.ret false)
 (.loop (fun (x37 : Int) => ⟨[(0, .pure (encL 1 (encL 1 encI_i64) a0)), (8, .pure (encL 1 (encL 1 encI_i64) a0)), (9, pz ((a0.length : Nat) : Int)), (10, pz x37)], [], [], 0⟩)
 (.exit 0) (fun (_ : U0) => ⟨[], [], [], 0⟩)
 (fun x37 => .br (decide (x37 < ((a0.length : Nat) : Int)))
 (.grd (0 ≤ x37 ∧ x37 < ((a0.length : Nat) : Int)) <|
 .cut 0 (fun (y53 : Bool) => ⟨[(0, .pure (encL 1 (encL 1 encI_i64) a0)), (8, .pure (encL 1 (encL 1 encI_i64) a0)), (9, pz ((a0.length : Nat) : Int)), (10, pz x37), (35, .pure (.bool y53))], [], [], 0⟩)
 (.br (decide ((((a0.getD ((x37).toNat) default).length : Nat) : Int) < 1))
 (.ret (.out true))
 (.br (decide ((((a0.getD ((x37).toNat) default).length : Nat) : Int) > 10))
 (.ret (.out true))
 (.grd (0 ≤ (0 : Int) ∧ (0 : Int) < ((a0.length : Nat) : Int)) <|
 .br ((((a0.getD ((x37).toNat) default).length : Nat) : Int) != (((a0.getD ((0 : Int).toNat) default).length : Nat) : Int))
 (.ret (.out true))
 (.call (neighbor_small_C (a0.getD ((x37).toNat) default)) [] fun y54 =>
 .ret (.out (!y54)))))) fun y53 =>
 .br y53
 (.ret (.fin false))
 (.ret (.next (IntKind.i64.wrap (x37 + 1)))))
 (.ret (.out .u)))
 0 [] fun _ =>
 .ret true)
noncomputable def neighbor_validPoints_C (a0 : (List (List Int))) : CallS Bool :=
  mkC [] hd Tryz.func118 (by kernel_rfl) (neighbor_validPoints_T a0) 0 [.pure (encL 1 (encL 1 encI_i64) a0)] [] (fun r => .pure (.bool r)) (fun _ => []) (by kernel_rfl)
noncomputable def math_bits_Len64_T (a0 : Int) : T Int :=
 .cut 1 (fun (y5 : (Int × Int)) => ⟨[(0, .pure (.int .u64 y5.1)), (2, pz y5.2)], [], [], 0⟩)
 (.br (decide (a0 ≥ 4294967296))
 (.ok (0 ≤ (32 : Int)) (by decide) <|
 .ret (.out ((a0.fdiv (2 ^ (min (32 : Int).toNat 64))), 32)))
 (.ret (.out (a0, 0)))) fun y5 =>
 .cut 0 (fun (y6 : (Int × Int)) => ⟨[(0, .pure (.int .u64 y6.1)), (2, pz y6.2)], [], [], 0⟩)
 (.br (decide (y5.1 ≥ 65536))
 (.ok (0 ≤ (16 : Int)) (by decide) <|
 .ret (.out ((y5.1.fdiv (2 ^ (min (16 : Int).toNat 64))), (IntKind.i64.wrap (y5.2 + 16)))))
 (.ret (.out (y5.1, y5.2)))) fun y6 =>
 .cut 0 (fun (y7 : (Int × Int)) => ⟨[(0, .pure (.int .u64 y7.1)), (2, pz y7.2)], [], [], 0⟩)
 (.br (decide (y6.1 ≥ 256))
 (.ok (0 ≤ (8 : Int)) (by decide) <|
 .ret (.out ((y6.1.fdiv (2 ^ (min (8 : Int).toNat 64))), (IntKind.i64.wrap (y6.2 + 8)))))
 (.ret (.out (y6.1, y6.2)))) fun y7 =>
 .grd (0 ≤ (IntKind.u8.wrap y7.1) ∧ (IntKind.u8.wrap y7.1) < (((⟨#[0, 1, 2, 2, 3, 3, 3, 3, 4, 4, 4, 4, 4, 4, 4, 4, 5, 5, 5, 5, 5, 5, 5, 5, 5, 5, 5, 5, 5, 5, 5, 5, 6, 6, 6, 6, 6, 6, 6, 6, 6, 6, 6, 6, 6, 6, 6, 6, 6, 6, 6, 6, 6, 6, 6, 6, 6, 6, 6, 6, 6, 6, 6, 6, 7, 7, 7, 7, 7, 7, 7, 7, 7, 7, 7, 7, 7, 7, 7, 7, 7, 7, 7, 7, 7, 7, 7, 7, 7, 7, 7, 7, 7, 7, 7, 7, 7, 7, 7, 7, 7, 7, 7, 7, 7, 7, 7, 7, 7, 7, 7, 7, 7, 7, 7, 7, 7, 7, 7, 7, 7, 7, 7, 7, 7, 7, 7, 7, 8, 8, 8, 8, 8, 8, 8, 8, 8, 8, 8, 8, 8, 8, 8, 8, 8, 8, 8, 8, 8, 8, 8, 8, 8, 8, 8, 8, 8, 8, 8, 8, 8, 8, 8, 8, 8, 8, 8, 8, 8, 8, 8, 8, 8, 8, 8, 8, 8, 8, 8, 8, 8, 8, 8, 8, 8, 8, 8, 8, 8, 8, 8, 8, 8, 8, 8, 8, 8, 8, 8, 8, 8, 8, 8, 8, 8, 8, 8, 8, 8, 8, 8, 8, 8, 8, 8, 8, 8, 8, 8, 8, 8, 8, 8, 8, 8, 8, 8, 8, 8, 8, 8, 8, 8, 8, 8, 8, 8, 8, 8, 8, 8, 8, 8, 8, 8, 8, 8, 8, 8, 8, 8, 8, 8, 8, 8, 8]⟩ : ByteArray).size : Nat) : Int)) <|
 .name 10003 ((((⟨#[0, 1, 2, 2, 3, 3, 3, 3, 4, 4, 4, 4, 4, 4, 4, 4, 5, 5, 5, 5, 5, 5, 5, 5, 5, 5, 5, 5, 5, 5, 5, 5, 6, 6, 6, 6, 6, 6, 6, 6, 6, 6, 6, 6, 6, 6, 6, 6, 6, 6, 6, 6, 6, 6, 6, 6, 6, 6, 6, 6, 6, 6, 6, 6, 7, 7, 7, 7, 7, 7, 7, 7, 7, 7, 7, 7, 7, 7, 7, 7, 7, 7, 7, 7, 7, 7, 7, 7, 7, 7, 7, 7, 7, 7, 7, 7, 7, 7, 7, 7, 7, 7, 7, 7, 7, 7, 7, 7, 7, 7, 7, 7, 7, 7, 7, 7, 7, 7, 7, 7, 7, 7, 7, 7, 7, 7, 7, 7, 8, 8, 8, 8, 8, 8, 8, 8, 8, 8, 8, 8, 8, 8, 8, 8, 8, 8, 8, 8, 8, 8, 8, 8, 8, 8, 8, 8, 8, 8, 8, 8, 8, 8, 8, 8, 8, 8, 8, 8, 8, 8, 8, 8, 8, 8, 8, 8, 8, 8, 8, 8, 8, 8, 8, 8, 8, 8, 8, 8, 8, 8, 8, 8, 8, 8, 8, 8, 8, 8, 8, 8, 8, 8, 8, 8, 8, 8, 8, 8, 8, 8, 8, 8, 8, 8, 8, 8, 8, 8, 8, 8, 8, 8, 8, 8, 8, 8, 8, 8, 8, 8, 8, 8, 8, 8, 8, 8, 8, 8, 8, 8, 8, 8, 8, 8, 8, 8, 8, 8, 8, 8, 8, 8, 8, 8, 8, 8]⟩ : ByteArray).data.getD ((IntKind.u8.wrap y7.1)).toNat 0).toNat : Int)) fun z8 =>
 .ret (IntKind.i64.wrap (y7.2 + (IntKind.i64.wrap z8)))
noncomputable def math_bits_Len64_C (a0 : Int) : CallS Int :=
  mkC [] hd Tryz.func156 (by kernel_rfl) (math_bits_Len64_T a0) 0 [.pure (.int .u64 a0)] [] (fun r => pz r) (fun _ => []) (by kernel_rfl)
noncomputable def math_bits_Len_T (a0 : Int) : T Int :=
 .call (math_bits_Len64_C a0) [] fun y1 =>
 .ret y1
noncomputable def math_bits_Len_C (a0 : Int) : CallS Int :=
  mkC [] hd Tryz.func124 (by kernel_rfl) (math_bits_Len_T a0) 0 [.pure (.int .u64 a0)] [] (fun r => pz r) (fun _ => []) (by kernel_rfl)
noncomputable def cmp_isNaN_int64_T (a0 : Int) : T Bool :=
 .ret (a0 != a0)
noncomputable def cmp_isNaN_int64_C (a0 : Int) : CallS Bool :=
  mkC [] hd Tryz.func141 (by kernel_rfl) (cmp_isNaN_int64_T a0) 0 [pz a0] [] (fun r => .pure (.bool r)) (fun _ => []) (by kernel_rfl)
noncomputable def cmp_Compare_int64_T (a0 : Int) (a1 : Int) : T Int :=
 .call (cmp_isNaN_int64_C a0) [] fun y2 =>
 .call (cmp_isNaN_int64_C a1) [] fun y4 =>
 .br y2
 (.br y4
 (.ret 0)
 (.ret (-1)))
 (.br y4
 (.ret 1)
 (.br (decide (a0 < a1))
 (.ret (-1))
 (.br (decide (a0 > a1))
 (.ret 1)
 (.ret 0))))
noncomputable def cmp_Compare_int64_C (a0 : Int) (a1 : Int) : CallS Int :=
  mkC [] hd Tryz.func110 (by kernel_rfl) (cmp_Compare_int64_T a0 a1) 0 [pz a0, pz a1] [] (fun r => pz r) (fun _ => []) (by kernel_rfl)
noncomputable def cmp_isNaN_int_T (a0 : Int) : T Bool :=
 .ret (a0 != a0)
noncomputable def cmp_isNaN_int_C (a0 : Int) : CallS Bool :=
  mkC [] hd Tryz.func134 (by kernel_rfl) (cmp_isNaN_int_T a0) 0 [pz a0] [] (fun r => .pure (.bool r)) (fun _ => []) (by kernel_rfl)
noncomputable def cmp_Compare_int_T (a0 : Int) (a1 : Int) : T Int :=
 .call (cmp_isNaN_int_C a0) [] fun y2 =>
 .call (cmp_isNaN_int_C a1) [] fun y4 =>
 .br y2
 (.br y4
 (.ret 0)
 (.ret (-1)))
 (.br y4
 (.ret 1)
 (.br (decide (a0 < a1))
 (.ret (-1))
 (.br (decide (a0 > a1))
 (.ret 1)
 (.ret 0))))
noncomputable def cmp_Compare_int_C (a0 : Int) (a1 : Int) : CallS Int :=
  mkC [] hd Tryz.func89 (by kernel_rfl) (cmp_Compare_int_T a0 a1) 0 [pz a0, pz a1] [] (fun r => pz r) (fun _ => []) (by kernel_rfl)
noncomputable def cmp_Or_int_T (a0 : (List Int)) : T Int :=
 .loop (fun (x5 : Int) => ⟨[(3, pz 0), (6, .pure (encL 1 encI_i64 a0)), (7, pz ((a0.length : Nat) : Int)), (8, pz x5)], [], [], 0⟩)
 (.exit 0) (fun (_ : U0) => ⟨[(3, pz 0)], [], [], 0⟩)
 (fun x5 => .br (decide (x5 < ((a0.length : Nat) : Int)))
 (.grd (0 ≤ x5 ∧ x5 < ((a0.length : Nat) : Int)) <|
 .br ((a0.getD ((x5).toNat) default) != 0)
 (.ret (.fin (a0.getD ((x5).toNat) default)))
 (.ret (.next (IntKind.i64.wrap (x5 + 1)))))
 (.ret (.out .u)))
 0 [] fun _ =>
 .ret 0
noncomputable def cmp_Or_int_C (a0 : (List Int)) : CallS Int :=
  mkC [] hd Tryz.func88 (by kernel_rfl) (cmp_Or_int_T a0) 0 [.pure (encL 1 encI_i64 a0)] [] (fun r => pz r) (fun _ => []) (by kernel_rfl)
noncomputable def neighbor_order_T (a0 : (List (List Int))) (a1 : Int) (a2 : Int) (a3 : Int) : T Int :=
 .grd (0 ≤ a2 ∧ a2 < ((a0.length : Nat) : Int)) <|
 .grd (0 ≤ a1 ∧ a1 < (((a0.getD ((a2).toNat) default).length : Nat) : Int)) <|
 .grd (0 ≤ a3 ∧ a3 < ((a0.length : Nat) : Int)) <|
 .grd (0 ≤ a1 ∧ a1 < (((a0.getD ((a3).toNat) default).length : Nat) : Int)) <|
 .call (cmp_Compare_int64_C ((a0.getD ((a2).toNat) default).getD ((a1).toNat) default) ((a0.getD ((a3).toNat) default).getD ((a1).toNat) default)) [] fun y1 =>
 .call (cmp_Compare_int_C a2 a3) [] fun y2 =>
 .conv 1018 (cvLit 1 encI_i64 ([y1, y2] : (List Int)) 3) <|
 .call (cmp_Or_int_C ([y1, y2] : (List Int))) [] fun y3 =>
 .ret y3
noncomputable def neighbor_order_C (a0 : (List (List Int))) (a1 : Int) (a2 : Int) (a3 : Int) : CallS Int :=
  mkC [] hd Tryz.func122 (by kernel_rfl) (neighbor_order_T a0 a1 a2 a3) 0 [.pure (encL 1 (encL 1 encI_i64) a0), pz a1, pz a2, pz a3] [] (fun r => pz r) (fun _ => []) (by kernel_rfl)
noncomputable def neighbor_Build_2_1_T (a0 : Int) (a1 : Int) (a2 : (List (List Int))) (a3 : Int) : T Int :=
 .call (neighbor_order_C a2 a3 a0 a1) [] fun y1 =>
 .ret y1
noncomputable def neighbor_Build_2_1_C (a0 : Int) (a1 : Int) (a2 : (List (List Int))) (a3 : Int) : CallS Int :=
  mkC [] hd Tryz.func121 (by kernel_rfl) (neighbor_Build_2_1_T a0 a1 a2 a3) 2 [pz a0, pz a1, .ptr 0 0, .ptr 1 0] [(0, .box [.pure (encL 1 (encL 1 encI_i64) a2)]), (1, .box [pz a3])] (fun r => pz r) (fun _ => [(0, .box [.pure (encL 1 (encL 1 encI_i64) a2)]), (1, .box [pz a3])]) (by kernel_rfl)
noncomputable def slices_insertionSortCmpFunc_int_T (a0 : (List Int)) (a1 : Nat) (a2 : Nat) (a3 : Int) (a4 : Int) (a5 : (List (List Int))) (a6 : Int) : T (List Int) :=
 .loop (fun (x221 : ((List Int) × Int)) => ⟨[(0, .view 0 1 a1 a2), (1, pz a3), (2, pz a4), (3, .func 121 [] [.ptr 1 0, .ptr 2 0]), (8, pz x221.2)], [(0, vecO 1 encI_i64 x221.1 3), (1, .box [.pure (encL 1 (encL 1 encI_i64) a5)]), (2, .box [pz a6])], [], 3⟩)
 (.exit 0) (fun (y276 : (List Int)) => ⟨[], [(0, vecO 1 encI_i64 y276 3), (1, .box [.pure (encL 1 (encL 1 encI_i64) a5)]), (2, .box [pz a6])], [], 3⟩)
 (fun x221 => .br (decide (x221.2 < a4))
 (.loop (fun (x313 : ((List Int) × Int)) => ⟨[(0, .view 0 1 a1 a2), (1, pz a3), (2, pz a4), (3, .func 121 [] [.ptr 1 0, .ptr 2 0]), (8, pz x221.2), (9, pz x313.2)], [(0, vecO 1 encI_i64 x313.1 3), (1, .box [.pure (encL 1 (encL 1 encI_i64) a5)]), (2, .box [pz a6])], [], 3⟩)
 (.exit 2) (fun (y322 : (List Int)) => ⟨[(0, .view 0 1 a1 a2), (1, pz a3), (2, pz a4), (3, .func 121 [] [.ptr 1 0, .ptr 2 0]), (8, pz x221.2)], [(0, vecO 1 encI_i64 y322 3), (1, .box [.pure (encL 1 (encL 1 encI_i64) a5)]), (2, .box [pz a6])], [], 3⟩)
 (fun x313 => .cut 1 (fun (y329 : Bool) => ⟨[(0, .view 0 1 a1 a2), (1, pz a3), (2, pz a4), (3, .func 121 [] [.ptr 1 0, .ptr 2 0]), (8, pz x221.2), (9, pz x313.2), (34, .pure (.bool y329))], [(0, vecO 1 encI_i64 x313.1 3), (1, .box [.pure (encL 1 (encL 1 encI_i64) a5)]), (2, .box [pz a6])], [], 3⟩)
 (.br (decide (x313.2 > a3))
 (.grd (0 ≤ x313.2 ∧ x313.2 < ((a2 : Nat) : Int)) <|
 .grd ((a1 + ((x313.2).toNat)) < x313.1.length) <|
 .grd (0 ≤ (IntKind.i64.wrap (x313.2 - 1)) ∧ (IntKind.i64.wrap (x313.2 - 1)) < ((a2 : Nat) : Int)) <|
 .grd ((a1 + (((IntKind.i64.wrap (x313.2 - 1))).toNat)) < x313.1.length) <|
 .call (neighbor_Build_2_1_C (x313.1.getD (a1 + ((x313.2).toNat)) default) (x313.1.getD (a1 + (((IntKind.i64.wrap (x313.2 - 1))).toNat)) default) a5 a6) [(0, 1), (1, 2)] fun y330 =>
 .ret (.out (decide (y330 < 0))))
 (.ret (.out false))) fun y329 =>
 .br y329
 (.grd (0 ≤ (IntKind.i64.wrap (x313.2 - 1)) ∧ (IntKind.i64.wrap (x313.2 - 1)) < ((a2 : Nat) : Int)) <|
 .grd ((a1 + (((IntKind.i64.wrap (x313.2 - 1))).toNat)) < x313.1.length) <|
 .grd (0 ≤ x313.2 ∧ x313.2 < ((a2 : Nat) : Int)) <|
 .grd ((a1 + ((x313.2).toNat)) < x313.1.length) <|
 .grd (0 ≤ x313.2 ∧ x313.2 < ((a2 : Nat) : Int)) <|
 .conv 6015 (cvSet 1 encI_i64 x313.1 3 (a1 + ((x313.2).toNat)) (x313.1.getD (a1 + (((IntKind.i64.wrap (x313.2 - 1))).toNat)) default)) <|
 .grd ((a1 + ((x313.2).toNat)) < x313.1.length ∧ 0 ≤ (a1 + ((x313.2).toNat))) <|
 .grd (0 ≤ (IntKind.i64.wrap (x313.2 - 1)) ∧ (IntKind.i64.wrap (x313.2 - 1)) < ((a2 : Nat) : Int)) <|
 .conv 6017 (cvSet 1 encI_i64 (x313.1.set (a1 + ((x313.2).toNat)) (x313.1.getD (a1 + (((IntKind.i64.wrap (x313.2 - 1))).toNat)) default)) 3 (a1 + (((IntKind.i64.wrap (x313.2 - 1))).toNat)) (x313.1.getD (a1 + ((x313.2).toNat)) default)) <|
 .grd ((a1 + (((IntKind.i64.wrap (x313.2 - 1))).toNat)) < (x313.1.set (a1 + ((x313.2).toNat)) (x313.1.getD (a1 + (((IntKind.i64.wrap (x313.2 - 1))).toNat)) default)).length ∧ 0 ≤ (a1 + (((IntKind.i64.wrap (x313.2 - 1))).toNat))) <|
 .ret (.next (((x313.1.set (a1 + ((x313.2).toNat)) (x313.1.getD (a1 + (((IntKind.i64.wrap (x313.2 - 1))).toNat)) default)).set (a1 + (((IntKind.i64.wrap (x313.2 - 1))).toNat)) (x313.1.getD (a1 + ((x313.2).toNat)) default)), (IntKind.i64.wrap (x313.2 - 1)))))
 (.ret (.out x313.1)))
 (x221.1, x221.2) [] fun y322 =>
 .ret (.next (y322, (IntKind.i64.wrap (x221.2 + 1)))))
 (.ret (.out x221.1)))
 (a0, (IntKind.i64.wrap (a3 + 1))) [] fun y276 =>
 .ret y276
noncomputable def slices_insertionSortCmpFunc_int_C (a0 : (List Int)) (a1 : Nat) (a2 : Nat) (a3 : Int) (a4 : Int) (a5 : (List (List Int))) (a6 : Int) : CallS (List Int) :=
  mkC [] hd Tryz.func174 (by kernel_rfl) (slices_insertionSortCmpFunc_int_T a0 a1 a2 a3 a4 a5 a6) 3 [.view 0 1 a1 a2, pz a3, pz a4, .func 121 [] [.ptr 1 0, .ptr 2 0]] [(0, vecO 1 encI_i64 a0 3), (1, .box [.pure (encL 1 (encL 1 encI_i64) a5)]), (2, .box [pz a6])] (fun _ => .tup []) (fun r => [(0, vecO 1 encI_i64 r 3), (1, .box [.pure (encL 1 (encL 1 encI_i64) a5)]), (2, .box [pz a6])]) (by kernel_rfl)
noncomputable def slices_siftDownCmpFunc_int_T (a0 : (List Int)) (a1 : Nat) (a2 : Nat) (a3 : Int) (a4 : Int) (a5 : Int) (a6 : (List (List Int))) (a7 : Int) : T (List Int) :=
 .loop (fun (x217 : ((List Int) × Int)) => ⟨[(0, .view 0 1 a1 a2), (2, pz a4), (3, pz a5), (4, .func 121 [] [.ptr 1 0, .ptr 2 0]), (10, pz x217.2)], [(0, vecO 1 encI_i64 x217.1 3), (1, .box [.pure (encL 1 (encL 1 encI_i64) a6)]), (2, .box [pz a7])], [], 3⟩)
 (.exit 0) (fun (y253 : (List Int)) => ⟨[], [(0, vecO 1 encI_i64 y253 3), (1, .box [.pure (encL 1 (encL 1 encI_i64) a6)]), (2, .box [pz a7])], [], 3⟩)
 (fun x217 => .br (decide ((IntKind.i64.wrap ((IntKind.i64.wrap (2 * x217.2)) + 1)) ≥ a4))
 (.ret (.out x217.1))
 (.cut 0 (fun (y274 : Int) => ⟨[(0, .view 0 1 a1 a2), (2, pz a4), (3, pz a5), (4, .func 121 [] [.ptr 1 0, .ptr 2 0]), (10, pz x217.2), (11, pz y274)], [(0, vecO 1 encI_i64 x217.1 3), (1, .box [.pure (encL 1 (encL 1 encI_i64) a6)]), (2, .box [pz a7])], [], 3⟩)
 (.cut 0 (fun (y281 : Bool) => ⟨[(0, .view 0 1 a1 a2), (2, pz a4), (3, pz a5), (4, .func 121 [] [.ptr 1 0, .ptr 2 0]), (10, pz x217.2), (11, pz (IntKind.i64.wrap ((IntKind.i64.wrap (2 * x217.2)) + 1))), (40, .pure (.bool y281))], [(0, vecO 1 encI_i64 x217.1 3), (1, .box [.pure (encL 1 (encL 1 encI_i64) a6)]), (2, .box [pz a7])], [], 3⟩)
 (.br (decide ((IntKind.i64.wrap ((IntKind.i64.wrap ((IntKind.i64.wrap (2 * x217.2)) + 1)) + 1)) < a4))
 (.grd (0 ≤ (IntKind.i64.wrap (a5 + (IntKind.i64.wrap ((IntKind.i64.wrap (2 * x217.2)) + 1)))) ∧ (IntKind.i64.wrap (a5 + (IntKind.i64.wrap ((IntKind.i64.wrap (2 * x217.2)) + 1)))) < ((a2 : Nat) : Int)) <|
 .grd ((a1 + (((IntKind.i64.wrap (a5 + (IntKind.i64.wrap ((IntKind.i64.wrap (2 * x217.2)) + 1))))).toNat)) < x217.1.length) <|
 .name 3011 ((x217.1.getD (a1 + (((IntKind.i64.wrap (a5 + (IntKind.i64.wrap ((IntKind.i64.wrap (2 * x217.2)) + 1))))).toNat)) default)) fun z282 =>
 .grd (0 ≤ (IntKind.i64.wrap ((IntKind.i64.wrap (a5 + (IntKind.i64.wrap ((IntKind.i64.wrap (2 * x217.2)) + 1)))) + 1)) ∧ (IntKind.i64.wrap ((IntKind.i64.wrap (a5 + (IntKind.i64.wrap ((IntKind.i64.wrap (2 * x217.2)) + 1)))) + 1)) < ((a2 : Nat) : Int)) <|
 .grd ((a1 + (((IntKind.i64.wrap ((IntKind.i64.wrap (a5 + (IntKind.i64.wrap ((IntKind.i64.wrap (2 * x217.2)) + 1)))) + 1))).toNat)) < x217.1.length) <|
 .name 3018 ((x217.1.getD (a1 + (((IntKind.i64.wrap ((IntKind.i64.wrap (a5 + (IntKind.i64.wrap ((IntKind.i64.wrap (2 * x217.2)) + 1)))) + 1))).toNat)) default)) fun z283 =>
 .call (neighbor_Build_2_1_C z282 z283 a6 a7) [(0, 1), (1, 2)] fun y284 =>
 .ret (.out (decide (y284 < 0))))
 (.ret (.out false))) fun y281 =>
 .br y281
 (.ret (.out (IntKind.i64.wrap ((IntKind.i64.wrap ((IntKind.i64.wrap (2 * x217.2)) + 1)) + 1))))
 (.ret (.out (IntKind.i64.wrap ((IntKind.i64.wrap (2 * x217.2)) + 1))))) fun y274 =>
 .grd (0 ≤ (IntKind.i64.wrap (a5 + x217.2)) ∧ (IntKind.i64.wrap (a5 + x217.2)) < ((a2 : Nat) : Int)) <|
 .grd ((a1 + (((IntKind.i64.wrap (a5 + x217.2))).toNat)) < x217.1.length) <|
 .grd (0 ≤ (IntKind.i64.wrap (a5 + y274)) ∧ (IntKind.i64.wrap (a5 + y274)) < ((a2 : Nat) : Int)) <|
 .grd ((a1 + (((IntKind.i64.wrap (a5 + y274))).toNat)) < x217.1.length) <|
 .call (neighbor_Build_2_1_C (x217.1.getD (a1 + (((IntKind.i64.wrap (a5 + x217.2))).toNat)) default) (x217.1.getD (a1 + (((IntKind.i64.wrap (a5 + y274))).toNat)) default) a6 a7) [(0, 1), (1, 2)] fun y288 =>
 .br (!(decide (y288 < 0)))
 (.ret (.fin x217.1))
 (.grd (0 ≤ (IntKind.i64.wrap (a5 + y274)) ∧ (IntKind.i64.wrap (a5 + y274)) < ((a2 : Nat) : Int)) <|
 .grd ((a1 + (((IntKind.i64.wrap (a5 + y274))).toNat)) < x217.1.length) <|
 .grd (0 ≤ (IntKind.i64.wrap (a5 + x217.2)) ∧ (IntKind.i64.wrap (a5 + x217.2)) < ((a2 : Nat) : Int)) <|
 .grd ((a1 + (((IntKind.i64.wrap (a5 + x217.2))).toNat)) < x217.1.length) <|
 .grd (0 ≤ (IntKind.i64.wrap (a5 + x217.2)) ∧ (IntKind.i64.wrap (a5 + x217.2)) < ((a2 : Nat) : Int)) <|
 .conv 6021 (cvSet 1 encI_i64 x217.1 3 (a1 + (((IntKind.i64.wrap (a5 + x217.2))).toNat)) (x217.1.getD (a1 + (((IntKind.i64.wrap (a5 + y274))).toNat)) default)) <|
 .grd ((a1 + (((IntKind.i64.wrap (a5 + x217.2))).toNat)) < x217.1.length ∧ 0 ≤ (a1 + (((IntKind.i64.wrap (a5 + x217.2))).toNat))) <|
 .grd (0 ≤ (IntKind.i64.wrap (a5 + y274)) ∧ (IntKind.i64.wrap (a5 + y274)) < ((a2 : Nat) : Int)) <|
 .conv 6023 (cvSet 1 encI_i64 (x217.1.set (a1 + (((IntKind.i64.wrap (a5 + x217.2))).toNat)) (x217.1.getD (a1 + (((IntKind.i64.wrap (a5 + y274))).toNat)) default)) 3 (a1 + (((IntKind.i64.wrap (a5 + y274))).toNat)) (x217.1.getD (a1 + (((IntKind.i64.wrap (a5 + x217.2))).toNat)) default)) <|
 .grd ((a1 + (((IntKind.i64.wrap (a5 + y274))).toNat)) < (x217.1.set (a1 + (((IntKind.i64.wrap (a5 + x217.2))).toNat)) (x217.1.getD (a1 + (((IntKind.i64.wrap (a5 + y274))).toNat)) default)).length ∧ 0 ≤ (a1 + (((IntKind.i64.wrap (a5 + y274))).toNat))) <|
 .ret (.next (((x217.1.set (a1 + (((IntKind.i64.wrap (a5 + x217.2))).toNat)) (x217.1.getD (a1 + (((IntKind.i64.wrap (a5 + y274))).toNat)) default)).set (a1 + (((IntKind.i64.wrap (a5 + y274))).toNat)) (x217.1.getD (a1 + (((IntKind.i64.wrap (a5 + x217.2))).toNat)) default)), y274)))))
 (a0, a3) [] fun y253 =>
 .ret y253
noncomputable def slices_siftDownCmpFunc_int_C (a0 : (List Int)) (a1 : Nat) (a2 : Nat) (a3 : Int) (a4 : Int) (a5 : Int) (a6 : (List (List Int))) (a7 : Int) : CallS (List Int) :=
  mkC [] hd Tryz.func191 (by kernel_rfl) (slices_siftDownCmpFunc_int_T a0 a1 a2 a3 a4 a5 a6 a7) 3 [.view 0 1 a1 a2, pz a3, pz a4, pz a5, .func 121 [] [.ptr 1 0, .ptr 2 0]] [(0, vecO 1 encI_i64 a0 3), (1, .box [.pure (encL 1 (encL 1 encI_i64) a6)]), (2, .box [pz a7])] (fun _ => .tup []) (fun r => [(0, vecO 1 encI_i64 r 3), (1, .box [.pure (encL 1 (encL 1 encI_i64) a6)]), (2, .box [pz a7])]) (by kernel_rfl)
noncomputable def slices_heapSortCmpFunc_int_T (a0 : (List Int)) (a1 : Nat) (a2 : Nat) (a3 : Int) (a4 : Int) (a5 : (List (List Int))) (a6 : Int) : T (List Int) :=
 .ok ((2 : Int) ≠ 0) (by decide) <|
 .loop (fun (x40 : ((List Int) × Int)) => ⟨[(0, .view 0 1 a1 a2), (3, .func 121 [] [.ptr 1 0, .ptr 2 0]), (8, pz a3), (9, pz 0), (10, pz (IntKind.i64.wrap (a4 - a3))), (11, pz x40.2)], [(0, vecO 1 encI_i64 x40.1 3), (1, .box [.pure (encL 1 (encL 1 encI_i64) a5)]), (2, .box [pz a6])], [], 3⟩)
 (.exit 0) (fun (y43 : (List Int)) => ⟨[(0, .view 0 1 a1 a2), (3, .func 121 [] [.ptr 1 0, .ptr 2 0]), (8, pz a3), (9, pz 0), (10, pz (IntKind.i64.wrap (a4 - a3)))], [(0, vecO 1 encI_i64 y43 3), (1, .box [.pure (encL 1 (encL 1 encI_i64) a5)]), (2, .box [pz a6])], [], 3⟩)
 (fun x40 => .br (decide (x40.2 ≥ 0))
 (.call (slices_siftDownCmpFunc_int_C x40.1 a1 a2 x40.2 (IntKind.i64.wrap (a4 - a3)) a3 a5 a6) [(0, 0), (1, 1), (2, 2)] fun y45 =>
 .ret (.next (y45, (IntKind.i64.wrap (x40.2 - 1)))))
 (.ret (.out x40.1)))
 (a0, (IntKind.i64.wrap ((IntKind.i64.wrap ((IntKind.i64.wrap (a4 - a3)) - 1)).tdiv 2))) [] fun y43 =>
 .loop (fun (x49 : ((List Int) × Int)) => ⟨[(0, .view 0 1 a1 a2), (3, .func 121 [] [.ptr 1 0, .ptr 2 0]), (8, pz a3), (9, pz 0), (12, pz x49.2)], [(0, vecO 1 encI_i64 x49.1 3), (1, .box [.pure (encL 1 (encL 1 encI_i64) a5)]), (2, .box [pz a6])], [], 3⟩)
 (.exit 2) (fun (y52 : (List Int)) => ⟨[], [(0, vecO 1 encI_i64 y52 3), (1, .box [.pure (encL 1 (encL 1 encI_i64) a5)]), (2, .box [pz a6])], [], 3⟩)
 (fun x49 => .br (decide (x49.2 ≥ 0))
 (.grd (0 ≤ (IntKind.i64.wrap (a3 + x49.2)) ∧ (IntKind.i64.wrap (a3 + x49.2)) < ((a2 : Nat) : Int)) <|
 .grd ((a1 + (((IntKind.i64.wrap (a3 + x49.2))).toNat)) < x49.1.length) <|
 .grd (0 ≤ a3 ∧ a3 < ((a2 : Nat) : Int)) <|
 .grd ((a1 + ((a3).toNat)) < x49.1.length) <|
 .grd (0 ≤ a3 ∧ a3 < ((a2 : Nat) : Int)) <|
 .conv 10017 (cvSet 1 encI_i64 x49.1 3 (a1 + ((a3).toNat)) (x49.1.getD (a1 + (((IntKind.i64.wrap (a3 + x49.2))).toNat)) default)) <|
 .grd ((a1 + ((a3).toNat)) < x49.1.length ∧ 0 ≤ (a1 + ((a3).toNat))) <|
 .grd (0 ≤ (IntKind.i64.wrap (a3 + x49.2)) ∧ (IntKind.i64.wrap (a3 + x49.2)) < ((a2 : Nat) : Int)) <|
 .conv 10019 (cvSet 1 encI_i64 (x49.1.set (a1 + ((a3).toNat)) (x49.1.getD (a1 + (((IntKind.i64.wrap (a3 + x49.2))).toNat)) default)) 3 (a1 + (((IntKind.i64.wrap (a3 + x49.2))).toNat)) (x49.1.getD (a1 + ((a3).toNat)) default)) <|
 .grd ((a1 + (((IntKind.i64.wrap (a3 + x49.2))).toNat)) < (x49.1.set (a1 + ((a3).toNat)) (x49.1.getD (a1 + (((IntKind.i64.wrap (a3 + x49.2))).toNat)) default)).length ∧ 0 ≤ (a1 + (((IntKind.i64.wrap (a3 + x49.2))).toNat))) <|
 .call (slices_siftDownCmpFunc_int_C ((x49.1.set (a1 + ((a3).toNat)) (x49.1.getD (a1 + (((IntKind.i64.wrap (a3 + x49.2))).toNat)) default)).set (a1 + (((IntKind.i64.wrap (a3 + x49.2))).toNat)) (x49.1.getD (a1 + ((a3).toNat)) default)) a1 a2 0 x49.2 a3 a5 a6) [(0, 0), (1, 1), (2, 2)] fun y54 =>
 .ret (.next (y54, (IntKind.i64.wrap (x49.2 - 1)))))
 (.ret (.out x49.1)))
 (y43, (IntKind.i64.wrap ((IntKind.i64.wrap (a4 - a3)) - 1))) [] fun y52 =>
 .ret y52
noncomputable def slices_heapSortCmpFunc_int_C (a0 : (List Int)) (a1 : Nat) (a2 : Nat) (a3 : Int) (a4 : Int) (a5 : (List (List Int))) (a6 : Int) : CallS (List Int) :=
  mkC [] hd Tryz.func175 (by kernel_rfl) (slices_heapSortCmpFunc_int_T a0 a1 a2 a3 a4 a5 a6) 3 [.view 0 1 a1 a2, pz a3, pz a4, .func 121 [] [.ptr 1 0, .ptr 2 0]] [(0, vecO 1 encI_i64 a0 3), (1, .box [.pure (encL 1 (encL 1 encI_i64) a5)]), (2, .box [pz a6])] (fun _ => .tup []) (fun r => [(0, vecO 1 encI_i64 r 3), (1, .box [.pure (encL 1 (encL 1 encI_i64) a5)]), (2, .box [pz a6])]) (by kernel_rfl)
noncomputable def slices_order2CmpFunc_int_T (a0 : (List Int)) (a1 : Nat) (a2 : Nat) (a3 : Int) (a4 : Int) (a5 : Int) (a6 : (List (List Int))) (a7 : Int) : T (Int × Int × Int) :=
 .grd (0 ≤ a4 ∧ a4 < ((a2 : Nat) : Int)) <|
 .grd ((a1 + ((a4).toNat)) < a0.length) <|
 .grd (0 ≤ a3 ∧ a3 < ((a2 : Nat) : Int)) <|
 .grd ((a1 + ((a3).toNat)) < a0.length) <|
 .call (neighbor_Build_2_1_C (a0.getD (a1 + ((a4).toNat)) default) (a0.getD (a1 + ((a3).toNat)) default) a6 a7) [(0, 2), (1, 3)] fun y8 =>
 .br (decide (y8 < 0))
 (.ret (a4, a3, (IntKind.i64.wrap (a5 + 1))))
 (.ret (a3, a4, a5))
noncomputable def slices_order2CmpFunc_int_C (a0 : (List Int)) (a1 : Nat) (a2 : Nat) (a3 : Int) (a4 : Int) (a5 : Int) (a6 : (List (List Int))) (a7 : Int) : CallS (Int × Int × Int) :=
  mkC [] hd Tryz.func196 (by kernel_rfl) (slices_order2CmpFunc_int_T a0 a1 a2 a3 a4 a5 a6 a7) 4 [.view 0 1 a1 a2, pz a3, pz a4, .ptr 1 0, .func 121 [] [.ptr 2 0, .ptr 3 0]] [(0, vecO 1 encI_i64 a0 3), (1, .box [pz a5]), (2, .box [.pure (encL 1 (encL 1 encI_i64) a6)]), (3, .box [pz a7])] (fun r => .tup [pz r.1, pz r.2.1]) (fun r => [(0, vecO 1 encI_i64 a0 3), (1, .box [pz r.2.2]), (2, .box [.pure (encL 1 (encL 1 encI_i64) a6)]), (3, .box [pz a7])]) (by kernel_rfl)
noncomputable def slices_medianCmpFunc_int_T (a0 : (List Int)) (a1 : Nat) (a2 : Nat) (a3 : Int) (a4 : Int) (a5 : Int) (a6 : Int) (a7 : (List (List Int))) (a8 : Int) : T (Int × Int) :=
 .call (slices_order2CmpFunc_int_C a0 a1 a2 a3 a4 a6 a7 a8) [(0, 0), (1, 1), (2, 2), (3, 3)] fun y8 =>
 .call (slices_order2CmpFunc_int_C a0 a1 a2 y8.2.1 a5 y8.2.2 a7 a8) [(0, 0), (1, 1), (2, 2), (3, 3)] fun y10 =>
 .call (slices_order2CmpFunc_int_C a0 a1 a2 y8.1 y10.1 y10.2.2 a7 a8) [(0, 0), (1, 1), (2, 2), (3, 3)] fun y12 =>
 .ret (y12.2.1, y12.2.2)
noncomputable def slices_medianCmpFunc_int_C (a0 : (List Int)) (a1 : Nat) (a2 : Nat) (a3 : Int) (a4 : Int) (a5 : Int) (a6 : Int) (a7 : (List (List Int))) (a8 : Int) : CallS (Int × Int) :=
  mkC [] hd Tryz.func193 (by kernel_rfl) (slices_medianCmpFunc_int_T a0 a1 a2 a3 a4 a5 a6 a7 a8) 4 [.view 0 1 a1 a2, pz a3, pz a4, pz a5, .ptr 1 0, .func 121 [] [.ptr 2 0, .ptr 3 0]] [(0, vecO 1 encI_i64 a0 3), (1, .box [pz a6]), (2, .box [.pure (encL 1 (encL 1 encI_i64) a7)]), (3, .box [pz a8])] (fun r => pz r.1) (fun r => [(0, vecO 1 encI_i64 a0 3), (1, .box [pz r.2]), (2, .box [.pure (encL 1 (encL 1 encI_i64) a7)]), (3, .box [pz a8])]) (by kernel_rfl)
noncomputable def slices_medianAdjacentCmpFunc_int_T (a0 : (List Int)) (a1 : Nat) (a2 : Nat) (a3 : Int) (a4 : Int) (a5 : (List (List Int))) (a6 : Int) : T (Int × Int) :=
 .call (slices_medianCmpFunc_int_C a0 a1 a2 (IntKind.i64.wrap (a3 - 1)) a3 (IntKind.i64.wrap (a3 + 1)) a4 a5 a6) [(0, 0), (1, 1), (2, 2), (3, 3)] fun y2 =>
 .ret (y2.1, y2.2)
noncomputable def slices_medianAdjacentCmpFunc_int_C (a0 : (List Int)) (a1 : Nat) (a2 : Nat) (a3 : Int) (a4 : Int) (a5 : (List (List Int))) (a6 : Int) : CallS (Int × Int) :=
  mkC [] hd Tryz.func192 (by kernel_rfl) (slices_medianAdjacentCmpFunc_int_T a0 a1 a2 a3 a4 a5 a6) 4 [.view 0 1 a1 a2, pz a3, .ptr 1 0, .func 121 [] [.ptr 2 0, .ptr 3 0]] [(0, vecO 1 encI_i64 a0 3), (1, .box [pz a4]), (2, .box [.pure (encL 1 (encL 1 encI_i64) a5)]), (3, .box [pz a6])] (fun r => pz r.1) (fun r => [(0, vecO 1 encI_i64 a0 3), (1, .box [pz r.2]), (2, .box [.pure (encL 1 (encL 1 encI_i64) a5)]), (3, .box [pz a6])]) (by kernel_rfl)
noncomputable def slices_choosePivotCmpFunc_int_T (a0 : (List Int)) (a1 : Nat) (a2 : Nat) (a3 : Int) (a4 : Int) (a5 : (List (List Int))) (a6 : Int) : T (Int × Int) :=
 .ok ((4 : Int) ≠ 0) (by decide) <|
 .ok ((4 : Int) ≠ 0) (by decide) <|
 .ok ((4 : Int) ≠ 0) (by decide) <|
 .cut 0 (fun (y35 : (Int × Int)) => ⟨[(11, .ptr 3 0), (13, pz y35.2)], [(0, vecO 1 encI_i64 a0 3), (1, .box [.pure (encL 1 (encL 1 encI_i64) a5)]), (2, .box [pz a6]), (3, .box [pz y35.1])], [], 4⟩)
 (.br (decide ((IntKind.i64.wrap (a4 - a3)) ≥ 8))
 (.cut 0 (fun (y46 : (Int × Int × Int × Int)) => ⟨[(0, .view 0 1 a1 a2), (3, .func 121 [] [.ptr 1 0, .ptr 2 0]), (11, .ptr 3 0), (12, pz y46.2.1), (13, pz y46.2.2.1), (14, pz y46.2.2.2)], [(0, vecO 1 encI_i64 a0 3), (1, .box [.pure (encL 1 (encL 1 encI_i64) a5)]), (2, .box [pz a6]), (3, .box [pz y46.1])], [], 4⟩)
 (.br (decide ((IntKind.i64.wrap (a4 - a3)) ≥ 50))
 (.call (slices_medianAdjacentCmpFunc_int_C a0 a1 a2 (IntKind.i64.wrap (a3 + (IntKind.i64.wrap ((IntKind.i64.wrap ((IntKind.i64.wrap (a4 - a3)).tdiv 4)) * 1)))) 0 a5 a6) [(0, 0), (1, 387), (2, 1), (3, 2)] fun y48 =>
 .call (slices_medianAdjacentCmpFunc_int_C a0 a1 a2 (IntKind.i64.wrap (a3 + (IntKind.i64.wrap ((IntKind.i64.wrap ((IntKind.i64.wrap (a4 - a3)).tdiv 4)) * 2)))) y48.2 a5 a6) [(0, 0), (1, 387), (2, 1), (3, 2)] fun y50 =>
 .call (slices_medianAdjacentCmpFunc_int_C a0 a1 a2 (IntKind.i64.wrap (a3 + (IntKind.i64.wrap ((IntKind.i64.wrap ((IntKind.i64.wrap (a4 - a3)).tdiv 4)) * 3)))) y50.2 a5 a6) [(0, 0), (1, 387), (2, 1), (3, 2)] fun y51 =>
 .ret (.out (y51.2, y48.1, y50.1, y51.1)))
 (.ret (.out (0, (IntKind.i64.wrap (a3 + (IntKind.i64.wrap ((IntKind.i64.wrap ((IntKind.i64.wrap (a4 - a3)).tdiv 4)) * 1)))), (IntKind.i64.wrap (a3 + (IntKind.i64.wrap ((IntKind.i64.wrap ((IntKind.i64.wrap (a4 - a3)).tdiv 4)) * 2)))), (IntKind.i64.wrap (a3 + (IntKind.i64.wrap ((IntKind.i64.wrap ((IntKind.i64.wrap (a4 - a3)).tdiv 4)) * 3)))))))) fun y46 =>
 .call (slices_medianCmpFunc_int_C a0 a1 a2 y46.2.1 y46.2.2.1 y46.2.2.2 y46.1 a5 a6) [(0, 0), (1, 3), (2, 1), (3, 2)] fun y52 =>
 .ret (.out (y52.2, y52.1)))
 (.ret (.out (0, (IntKind.i64.wrap (a3 + (IntKind.i64.wrap ((IntKind.i64.wrap ((IntKind.i64.wrap (a4 - a3)).tdiv 4)) * 2)))))))) fun y35 =>
 .br (y35.1 == 0)
 (.ret (y35.2, 1))
 (.br (y35.1 == 12)
 (.ret (y35.2, 2))
 (.ret (y35.2, 0)))
noncomputable def slices_choosePivotCmpFunc_int_C (a0 : (List Int)) (a1 : Nat) (a2 : Nat) (a3 : Int) (a4 : Int) (a5 : (List (List Int))) (a6 : Int) : CallS (Int × Int) :=
  mkC [] hd Tryz.func177 (by kernel_rfl) (slices_choosePivotCmpFunc_int_T a0 a1 a2 a3 a4 a5 a6) 3 [.view 0 1 a1 a2, pz a3, pz a4, .func 121 [] [.ptr 1 0, .ptr 2 0]] [(0, vecO 1 encI_i64 a0 3), (1, .box [.pure (encL 1 (encL 1 encI_i64) a5)]), (2, .box [pz a6])] (fun r => .tup [pz r.1, pz r.2]) (fun _ => [(0, vecO 1 encI_i64 a0 3), (1, .box [.pure (encL 1 (encL 1 encI_i64) a5)]), (2, .box [pz a6])]) (by kernel_rfl)
noncomputable def slices_reverseRangeCmpFunc_int_T (a0 : (List Int)) (a1 : Nat) (a2 : Nat) (a3 : Int) (a4 : Int) (a5 : (List (List Int))) (a6 : Int) : T (List Int) :=
 .loop (fun (x5 : ((List Int) × Int × Int)) => ⟨[(0, .view 0 1 a1 a2), (8, pz x5.2.1), (9, pz x5.2.2)], [(0, vecO 1 encI_i64 x5.1 3), (1, .box [.pure (encL 1 (encL 1 encI_i64) a5)]), (2, .box [pz a6])], [], 3⟩)
 (.exit 0) (fun (y6 : (List Int)) => ⟨[], [(0, vecO 1 encI_i64 y6 3), (1, .box [.pure (encL 1 (encL 1 encI_i64) a5)]), (2, .box [pz a6])], [], 3⟩)
 (fun x5 => .br (decide (x5.2.1 < x5.2.2))
 (.grd (0 ≤ x5.2.2 ∧ x5.2.2 < ((a2 : Nat) : Int)) <|
 .grd ((a1 + ((x5.2.2).toNat)) < x5.1.length) <|
 .grd (0 ≤ x5.2.1 ∧ x5.2.1 < ((a2 : Nat) : Int)) <|
 .grd ((a1 + ((x5.2.1).toNat)) < x5.1.length) <|
 .grd (0 ≤ x5.2.1 ∧ x5.2.1 < ((a2 : Nat) : Int)) <|
 .conv 3013 (cvSet 1 encI_i64 x5.1 3 (a1 + ((x5.2.1).toNat)) (x5.1.getD (a1 + ((x5.2.2).toNat)) default)) <|
 .grd ((a1 + ((x5.2.1).toNat)) < x5.1.length ∧ 0 ≤ (a1 + ((x5.2.1).toNat))) <|
 .grd (0 ≤ x5.2.2 ∧ x5.2.2 < ((a2 : Nat) : Int)) <|
 .conv 3015 (cvSet 1 encI_i64 (x5.1.set (a1 + ((x5.2.1).toNat)) (x5.1.getD (a1 + ((x5.2.2).toNat)) default)) 3 (a1 + ((x5.2.2).toNat)) (x5.1.getD (a1 + ((x5.2.1).toNat)) default)) <|
 .grd ((a1 + ((x5.2.2).toNat)) < (x5.1.set (a1 + ((x5.2.1).toNat)) (x5.1.getD (a1 + ((x5.2.2).toNat)) default)).length ∧ 0 ≤ (a1 + ((x5.2.2).toNat))) <|
 .ret (.next (((x5.1.set (a1 + ((x5.2.1).toNat)) (x5.1.getD (a1 + ((x5.2.2).toNat)) default)).set (a1 + ((x5.2.2).toNat)) (x5.1.getD (a1 + ((x5.2.1).toNat)) default)), (IntKind.i64.wrap (x5.2.1 + 1)), (IntKind.i64.wrap (x5.2.2 - 1)))))
 (.ret (.out x5.1)))
 (a0, a3, (IntKind.i64.wrap (a4 - 1))) [] fun y6 =>
 .ret y6
noncomputable def slices_reverseRangeCmpFunc_int_C (a0 : (List Int)) (a1 : Nat) (a2 : Nat) (a3 : Int) (a4 : Int) (a5 : (List (List Int))) (a6 : Int) : CallS (List Int) :=
  mkC [] hd Tryz.func178 (by kernel_rfl) (slices_reverseRangeCmpFunc_int_T a0 a1 a2 a3 a4 a5 a6) 3 [.view 0 1 a1 a2, pz a3, pz a4, .func 121 [] [.ptr 1 0, .ptr 2 0]] [(0, vecO 1 encI_i64 a0 3), (1, .box [.pure (encL 1 (encL 1 encI_i64) a5)]), (2, .box [pz a6])] (fun _ => .tup []) (fun r => [(0, vecO 1 encI_i64 r 3), (1, .box [.pure (encL 1 (encL 1 encI_i64) a5)]), (2, .box [pz a6])]) (by kernel_rfl)
set_option maxHeartbeats 8000000 in
set_option maxRecDepth 20000 in
noncomputable def slices_partialInsertionSortCmpFunc_int_T (a0 : (List Int)) (a1 : Nat) (a2 : Nat) (a3 : Int) (a4 : Int) (a5 : (List (List Int))) (a6 : Int) : T (Bool × (List Int)) :=
 .loop (fun (x10311 : ((List Int) × Int × Int)) => ⟨[(0, .view 0 1 a1 a2), (1, pz a3), (2, pz a4), (3, .func 121 [] [.ptr 1 0, .ptr 2 0]), (9, pz x10311.2.1), (10, pz x10311.2.2)], [(0, vecO 1 encI_i64 x10311.1 3), (1, .box [.pure (encL 1 (encL 1 encI_i64) a5)]), (2, .box [pz a6])], [], 3⟩)
 (.exit 0) (fun (y11342 : (List Int)) => ⟨[], [(0, vecO 1 encI_i64 y11342 3), (1, .box [.pure (encL 1 (encL 1 encI_i64) a5)]), (2, .box [pz a6])], [], 3⟩)
 (fun x10311 => .br (decide (x10311.2.2 < 5))
 (.cut 0 (fun (y12029 : ((List Int) × Int)) => ⟨[(0, .view 0 1 a1 a2), (1, pz a3), (2, pz a4), (3, .func 121 [] [.ptr 1 0, .ptr 2 0]), (9, pz y12029.2), (10, pz x10311.2.2)], [(0, vecO 1 encI_i64 y12029.1 3), (1, .box [.pure (encL 1 (encL 1 encI_i64) a5)]), (2, .box [pz a6])], [], 3⟩)
 (.loop (fun (x12066 : Int) => ⟨[(0, .view 0 1 a1 a2), (1, pz a3), (2, pz a4), (3, .func 121 [] [.ptr 1 0, .ptr 2 0]), (9, pz x12066), (10, pz x10311.2.2)], [(0, vecO 1 encI_i64 x10311.1 3), (1, .box [.pure (encL 1 (encL 1 encI_i64) a5)]), (2, .box [pz a6])], [], 3⟩)
 (.exit 2) (fun (y12075 : Int) => ⟨[(0, .view 0 1 a1 a2), (1, pz a3), (2, pz a4), (3, .func 121 [] [.ptr 1 0, .ptr 2 0]), (9, pz y12075), (10, pz x10311.2.2)], [(0, vecO 1 encI_i64 x10311.1 3), (1, .box [.pure (encL 1 (encL 1 encI_i64) a5)]), (2, .box [pz a6])], [], 3⟩)
 (fun x12066 => .cut 1 (fun (y12082 : Bool) => ⟨[(0, .view 0 1 a1 a2), (1, pz a3), (2, pz a4), (3, .func 121 [] [.ptr 1 0, .ptr 2 0]), (9, pz x12066), (10, pz x10311.2.2), (36, .pure (.bool y12082))], [(0, vecO 1 encI_i64 x10311.1 3), (1, .box [.pure (encL 1 (encL 1 encI_i64) a5)]), (2, .box [pz a6])], [], 3⟩)
 (.br (decide (x12066 < a4))
 (.grd (0 ≤ x12066 ∧ x12066 < ((a2 : Nat) : Int)) <|
 .grd ((a1 + ((x12066).toNat)) < x10311.1.length) <|
 .grd (0 ≤ (IntKind.i64.wrap (x12066 - 1)) ∧ (IntKind.i64.wrap (x12066 - 1)) < ((a2 : Nat) : Int)) <|
 .grd ((a1 + (((IntKind.i64.wrap (x12066 - 1))).toNat)) < x10311.1.length) <|
 .call (neighbor_Build_2_1_C (x10311.1.getD (a1 + ((x12066).toNat)) default) (x10311.1.getD (a1 + (((IntKind.i64.wrap (x12066 - 1))).toNat)) default) a5 a6) [(0, 1), (1, 2)] fun y12083 =>
 .ret (.out (!(decide (y12083 < 0)))))
 (.ret (.out false))) fun y12082 =>
 .br y12082
 (.ret (.next (IntKind.i64.wrap (x12066 + 1))))
 (.ret (.out x12066)))
 x10311.2.1 [] fun y12075 =>
 .br (y12075 == a4)
 (.ret (.fin (.fin (true, x10311.1))))
 (.br (decide ((IntKind.i64.wrap (a4 - a3)) < 50))
 (.ret (.fin (.fin (false, x10311.1))))
 (.grd (0 ≤ (IntKind.i64.wrap (y12075 - 1)) ∧ (IntKind.i64.wrap (y12075 - 1)) < ((a2 : Nat) : Int)) <|
 .grd ((a1 + (((IntKind.i64.wrap (y12075 - 1))).toNat)) < x10311.1.length) <|
 .grd (0 ≤ y12075 ∧ y12075 < ((a2 : Nat) : Int)) <|
 .grd ((a1 + ((y12075).toNat)) < x10311.1.length) <|
 .grd (0 ≤ y12075 ∧ y12075 < ((a2 : Nat) : Int)) <|
 .conv 11015 (cvSet 1 encI_i64 x10311.1 3 (a1 + ((y12075).toNat)) (x10311.1.getD (a1 + (((IntKind.i64.wrap (y12075 - 1))).toNat)) default)) <|
 .grd ((a1 + ((y12075).toNat)) < x10311.1.length ∧ 0 ≤ (a1 + ((y12075).toNat))) <|
 .grd (0 ≤ (IntKind.i64.wrap (y12075 - 1)) ∧ (IntKind.i64.wrap (y12075 - 1)) < ((a2 : Nat) : Int)) <|
 .conv 11017 (cvSet 1 encI_i64 (x10311.1.set (a1 + ((y12075).toNat)) (x10311.1.getD (a1 + (((IntKind.i64.wrap (y12075 - 1))).toNat)) default)) 3 (a1 + (((IntKind.i64.wrap (y12075 - 1))).toNat)) (x10311.1.getD (a1 + ((y12075).toNat)) default)) <|
 .grd ((a1 + (((IntKind.i64.wrap (y12075 - 1))).toNat)) < (x10311.1.set (a1 + ((y12075).toNat)) (x10311.1.getD (a1 + (((IntKind.i64.wrap (y12075 - 1))).toNat)) default)).length ∧ 0 ≤ (a1 + (((IntKind.i64.wrap (y12075 - 1))).toNat))) <|
 .cut 0 (fun (y12258 : (List Int)) => ⟨[(0, .view 0 1 a1 a2), (1, pz a3), (2, pz a4), (3, .func 121 [] [.ptr 1 0, .ptr 2 0]), (9, pz y12075), (10, pz x10311.2.2)], [(0, vecO 1 encI_i64 y12258 3), (1, .box [.pure (encL 1 (encL 1 encI_i64) a5)]), (2, .box [pz a6])], [], 3⟩)
 (.br (decide ((IntKind.i64.wrap (y12075 - a3)) ≥ 2))
 (.loop (fun (x12288 : ((List Int) × Int)) => ⟨[(0, .view 0 1 a1 a2), (1, pz a3), (2, pz a4), (3, .func 121 [] [.ptr 1 0, .ptr 2 0]), (9, pz y12075), (10, pz x10311.2.2), (11, pz x12288.2)], [(0, vecO 1 encI_i64 x12288.1 3), (1, .box [.pure (encL 1 (encL 1 encI_i64) a5)]), (2, .box [pz a6])], [], 3⟩)
 (.exit 4) (fun (y12317 : (List Int)) => ⟨[(0, .view 0 1 a1 a2), (1, pz a3), (2, pz a4), (3, .func 121 [] [.ptr 1 0, .ptr 2 0]), (9, pz y12075), (10, pz x10311.2.2)], [(0, vecO 1 encI_i64 y12317 3), (1, .box [.pure (encL 1 (encL 1 encI_i64) a5)]), (2, .box [pz a6])], [], 3⟩)
 (fun x12288 => .br (decide (x12288.2 ≥ 1))
 (.grd (0 ≤ x12288.2 ∧ x12288.2 < ((a2 : Nat) : Int)) <|
 .grd ((a1 + ((x12288.2).toNat)) < x12288.1.length) <|
 .name 16004 ((x12288.1.getD (a1 + ((x12288.2).toNat)) default)) fun z12341 =>
 .grd (0 ≤ (IntKind.i64.wrap (x12288.2 - 1)) ∧ (IntKind.i64.wrap (x12288.2 - 1)) < ((a2 : Nat) : Int)) <|
 .grd ((a1 + (((IntKind.i64.wrap (x12288.2 - 1))).toNat)) < x12288.1.length) <|
 .name 16009 ((x12288.1.getD (a1 + (((IntKind.i64.wrap (x12288.2 - 1))).toNat)) default)) fun z12342 =>
 .call (neighbor_Build_2_1_C z12341 z12342 a5 a6) [(0, 1), (1, 2)] fun y12343 =>
 .br (!(decide (y12343 < 0)))
 (.ret (.out x12288.1))
 (.grd (0 ≤ (IntKind.i64.wrap (x12288.2 - 1)) ∧ (IntKind.i64.wrap (x12288.2 - 1)) < ((a2 : Nat) : Int)) <|
 .grd ((a1 + (((IntKind.i64.wrap (x12288.2 - 1))).toNat)) < x12288.1.length) <|
 .name 17009 ((x12288.1.getD (a1 + (((IntKind.i64.wrap (x12288.2 - 1))).toNat)) default)) fun z12344 =>
 .grd (0 ≤ x12288.2 ∧ x12288.2 < ((a2 : Nat) : Int)) <|
 .grd ((a1 + ((x12288.2).toNat)) < x12288.1.length) <|
 .name 17013 ((x12288.1.getD (a1 + ((x12288.2).toNat)) default)) fun z12345 =>
 .grd (0 ≤ x12288.2 ∧ x12288.2 < ((a2 : Nat) : Int)) <|
 .conv 17015 (cvSet 1 encI_i64 x12288.1 3 (a1 + ((x12288.2).toNat)) z12344) <|
 .grd ((a1 + ((x12288.2).toNat)) < x12288.1.length ∧ 0 ≤ (a1 + ((x12288.2).toNat))) <|
 .grd (0 ≤ (IntKind.i64.wrap (x12288.2 - 1)) ∧ (IntKind.i64.wrap (x12288.2 - 1)) < ((a2 : Nat) : Int)) <|
 .conv 17017 (cvSet 1 encI_i64 (x12288.1.set (a1 + ((x12288.2).toNat)) z12344) 3 (a1 + (((IntKind.i64.wrap (x12288.2 - 1))).toNat)) z12345) <|
 .grd ((a1 + (((IntKind.i64.wrap (x12288.2 - 1))).toNat)) < (x12288.1.set (a1 + ((x12288.2).toNat)) z12344).length ∧ 0 ≤ (a1 + (((IntKind.i64.wrap (x12288.2 - 1))).toNat))) <|
 .ret (.next (((x12288.1.set (a1 + ((x12288.2).toNat)) z12344).set (a1 + (((IntKind.i64.wrap (x12288.2 - 1))).toNat)) z12345), (IntKind.i64.wrap (x12288.2 - 1))))))
 (.ret (.out x12288.1)))
 (((x10311.1.set (a1 + ((y12075).toNat)) (x10311.1.getD (a1 + (((IntKind.i64.wrap (y12075 - 1))).toNat)) default)).set (a1 + (((IntKind.i64.wrap (y12075 - 1))).toNat)) (x10311.1.getD (a1 + ((y12075).toNat)) default)), (IntKind.i64.wrap (y12075 - 1))) [] fun y12317 =>
 .ret (.out y12317))
 (.ret (.out ((x10311.1.set (a1 + ((y12075).toNat)) (x10311.1.getD (a1 + (((IntKind.i64.wrap (y12075 - 1))).toNat)) default)).set (a1 + (((IntKind.i64.wrap (y12075 - 1))).toNat)) (x10311.1.getD (a1 + ((y12075).toNat)) default))))) fun y12258 =>
 .br (decide ((IntKind.i64.wrap (a4 - y12075)) ≥ 2))
 (.loop (fun (x12355 : ((List Int) × Int)) => ⟨[(0, .view 0 1 a1 a2), (1, pz a3), (2, pz a4), (3, .func 121 [] [.ptr 1 0, .ptr 2 0]), (9, pz y12075), (10, pz x10311.2.2), (12, pz x12355.2)], [(0, vecO 1 encI_i64 x12355.1 3), (1, .box [.pure (encL 1 (encL 1 encI_i64) a5)]), (2, .box [pz a6])], [], 3⟩)
 (.exit 6) (fun (y12364 : (List Int)) => ⟨[(0, .view 0 1 a1 a2), (1, pz a3), (2, pz a4), (3, .func 121 [] [.ptr 1 0, .ptr 2 0]), (9, pz y12075), (10, pz x10311.2.2)], [(0, vecO 1 encI_i64 y12364 3), (1, .box [.pure (encL 1 (encL 1 encI_i64) a5)]), (2, .box [pz a6])], [], 3⟩)
 (fun x12355 => .br (decide (x12355.2 < a4))
 (.grd (0 ≤ x12355.2 ∧ x12355.2 < ((a2 : Nat) : Int)) <|
 .grd ((a1 + ((x12355.2).toNat)) < x12355.1.length) <|
 .grd (0 ≤ (IntKind.i64.wrap (x12355.2 - 1)) ∧ (IntKind.i64.wrap (x12355.2 - 1)) < ((a2 : Nat) : Int)) <|
 .grd ((a1 + (((IntKind.i64.wrap (x12355.2 - 1))).toNat)) < x12355.1.length) <|
 .call (neighbor_Build_2_1_C (x12355.1.getD (a1 + ((x12355.2).toNat)) default) (x12355.1.getD (a1 + (((IntKind.i64.wrap (x12355.2 - 1))).toNat)) default) a5 a6) [(0, 1), (1, 2)] fun y12372 =>
 .br (!(decide (y12372 < 0)))
 (.ret (.out x12355.1))
 (.grd (0 ≤ (IntKind.i64.wrap (x12355.2 - 1)) ∧ (IntKind.i64.wrap (x12355.2 - 1)) < ((a2 : Nat) : Int)) <|
 .grd ((a1 + (((IntKind.i64.wrap (x12355.2 - 1))).toNat)) < x12355.1.length) <|
 .grd (0 ≤ x12355.2 ∧ x12355.2 < ((a2 : Nat) : Int)) <|
 .grd ((a1 + ((x12355.2).toNat)) < x12355.1.length) <|
 .grd (0 ≤ x12355.2 ∧ x12355.2 < ((a2 : Nat) : Int)) <|
 .conv 23015 (cvSet 1 encI_i64 x12355.1 3 (a1 + ((x12355.2).toNat)) (x12355.1.getD (a1 + (((IntKind.i64.wrap (x12355.2 - 1))).toNat)) default)) <|
 .grd ((a1 + ((x12355.2).toNat)) < x12355.1.length ∧ 0 ≤ (a1 + ((x12355.2).toNat))) <|
 .grd (0 ≤ (IntKind.i64.wrap (x12355.2 - 1)) ∧ (IntKind.i64.wrap (x12355.2 - 1)) < ((a2 : Nat) : Int)) <|
 .conv 23017 (cvSet 1 encI_i64 (x12355.1.set (a1 + ((x12355.2).toNat)) (x12355.1.getD (a1 + (((IntKind.i64.wrap (x12355.2 - 1))).toNat)) default)) 3 (a1 + (((IntKind.i64.wrap (x12355.2 - 1))).toNat)) (x12355.1.getD (a1 + ((x12355.2).toNat)) default)) <|
 .grd ((a1 + (((IntKind.i64.wrap (x12355.2 - 1))).toNat)) < (x12355.1.set (a1 + ((x12355.2).toNat)) (x12355.1.getD (a1 + (((IntKind.i64.wrap (x12355.2 - 1))).toNat)) default)).length ∧ 0 ≤ (a1 + (((IntKind.i64.wrap (x12355.2 - 1))).toNat))) <|
 .ret (.next (((x12355.1.set (a1 + ((x12355.2).toNat)) (x12355.1.getD (a1 + (((IntKind.i64.wrap (x12355.2 - 1))).toNat)) default)).set (a1 + (((IntKind.i64.wrap (x12355.2 - 1))).toNat)) (x12355.1.getD (a1 + ((x12355.2).toNat)) default)), (IntKind.i64.wrap (x12355.2 + 1))))))
 (.ret (.out x12355.1)))
 (y12258, (IntKind.i64.wrap (y12075 + 1))) [] fun y12364 =>
 .ret (.out (y12364, y12075)))
 (.ret (.out (y12258, y12075)))))) fun y12029 =>
 .ret (.next (y12029.1, y12029.2, (IntKind.i64.wrap (x10311.2.2 + 1)))))
 (.ret (.out x10311.1)))
 (a0, (IntKind.i64.wrap (a3 + 1)), 0) [] fun y11342 =>
 .ret (false, y11342)
noncomputable def slices_partialInsertionSortCmpFunc_int_C (a0 : (List Int)) (a1 : Nat) (a2 : Nat) (a3 : Int) (a4 : Int) (a5 : (List (List Int))) (a6 : Int) : CallS (Bool × (List Int)) :=
  mkC [] hd Tryz.func179 (by kernel_rfl) (slices_partialInsertionSortCmpFunc_int_T a0 a1 a2 a3 a4 a5 a6) 3 [.view 0 1 a1 a2, pz a3, pz a4, .func 121 [] [.ptr 1 0, .ptr 2 0]] [(0, vecO 1 encI_i64 a0 3), (1, .box [.pure (encL 1 (encL 1 encI_i64) a5)]), (2, .box [pz a6])] (fun r => .pure (.bool r.1)) (fun r => [(0, vecO 1 encI_i64 r.2 3), (1, .box [.pure (encL 1 (encL 1 encI_i64) a5)]), (2, .box [pz a6])]) (by kernel_rfl)
set_option maxHeartbeats 8000000 in
set_option maxRecDepth 20000 in
noncomputable def slices_partitionEqualCmpFunc_int_T (a0 : (List Int)) (a1 : Nat) (a2 : Nat) (a3 : Int) (a4 : Int) (a5 : Int) (a6 : (List (List Int))) (a7 : Int) : T (Int × (List Int)) :=
 .grd (0 ≤ a5 ∧ a5 < ((a2 : Nat) : Int)) <|
 .grd ((a1 + ((a5).toNat)) < a0.length) <|
 .grd (0 ≤ a3 ∧ a3 < ((a2 : Nat) : Int)) <|
 .grd ((a1 + ((a3).toNat)) < a0.length) <|
 .grd (0 ≤ a3 ∧ a3 < ((a2 : Nat) : Int)) <|
 .conv 1013 (cvSet 1 encI_i64 a0 3 (a1 + ((a3).toNat)) (a0.getD (a1 + ((a5).toNat)) default)) <|
 .grd ((a1 + ((a3).toNat)) < a0.length ∧ 0 ≤ (a1 + ((a3).toNat))) <|
 .grd (0 ≤ a5 ∧ a5 < ((a2 : Nat) : Int)) <|
 .conv 1015 (cvSet 1 encI_i64 (a0.set (a1 + ((a3).toNat)) (a0.getD (a1 + ((a5).toNat)) default)) 3 (a1 + ((a5).toNat)) (a0.getD (a1 + ((a3).toNat)) default)) <|
 .grd ((a1 + ((a5).toNat)) < (a0.set (a1 + ((a3).toNat)) (a0.getD (a1 + ((a5).toNat)) default)).length ∧ 0 ≤ (a1 + ((a5).toNat))) <|
 .loop (fun (x2571 : ((List Int) × Int × Int)) => ⟨[(0, .view 0 1 a1 a2), (1, pz a3), (4, .func 121 [] [.ptr 1 0, .ptr 2 0]), (11, pz x2571.2.1), (12, pz x2571.2.2)], [(0, vecO 1 encI_i64 x2571.1 3), (1, .box [.pure (encL 1 (encL 1 encI_i64) a6)]), (2, .box [pz a7])], [], 3⟩)
 (.exit 0) (fun (y2828 : (Int × (List Int))) => ⟨[(11, pz y2828.1)], [(0, vecO 1 encI_i64 y2828.2 3), (1, .box [.pure (encL 1 (encL 1 encI_i64) a6)]), (2, .box [pz a7])], [], 3⟩)
 (fun x2571 => .loop (fun (x2913 : Int) => ⟨[(0, .view 0 1 a1 a2), (1, pz a3), (4, .func 121 [] [.ptr 1 0, .ptr 2 0]), (11, pz x2913), (12, pz x2571.2.2)], [(0, vecO 1 encI_i64 x2571.1 3), (1, .box [.pure (encL 1 (encL 1 encI_i64) a6)]), (2, .box [pz a7])], [], 3⟩)
 (.exit 2) (fun (y2934 : Int) => ⟨[(0, .view 0 1 a1 a2), (1, pz a3), (4, .func 121 [] [.ptr 1 0, .ptr 2 0]), (11, pz y2934), (12, pz x2571.2.2)], [(0, vecO 1 encI_i64 x2571.1 3), (1, .box [.pure (encL 1 (encL 1 encI_i64) a6)]), (2, .box [pz a7])], [], 3⟩)
 (fun x2913 => .cut 1 (fun (y2951 : Bool) => ⟨[(0, .view 0 1 a1 a2), (1, pz a3), (4, .func 121 [] [.ptr 1 0, .ptr 2 0]), (11, pz x2913), (12, pz x2571.2.2), (47, .pure (.bool y2951))], [(0, vecO 1 encI_i64 x2571.1 3), (1, .box [.pure (encL 1 (encL 1 encI_i64) a6)]), (2, .box [pz a7])], [], 3⟩)
 (.br (decide (x2913 ≤ x2571.2.2))
 (.grd (0 ≤ a3 ∧ a3 < ((a2 : Nat) : Int)) <|
 .grd ((a1 + ((a3).toNat)) < x2571.1.length) <|
 .name 3008 ((x2571.1.getD (a1 + ((a3).toNat)) default)) fun z2952 =>
 .grd (0 ≤ x2913 ∧ x2913 < ((a2 : Nat) : Int)) <|
 .grd ((a1 + ((x2913).toNat)) < x2571.1.length) <|
 .name 3012 ((x2571.1.getD (a1 + ((x2913).toNat)) default)) fun z2953 =>
 .call (neighbor_Build_2_1_C z2952 z2953 a6 a7) [(0, 1), (1, 2)] fun y2954 =>
 .ret (.out (!(decide (y2954 < 0)))))
 (.ret (.out false))) fun y2951 =>
 .br y2951
 (.ret (.next (IntKind.i64.wrap (x2913 + 1))))
 (.ret (.out x2913)))
 x2571.2.1 [] fun y2934 =>
 .loop (fun (x3039 : Int) => ⟨[(0, .view 0 1 a1 a2), (1, pz a3), (4, .func 121 [] [.ptr 1 0, .ptr 2 0]), (11, pz y2934), (12, pz x3039)], [(0, vecO 1 encI_i64 x2571.1 3), (1, .box [.pure (encL 1 (encL 1 encI_i64) a6)]), (2, .box [pz a7])], [], 3⟩)
 (.exit 4) (fun (y3060 : Int) => ⟨[(0, .view 0 1 a1 a2), (1, pz a3), (4, .func 121 [] [.ptr 1 0, .ptr 2 0]), (11, pz y2934), (12, pz y3060)], [(0, vecO 1 encI_i64 x2571.1 3), (1, .box [.pure (encL 1 (encL 1 encI_i64) a6)]), (2, .box [pz a7])], [], 3⟩)
 (fun x3039 => .cut 1 (fun (y3077 : Bool) => ⟨[(0, .view 0 1 a1 a2), (1, pz a3), (4, .func 121 [] [.ptr 1 0, .ptr 2 0]), (11, pz y2934), (12, pz x3039), (65, .pure (.bool y3077))], [(0, vecO 1 encI_i64 x2571.1 3), (1, .box [.pure (encL 1 (encL 1 encI_i64) a6)]), (2, .box [pz a7])], [], 3⟩)
 (.br (decide (y2934 ≤ x3039))
 (.grd (0 ≤ a3 ∧ a3 < ((a2 : Nat) : Int)) <|
 .grd ((a1 + ((a3).toNat)) < x2571.1.length) <|
 .name 5008 ((x2571.1.getD (a1 + ((a3).toNat)) default)) fun z3078 =>
 .grd (0 ≤ x3039 ∧ x3039 < ((a2 : Nat) : Int)) <|
 .grd ((a1 + ((x3039).toNat)) < x2571.1.length) <|
 .name 5012 ((x2571.1.getD (a1 + ((x3039).toNat)) default)) fun z3079 =>
 .call (neighbor_Build_2_1_C z3078 z3079 a6 a7) [(0, 1), (1, 2)] fun y3080 =>
 .ret (.out (decide (y3080 < 0))))
 (.ret (.out false))) fun y3077 =>
 .br y3077
 (.ret (.next (IntKind.i64.wrap (x3039 - 1))))
 (.ret (.out x3039)))
 x2571.2.2 [] fun y3060 =>
 .br (decide (y2934 > y3060))
 (.ret (.out (y2934, x2571.1)))
 (.grd (0 ≤ y3060 ∧ y3060 < ((a2 : Nat) : Int)) <|
 .grd ((a1 + ((y3060).toNat)) < x2571.1.length) <|
 .name 8007 ((x2571.1.getD (a1 + ((y3060).toNat)) default)) fun z3083 =>
 .grd (0 ≤ y2934 ∧ y2934 < ((a2 : Nat) : Int)) <|
 .grd ((a1 + ((y2934).toNat)) < x2571.1.length) <|
 .name 8011 ((x2571.1.getD (a1 + ((y2934).toNat)) default)) fun z3084 =>
 .grd (0 ≤ y2934 ∧ y2934 < ((a2 : Nat) : Int)) <|
 .conv 8013 (cvSet 1 encI_i64 x2571.1 3 (a1 + ((y2934).toNat)) z3083) <|
 .grd ((a1 + ((y2934).toNat)) < x2571.1.length ∧ 0 ≤ (a1 + ((y2934).toNat))) <|
 .grd (0 ≤ y3060 ∧ y3060 < ((a2 : Nat) : Int)) <|
 .conv 8015 (cvSet 1 encI_i64 (x2571.1.set (a1 + ((y2934).toNat)) z3083) 3 (a1 + ((y3060).toNat)) z3084) <|
 .grd ((a1 + ((y3060).toNat)) < (x2571.1.set (a1 + ((y2934).toNat)) z3083).length ∧ 0 ≤ (a1 + ((y3060).toNat))) <|
 .ret (.next (((x2571.1.set (a1 + ((y2934).toNat)) z3083).set (a1 + ((y3060).toNat)) z3084), (IntKind.i64.wrap (y2934 + 1)), (IntKind.i64.wrap (y3060 - 1))))))
 (((a0.set (a1 + ((a3).toNat)) (a0.getD (a1 + ((a5).toNat)) default)).set (a1 + ((a5).toNat)) (a0.getD (a1 + ((a3).toNat)) default)), (IntKind.i64.wrap (a3 + 1)), (IntKind.i64.wrap (a4 - 1))) [] fun y2828 =>
 .ret (y2828.1, y2828.2)
noncomputable def slices_partitionEqualCmpFunc_int_C (a0 : (List Int)) (a1 : Nat) (a2 : Nat) (a3 : Int) (a4 : Int) (a5 : Int) (a6 : (List (List Int))) (a7 : Int) : CallS (Int × (List Int)) :=
  mkC [] hd Tryz.func180 (by kernel_rfl) (slices_partitionEqualCmpFunc_int_T a0 a1 a2 a3 a4 a5 a6 a7) 3 [.view 0 1 a1 a2, pz a3, pz a4, pz a5, .func 121 [] [.ptr 1 0, .ptr 2 0]] [(0, vecO 1 encI_i64 a0 3), (1, .box [.pure (encL 1 (encL 1 encI_i64) a6)]), (2, .box [pz a7])] (fun r => pz r.1) (fun r => [(0, vecO 1 encI_i64 r.2 3), (1, .box [.pure (encL 1 (encL 1 encI_i64) a6)]), (2, .box [pz a7])]) (by kernel_rfl)
end Go.Abs
