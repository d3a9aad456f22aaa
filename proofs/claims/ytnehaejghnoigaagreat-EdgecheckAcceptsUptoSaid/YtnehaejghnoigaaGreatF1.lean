/-
  F1: what functions of the program compute, as trees, with their specifications (printed by a program of ours).
-/
import Derived.Test.YtnehaejghnoigaaGreatTBase
import Derived.Test.YtnehaejghnoigaaGreatChecked
namespace Go.Abs
open Go.Proofs
theorem hd : DrawSound Tryz.prog drawB := draw_sound (by kernel_rfl)
structure S_Joint where
  Name : ByteArray
  Kind : Int
  Parent : Int
  Offset : (Int × Int × Int)
  Lo : Int
  Hi : Int
  Weight : Int
  Speed : Int
  Accel : Int
  Torque : Int
instance : Inhabited S_Joint := ⟨⟨default, default, default, default, default, default, default, default, default, default⟩⟩
structure S_Mass where
  Link : Int
  Mass : Int
  Point : (Int × Int × Int)
instance : Inhabited S_Mass := ⟨⟨default, default, default⟩⟩
structure S_Robot where
  Joints : (List S_Joint)
  Masses : (List S_Mass)
instance : Inhabited S_Robot := ⟨⟨default, default⟩⟩
structure S_Shape where
  Link : Int
  Radius : Int
  Points : (List (Int × Int × Int))
instance : Inhabited S_Shape := ⟨⟨default, default, default⟩⟩
structure S_Skip where
  A : Int
  B : Int
instance : Inhabited S_Skip := ⟨⟨default, default⟩⟩
structure S_Scene where
  Robot : S_Robot
  Shapes : (List S_Shape)
  Skips : (List S_Skip)
instance : Inhabited S_Scene := ⟨⟨default, default, default⟩⟩
structure S_Piece where
  Depth : Int
  Index : Int
  Normals : (List (Int × Int × Int))
instance : Inhabited S_Piece := ⟨⟨default, default, default⟩⟩
structure S_Witness where
  Pair : Int
  Left : (List Int)
  Right : (List Int)
instance : Inhabited S_Witness := ⟨⟨default, default, default⟩⟩
structure S_EdgeResult where
  Kind : Int
  Pieces : (List S_Piece)
  At : S_Piece
  Witness : S_Witness
instance : Inhabited S_EdgeResult := ⟨⟨default, default, default, default⟩⟩
structure S_make_Source where
  list : (List Int)
  next : Int
instance : Inhabited S_make_Source := ⟨⟨default, default⟩⟩
structure S_ref19_place where
  depth : Int
  index : Int
  hints : (List (Int × Int × Int))
instance : Inhabited S_ref19_place := ⟨⟨default, default, default⟩⟩
structure S_Interval where
  Lo : Int
  Hi : Int
instance : Inhabited S_Interval := ⟨⟨default, default⟩⟩
structure S_ref14_side where
  points : (List (S_Interval × S_Interval × S_Interval))
  radius : Int
instance : Inhabited S_ref14_side := ⟨⟨default, default⟩⟩
structure S_Pose where
  R : ((S_Interval × S_Interval × S_Interval) × (S_Interval × S_Interval × S_Interval) × (S_Interval × S_Interval × S_Interval))
  T : (S_Interval × S_Interval × S_Interval)
instance : Inhabited S_Pose := ⟨⟨default, default⟩⟩
structure S_Pair where
  A : Int
  B : Int
instance : Inhabited S_Pair := ⟨⟨default, default⟩⟩
structure S_Verdict where
  Kind : Int
  Normals : (List (Int × Int × Int))
  Witness : S_Witness
instance : Inhabited S_Verdict := ⟨⟨default, default, default⟩⟩
structure S_Nearest where
  Kind : Int
  Normal : (Int × Int × Int)
  Left : (List Int)
  Right : (List Int)
  Steps : Int
instance : Inhabited S_Nearest := ⟨⟨default, default, default, default, default⟩⟩
structure S_edgecheck_replay where
  scene : S_Scene
  p : (List Int)
  q : (List Int)
  pieces : (List S_Piece)
instance : Inhabited S_edgecheck_replay := ⟨⟨default, default, default, default⟩⟩
structure S_classify_separation where
  normals : (List (Int × Int × Int))
instance : Inhabited S_classify_separation := ⟨⟨default⟩⟩
structure S_classify_body where
  shapes : (List S_Shape)
  pairs : (List S_Pair)
  points : (List (List (S_Interval × S_Interval × S_Interval)))
instance : Inhabited S_classify_body := ⟨⟨default, default, default⟩⟩
structure S_classify_couple where
  a : (List (S_Interval × S_Interval × S_Interval))
  b : (List (S_Interval × S_Interval × S_Interval))
  ra : Int
  rb : Int
instance : Inhabited S_classify_couple := ⟨⟨default, default, default, default⟩⟩
structure S_plane_side where
  points : (List (S_Interval × S_Interval × S_Interval))
  radius : Int
instance : Inhabited S_plane_side := ⟨⟨default, default⟩⟩
structure S_plane_sides where
  a : S_plane_side
  b : S_plane_side
instance : Inhabited S_plane_sides := ⟨⟨default, default⟩⟩
structure S_classify_collision where
  witness : S_Witness
instance : Inhabited S_classify_collision := ⟨⟨default⟩⟩
def enc_Joint (v : S_Joint) : PVal := .agg [.str v.Name, .int .i64 v.Kind, .int .i64 v.Parent, .int .i64 v.Offset.1, .int .i64 v.Offset.2.1, .int .i64 v.Offset.2.2, .int .i64 v.Lo, .int .i64 v.Hi, .int .i64 v.Weight, .int .i64 v.Speed, .int .i64 v.Accel, .int .i64 v.Torque]
def enc_Mass (v : S_Mass) : PVal := .agg [.int .i64 v.Link, .int .i64 v.Mass, .int .i64 v.Point.1, .int .i64 v.Point.2.1, .int .i64 v.Point.2.2]
def enc_Robot (v : S_Robot) : PVal := .agg [encL 12 enc_Joint v.Joints, encL 5 enc_Mass v.Masses]
def enc_arr_3_int64 (v : (Int × Int × Int)) : PVal := .agg [.int .i64 v.1, .int .i64 v.2.1, .int .i64 v.2.2]
def enc_Shape (v : S_Shape) : PVal := .agg [.int .i64 v.Link, .int .i64 v.Radius, encL 3 enc_arr_3_int64 v.Points]
def enc_Skip (v : S_Skip) : PVal := .agg [.int .i64 v.A, .int .i64 v.B]
def enc_Scene (v : S_Scene) : PVal := .agg [encL 12 enc_Joint v.Robot.Joints, encL 5 enc_Mass v.Robot.Masses, encL 3 enc_Shape v.Shapes, encL 2 enc_Skip v.Skips]
def enc_Piece (v : S_Piece) : PVal := .agg [.int .i64 v.Depth, .int .i64 v.Index, encL 3 enc_arr_3_int64 v.Normals]
def enc_Witness (v : S_Witness) : PVal := .agg [.int .i64 v.Pair, encL 1 encI_i64 v.Left, encL 1 encI_i64 v.Right]
def enc_EdgeResult (v : S_EdgeResult) : PVal := .agg [.int .i64 v.Kind, encL 3 enc_Piece v.Pieces, .int .i64 v.At.Depth, .int .i64 v.At.Index, encL 3 enc_arr_3_int64 v.At.Normals, .int .i64 v.Witness.Pair, encL 1 encI_i64 v.Witness.Left, encL 1 encI_i64 v.Witness.Right]
def enc_make_Source (v : S_make_Source) : PVal := .agg [encL 1 encI_i64 v.list, .int .i64 v.next]
def enc_ref19_place (v : S_ref19_place) : PVal := .agg [.int .i64 v.depth, .int .i64 v.index, encL 3 enc_arr_3_int64 v.hints]
def enc_Interval (v : S_Interval) : PVal := .agg [.int .i64 v.Lo, .int .i64 v.Hi]
def enc_arr_3_Interval (v : (S_Interval × S_Interval × S_Interval)) : PVal := .agg [.int .i64 v.1.Lo, .int .i64 v.1.Hi, .int .i64 v.2.1.Lo, .int .i64 v.2.1.Hi, .int .i64 v.2.2.Lo, .int .i64 v.2.2.Hi]
def enc_ref14_side (v : S_ref14_side) : PVal := .agg [encL 6 enc_arr_3_Interval v.points, .int .i64 v.radius]
def enc_Pose (v : S_Pose) : PVal := .agg [.int .i64 v.R.1.1.Lo, .int .i64 v.R.1.1.Hi, .int .i64 v.R.1.2.1.Lo, .int .i64 v.R.1.2.1.Hi, .int .i64 v.R.1.2.2.Lo, .int .i64 v.R.1.2.2.Hi, .int .i64 v.R.2.1.1.Lo, .int .i64 v.R.2.1.1.Hi, .int .i64 v.R.2.1.2.1.Lo, .int .i64 v.R.2.1.2.1.Hi, .int .i64 v.R.2.1.2.2.Lo, .int .i64 v.R.2.1.2.2.Hi, .int .i64 v.R.2.2.1.Lo, .int .i64 v.R.2.2.1.Hi, .int .i64 v.R.2.2.2.1.Lo, .int .i64 v.R.2.2.2.1.Hi, .int .i64 v.R.2.2.2.2.Lo, .int .i64 v.R.2.2.2.2.Hi, .int .i64 v.T.1.Lo, .int .i64 v.T.1.Hi, .int .i64 v.T.2.1.Lo, .int .i64 v.T.2.1.Hi, .int .i64 v.T.2.2.Lo, .int .i64 v.T.2.2.Hi]
def enc_Pair (v : S_Pair) : PVal := .agg [.int .i64 v.A, .int .i64 v.B]
def enc_Verdict (v : S_Verdict) : PVal := .agg [.int .i64 v.Kind, encL 3 enc_arr_3_int64 v.Normals, .int .i64 v.Witness.Pair, encL 1 encI_i64 v.Witness.Left, encL 1 encI_i64 v.Witness.Right]
def enc_Nearest (v : S_Nearest) : PVal := .agg [.int .i64 v.Kind, .int .i64 v.Normal.1, .int .i64 v.Normal.2.1, .int .i64 v.Normal.2.2, encL 1 encI_i64 v.Left, encL 1 encI_i64 v.Right, .int .i64 v.Steps]
def enc_edgecheck_replay (v : S_edgecheck_replay) : PVal := .agg [encL 12 enc_Joint v.scene.Robot.Joints, encL 5 enc_Mass v.scene.Robot.Masses, encL 3 enc_Shape v.scene.Shapes, encL 2 enc_Skip v.scene.Skips, encL 1 encI_i64 v.p, encL 1 encI_i64 v.q, encL 3 enc_Piece v.pieces]
def enc_classify_separation (v : S_classify_separation) : PVal := .agg [encL 3 enc_arr_3_int64 v.normals]
def enc_classify_body (v : S_classify_body) : PVal := .agg [encL 3 enc_Shape v.shapes, encL 2 enc_Pair v.pairs, encL 1 (encL 6 enc_arr_3_Interval) v.points]
def enc_arr_4_int64 (v : (Int × Int × Int × Int)) : PVal := .agg [.int .i64 v.1, .int .i64 v.2.1, .int .i64 v.2.2.1, .int .i64 v.2.2.2]
def enc_classify_couple (v : S_classify_couple) : PVal := .agg [encL 6 enc_arr_3_Interval v.a, encL 6 enc_arr_3_Interval v.b, .int .i64 v.ra, .int .i64 v.rb]
def enc_plane_side (v : S_plane_side) : PVal := .agg [encL 6 enc_arr_3_Interval v.points, .int .i64 v.radius]
def enc_plane_sides (v : S_plane_sides) : PVal := .agg [encL 6 enc_arr_3_Interval v.a.points, .int .i64 v.a.radius, encL 6 enc_arr_3_Interval v.b.points, .int .i64 v.b.radius]
def enc_classify_collision (v : S_classify_collision) : PVal := .agg [.int .i64 v.witness.Pair, encL 1 encI_i64 v.witness.Left, encL 1 encI_i64 v.witness.Right]
def enc_arr_3_3_Interval (v : ((S_Interval × S_Interval × S_Interval) × (S_Interval × S_Interval × S_Interval) × (S_Interval × S_Interval × S_Interval))) : PVal := .agg [.int .i64 v.1.1.Lo, .int .i64 v.1.1.Hi, .int .i64 v.1.2.1.Lo, .int .i64 v.1.2.1.Hi, .int .i64 v.1.2.2.Lo, .int .i64 v.1.2.2.Hi, .int .i64 v.2.1.1.Lo, .int .i64 v.2.1.1.Hi, .int .i64 v.2.1.2.1.Lo, .int .i64 v.2.1.2.1.Hi, .int .i64 v.2.1.2.2.Lo, .int .i64 v.2.1.2.2.Hi, .int .i64 v.2.2.1.Lo, .int .i64 v.2.2.1.Hi, .int .i64 v.2.2.2.1.Lo, .int .i64 v.2.2.2.1.Hi, .int .i64 v.2.2.2.2.Lo, .int .i64 v.2.2.2.2.Hi]
def enc_arr_11_int64 (v : (Int × Int × Int × Int × Int × Int × Int × Int × Int × Int × Int)) : PVal := .agg [.int .i64 v.1, .int .i64 v.2.1, .int .i64 v.2.2.1, .int .i64 v.2.2.2.1, .int .i64 v.2.2.2.2.1, .int .i64 v.2.2.2.2.2.1, .int .i64 v.2.2.2.2.2.2.1, .int .i64 v.2.2.2.2.2.2.2.1, .int .i64 v.2.2.2.2.2.2.2.2.1, .int .i64 v.2.2.2.2.2.2.2.2.2.1, .int .i64 v.2.2.2.2.2.2.2.2.2.2]

theorem guard85 : GuardFn Tryz.prog 85 :=
  guardFn_of (fn := Tryz.f85) Tryz.func85 (by kernel_rfl) ⟨0, (gOps Tryz.f85).getD 0 default, (gOps Tryz.f85).getD 1 default, 1, 2, gX Tryz.f85, gC ((gOps Tryz.f85).getD 0 default), 20, 20, by kernel_rfl, by kernel_rfl, by kernel_rfl, by kernel_rfl, by kernel_rfl, by kernel_rfl, by kernel_rfl, by kernel_rfl, ⟨gMs (Tryz.prog.underlying 20), by kernel_rfl⟩, by decide, by decide, by kernel_rfl⟩

theorem guard87 : GuardFn Tryz.prog 87 :=
  guardFn_of (fn := Tryz.f87) Tryz.func87 (by kernel_rfl) ⟨0, (gOps Tryz.f87).getD 0 default, (gOps Tryz.f87).getD 1 default, 1, 2, gX Tryz.f87, gC ((gOps Tryz.f87).getD 0 default), 20, 20, by kernel_rfl, by kernel_rfl, by kernel_rfl, by kernel_rfl, by kernel_rfl, by kernel_rfl, by kernel_rfl, by kernel_rfl, ⟨gMs (Tryz.prog.underlying 20), by kernel_rfl⟩, by decide, by decide, by kernel_rfl⟩

theorem guard88 : GuardFn Tryz.prog 88 :=
  guardFn_of (fn := Tryz.f88) Tryz.func88 (by kernel_rfl) ⟨0, (gOps Tryz.f88).getD 0 default, (gOps Tryz.f88).getD 1 default, 2, 3, gX Tryz.f88, gC ((gOps Tryz.f88).getD 0 default), 20, 20, by kernel_rfl, by kernel_rfl, by kernel_rfl, by kernel_rfl, by kernel_rfl, by kernel_rfl, by kernel_rfl, by kernel_rfl, ⟨gMs (Tryz.prog.underlying 20), by kernel_rfl⟩, by decide, by decide, by kernel_rfl⟩

theorem guard96 : GuardFn Tryz.prog 96 :=
  guardFn_of (fn := Tryz.f96) Tryz.func96 (by kernel_rfl) ⟨0, (gOps Tryz.f96).getD 0 default, (gOps Tryz.f96).getD 1 default, 1, 2, gX Tryz.f96, gC ((gOps Tryz.f96).getD 0 default), 20, 20, by kernel_rfl, by kernel_rfl, by kernel_rfl, by kernel_rfl, by kernel_rfl, by kernel_rfl, by kernel_rfl, by kernel_rfl, ⟨gMs (Tryz.prog.underlying 20), by kernel_rfl⟩, by decide, by decide, by kernel_rfl⟩

theorem guard107 : GuardFn Tryz.prog 107 :=
  guardFn_of (fn := Tryz.f107) Tryz.func107 (by kernel_rfl) ⟨0, (gOps Tryz.f107).getD 0 default, (gOps Tryz.f107).getD 1 default, 1, 2, gX Tryz.f107, gC ((gOps Tryz.f107).getD 0 default), 20, 20, by kernel_rfl, by kernel_rfl, by kernel_rfl, by kernel_rfl, by kernel_rfl, by kernel_rfl, by kernel_rfl, by kernel_rfl, ⟨gMs (Tryz.prog.underlying 20), by kernel_rfl⟩, by decide, by decide, by kernel_rfl⟩

theorem guard111 : GuardFn Tryz.prog 111 :=
  guardFn_of (fn := Tryz.f111) Tryz.func111 (by kernel_rfl) ⟨0, (gOps Tryz.f111).getD 0 default, (gOps Tryz.f111).getD 1 default, 1, 2, gX Tryz.f111, gC ((gOps Tryz.f111).getD 0 default), 20, 20, by kernel_rfl, by kernel_rfl, by kernel_rfl, by kernel_rfl, by kernel_rfl, by kernel_rfl, by kernel_rfl, by kernel_rfl, ⟨gMs (Tryz.prog.underlying 20), by kernel_rfl⟩, by decide, by decide, by kernel_rfl⟩

theorem guard143 : GuardFn Tryz.prog 143 :=
  guardFn_of (fn := Tryz.f143) Tryz.func143 (by kernel_rfl) ⟨0, (gOps Tryz.f143).getD 0 default, (gOps Tryz.f143).getD 1 default, 1, 2, gX Tryz.f143, gC ((gOps Tryz.f143).getD 0 default), 20, 20, by kernel_rfl, by kernel_rfl, by kernel_rfl, by kernel_rfl, by kernel_rfl, by kernel_rfl, by kernel_rfl, by kernel_rfl, ⟨gMs (Tryz.prog.underlying 20), by kernel_rfl⟩, by decide, by decide, by kernel_rfl⟩

theorem guard195 : GuardFn Tryz.prog 195 :=
  guardFn_of (fn := Tryz.f195) Tryz.func195 (by kernel_rfl) ⟨0, (gOps Tryz.f195).getD 0 default, (gOps Tryz.f195).getD 1 default, 2, 3, gX Tryz.f195, gC ((gOps Tryz.f195).getD 0 default), 20, 20, by kernel_rfl, by kernel_rfl, by kernel_rfl, by kernel_rfl, by kernel_rfl, by kernel_rfl, by kernel_rfl, by kernel_rfl, ⟨gMs (Tryz.prog.underlying 20), by kernel_rfl⟩, by decide, by decide, by kernel_rfl⟩

noncomputable def make_From_T (a0 : (List Int)) : T ((List Int) × Int) :=
  .ret (a0, 0)
noncomputable def make_From_C (a0 : (List Int)) : CallS ((List Int) × Int) :=
  mkC [] hd Tryz.func94 (by kernel_rfl) (make_From_T a0) 0 [.pure (encL 1 encI_i64 a0)] [] (fun _ => .ptr 0 0) (fun r => [(0, .box [.pure (encL 1 encI_i64 r.1), .pure (.int .i64 r.2)])]) (by kernel_rfl)

noncomputable def make_Round_T (a0 : Int) (a1 : Int) : T Int :=
  .grd (a1 ≠ 0) <|
  .cut 0 (fun (y1 : Int) => ⟨[(5, .pure (.int .i64 y1))], [], [], 0⟩)
   (.br (decide ((a0.tmod a1) < 0))
    (.ret (.out (IntKind.i64.wrap ((a0.tmod a1) + a1))))
    (.ret (.out (a0.tmod a1)))) fun y1 =>
  .ret y1
noncomputable def make_Round_C (a0 : Int) (a1 : Int) : CallS Int :=
  mkC [] hd Tryz.func20 (by kernel_rfl) (make_Round_T a0 a1) 0 [.pure (.int .i64 a0), .pure (.int .i64 a1)] [] (fun r => .pure (.int .i64 r)) (fun _ => []) (by kernel_rfl)

noncomputable def Source_Next_T (a0 : (List Int)) (a1 : Int) (a2 : Int) : T (Int × (List Int) × Int) :=
  .br (decide (a1 ≥ ((a0.length : Nat) : Int)))
   (.ret (0, a0, a1))
   (.grd (0 ≤ (IntKind.i64.wrap ((IntKind.i64.wrap (a1 + 1)) - 1)) ∧ (IntKind.i64.wrap ((IntKind.i64.wrap (a1 + 1)) - 1)) < ((a0.length : Nat) : Int)) <|
   .call (make_Round_C (a0.getD (((IntKind.i64.wrap ((IntKind.i64.wrap (a1 + 1)) - 1))).toNat) default) a2) [] fun y1 =>
   .ret (y1, a0, (IntKind.i64.wrap (a1 + 1))))
noncomputable def Source_Next_C (a0 : (List Int)) (a1 : Int) (a2 : Int) : CallS (Int × (List Int) × Int) :=
  mkC [] hd Tryz.func95 (by kernel_rfl) (Source_Next_T a0 a1 a2) 1 [.ptr 0 0, .pure (.int .i64 a2)] [(0, .box [.pure (encL 1 encI_i64 a0), .pure (.int .i64 a1)])] (fun r => .pure (.int .i64 r.1)) (fun r => [(0, .box [.pure (encL 1 encI_i64 r.2.1), .pure (.int .i64 r.2.2)])]) (by kernel_rfl)

noncomputable def make_letter_T (a0 : Int) : T ByteArray :=
  .grd (0 ≤ a0 ∧ a0 ≤ (IntKind.i64.wrap (a0 + 1)) ∧ (IntKind.i64.wrap (a0 + 1)) ≤ (((⟨#[97, 98, 99, 100, 101, 102, 103, 104, 105, 106]⟩ : ByteArray).size : Nat) : Int)) <|
  .ret ((⟨#[97, 98, 99, 100, 101, 102, 103, 104, 105, 106]⟩ : ByteArray).extract (a0).toNat ((IntKind.i64.wrap (a0 + 1))).toNat)
noncomputable def make_letter_C (a0 : Int) : CallS ByteArray :=
  mkC [] hd Tryz.func201 (by kernel_rfl) (make_letter_T a0) 0 [.pure (.int .i64 a0)] [] (fun r => .pure (.str r)) (fun _ => []) (by kernel_rfl)

noncomputable def Source_Signed_T (a0 : (List Int)) (a1 : Int) (a2 : Int) : T (Int × (List Int) × Int) :=
  .call (Source_Next_C a0 a1 (IntKind.i64.wrap ((IntKind.i64.wrap (2 * a2)) + 1))) [(0, 0)] fun y1 =>
  .ret ((IntKind.i64.wrap (y1.1 - a2)), y1.2.1, y1.2.2)
noncomputable def Source_Signed_C (a0 : (List Int)) (a1 : Int) (a2 : Int) : CallS (Int × (List Int) × Int) :=
  mkC [] hd Tryz.func99 (by kernel_rfl) (Source_Signed_T a0 a1 a2) 1 [.ptr 0 0, .pure (.int .i64 a2)] [(0, .box [.pure (encL 1 encI_i64 a0), .pure (.int .i64 a1)])] (fun r => .pure (.int .i64 r.1)) (fun r => [(0, .box [.pure (encL 1 encI_i64 r.2.1), .pure (.int .i64 r.2.2)])]) (by kernel_rfl)

noncomputable def make_joint_T (a0 : (List Int)) (a1 : Int) (a2 : Int) : T (S_Joint × (List Int) × Int) :=
  .call (make_letter_C a2) [] fun y4 =>
  .call (Source_Next_C a0 a1 4) [(0, 0)] fun y5 =>
  .call (Source_Next_C y5.2.1 y5.2.2 3) [(0, 0)] fun y6 =>
  .call (Source_Next_C y6.2.1 y6.2.2 8) [(0, 0)] fun y8 =>
  .grd (0 ≤ y8.1 ∧ y8.1 < ((8 : Nat) : Int)) <|
  .cut 0 (fun (y13 : ((List Int) × Int × Int)) => ⟨[(0, .ptr 0 0), (1, .pure (.int .i64 a2)), (4, .ptr 1 0), (5, .ptr 2 0)], [(0, .box [.pure (encL 1 encI_i64 y13.1), .pure (.int .i64 y13.2.1)]), (1, .box [.pure (.str (⟨#[]⟩ : ByteArray)), .pure (.int .i64 0), .pure (.int .i64 0), .pure (.int .i64 0), .pure (.int .i64 0), .pure (.int .i64 0), .pure (.int .i64 0), .pure (.int .i64 0), .pure (.int .i64 0), .pure (.int .i64 0), .pure (.int .i64 0), .pure (.int .i64 0)]), (2, .box [.pure (.str y4), .pure (.int .i64 (([3, 3, 1, 2, 4, 5, 3, 0] : List Int).getD (y8.1).toNat 0)), .pure (.int .i64 y13.2.2), .pure (.int .i64 0), .pure (.int .i64 0), .pure (.int .i64 0), .pure (.int .i64 0), .pure (.int .i64 0), .pure (.int .i64 (IntKind.i64.wrap (1 + y5.1))), .pure (.int .i64 65536), .pure (.int .i64 (IntKind.i64.wrap (65536 + y6.1))), .pure (.int .i64 327680)])], [], 3⟩)
   (.call (Source_Next_C y8.2.1 y8.2.2 4) [(0, 0)] fun y15 =>
   .br (y15.1 == 1)
    (.ret (.out (y15.2.1, y15.2.2, (-1))))
    (.ret (.out (y15.2.1, y15.2.2, (IntKind.i64.wrap (a2 - 1)))))) fun y13 =>
  .cut 0 (fun (y20 : ((List Int) × Int × Int × Int × Int)) => ⟨[(0, .ptr 0 0), (4, .ptr 1 0), (5, .ptr 2 0)], [(0, .box [.pure (encL 1 encI_i64 y20.1), .pure (.int .i64 y20.2.1)]), (1, .box [.pure (.str (⟨#[]⟩ : ByteArray)), .pure (.int .i64 0), .pure (.int .i64 0), .pure (.int .i64 0), .pure (.int .i64 0), .pure (.int .i64 0), .pure (.int .i64 0), .pure (.int .i64 0), .pure (.int .i64 0), .pure (.int .i64 0), .pure (.int .i64 0), .pure (.int .i64 0)]), (2, .box [.pure (.str y4), .pure (.int .i64 (([3, 3, 1, 2, 4, 5, 3, 0] : List Int).getD (y8.1).toNat 0)), .pure (.int .i64 y13.2.2), .pure (.int .i64 y20.2.2.1), .pure (.int .i64 y20.2.2.2.1), .pure (.int .i64 y20.2.2.2.2), .pure (.int .i64 0), .pure (.int .i64 0), .pure (.int .i64 (IntKind.i64.wrap (1 + y5.1))), .pure (.int .i64 65536), .pure (.int .i64 (IntKind.i64.wrap (65536 + y6.1))), .pure (.int .i64 327680)])], [], 3⟩)
   (.br (decide (a2 > 0))
    (.call (Source_Signed_C y13.1 y13.2.1 2) [(0, 0)] fun y21 =>
    .call (Source_Signed_C y21.2.1 y21.2.2 1) [(0, 0)] fun y22 =>
    .ret (.out (y22.2.1, y22.2.2, 131072, (IntKind.i64.wrap (y21.1 * 32768)), (IntKind.i64.wrap (y22.1 * 32768)))))
    (.ret (.out (y13.1, y13.2.1, 0, 0, 0)))) fun y20 =>
  .cut 0 (fun (y35 : ((List Int) × Int × Int × Int)) => ⟨[(4, .ptr 1 0), (5, .ptr 2 0)], [(0, .box [.pure (encL 1 encI_i64 y35.1), .pure (.int .i64 y35.2.1)]), (1, .box [.pure (.str (⟨#[]⟩ : ByteArray)), .pure (.int .i64 0), .pure (.int .i64 0), .pure (.int .i64 0), .pure (.int .i64 0), .pure (.int .i64 0), .pure (.int .i64 0), .pure (.int .i64 0), .pure (.int .i64 0), .pure (.int .i64 0), .pure (.int .i64 0), .pure (.int .i64 0)]), (2, .box [.pure (.str y4), .pure (.int .i64 (([3, 3, 1, 2, 4, 5, 3, 0] : List Int).getD (y8.1).toNat 0)), .pure (.int .i64 y13.2.2), .pure (.int .i64 y20.2.2.1), .pure (.int .i64 y20.2.2.2.1), .pure (.int .i64 y20.2.2.2.2), .pure (.int .i64 y35.2.2.1), .pure (.int .i64 y35.2.2.2), .pure (.int .i64 (IntKind.i64.wrap (1 + y5.1))), .pure (.int .i64 65536), .pure (.int .i64 (IntKind.i64.wrap (65536 + y6.1))), .pure (.int .i64 327680)])], [], 3⟩)
   (.br ((([3, 3, 1, 2, 4, 5, 3, 0] : List Int).getD (y8.1).toNat 0) == 0)
    (.ret (.out (y20.1, y20.2.1, 0, 0)))
    (.cut 0 (fun (y36 : Bool) => ⟨[(0, .ptr 0 0), (4, .ptr 1 0), (5, .ptr 2 0), (55, .pure (.bool y36))], [(0, .box [.pure (encL 1 encI_i64 y20.1), .pure (.int .i64 y20.2.1)]), (1, .box [.pure (.str (⟨#[]⟩ : ByteArray)), .pure (.int .i64 0), .pure (.int .i64 0), .pure (.int .i64 0), .pure (.int .i64 0), .pure (.int .i64 0), .pure (.int .i64 0), .pure (.int .i64 0), .pure (.int .i64 0), .pure (.int .i64 0), .pure (.int .i64 0), .pure (.int .i64 0)]), (2, .box [.pure (.str y4), .pure (.int .i64 (([3, 3, 1, 2, 4, 5, 3, 0] : List Int).getD (y8.1).toNat 0)), .pure (.int .i64 y13.2.2), .pure (.int .i64 y20.2.2.1), .pure (.int .i64 y20.2.2.2.1), .pure (.int .i64 y20.2.2.2.2), .pure (.int .i64 0), .pure (.int .i64 0), .pure (.int .i64 (IntKind.i64.wrap (1 + y5.1))), .pure (.int .i64 65536), .pure (.int .i64 (IntKind.i64.wrap (65536 + y6.1))), .pure (.int .i64 327680)])], [], 3⟩)
     (.br ((([3, 3, 1, 2, 4, 5, 3, 0] : List Int).getD (y8.1).toNat 0) == 4)
      (.ret (.out ((([3, 3, 1, 2, 4, 5, 3, 0] : List Int).getD (y8.1).toNat 0) == 4)))
      (.ret (.out ((([3, 3, 1, 2, 4, 5, 3, 0] : List Int).getD (y8.1).toNat 0) == 5)))) fun y36 =>
    .br y36
     (.call (Source_Next_C y20.1 y20.2.1 3) [(0, 0)] fun y37 =>
     .call (Source_Next_C y37.2.1 y37.2.2 4) [(0, 0)] fun y38 =>
     .ret (.out (y38.2.1, y38.2.2, (IntKind.i64.wrap ((IntKind.i64.wrap (0 - y37.1)) * 65536)), (IntKind.i64.wrap (y38.1 * 32768)))))
     (.call (Source_Next_C y20.1 y20.2.1 5) [(0, 0)] fun y39 =>
     .ok ((8 : Int) ≠ 0) (by decide) <|
     .call (Source_Next_C y39.2.1 y39.2.2 4) [(0, 0)] fun y40 =>
     .ok ((8 : Int) ≠ 0) (by decide) <|
     .call (Source_Next_C y40.2.1 y40.2.2 3) [(0, 0)] fun y41 =>
     .ret (.out (y41.2.1, y41.2.2, (IntKind.i64.wrap ((IntKind.i64.wrap ((IntKind.i64.wrap (0 - y39.1)) * 65536)).tdiv 8)), (IntKind.i64.wrap ((IntKind.i64.wrap ((IntKind.i64.wrap ((IntKind.i64.wrap (1 + y40.1)) * 65536)).tdiv 8)) + y41.1))))))) fun y35 =>
  .ret ((⟨y4, (([3, 3, 1, 2, 4, 5, 3, 0] : List Int).getD (y8.1).toNat 0), y13.2.2, (y20.2.2.1, y20.2.2.2.1, y20.2.2.2.2), y35.2.2.1, y35.2.2.2, (IntKind.i64.wrap (1 + y5.1)), 65536, (IntKind.i64.wrap (65536 + y6.1)), 327680⟩ : S_Joint), y35.1, y35.2.1)
noncomputable def make_joint_C (a0 : (List Int)) (a1 : Int) (a2 : Int) : CallS (S_Joint × (List Int) × Int) :=
  mkC [] hd Tryz.func146 (by kernel_rfl) (make_joint_T a0 a1 a2) 1 [.ptr 0 0, .pure (.int .i64 a2)] [(0, .box [.pure (encL 1 encI_i64 a0), .pure (.int .i64 a1)])] (fun r => .pure (enc_Joint r.1)) (fun r => [(0, .box [.pure (encL 1 encI_i64 r.2.1), .pure (.int .i64 r.2.2)])]) (by kernel_rfl)

noncomputable def make_robot_T (a0 : (List Int)) (a1 : Int) : T (S_Robot × (List Int) × Int) :=
  .call (Source_Next_C a0 a1 3) [(0, 0)] fun y2 =>
  .loop (fun (x15 : ((List Int) × Int × (List S_Joint) × Int)) => ⟨[(0, .ptr 0 0), (2, .ptr 1 0), (3, .ptr 4 0), (4, .pure (.int .i64 (IntKind.i64.wrap (1 + y2.1)))), (5, .pure (.int .i64 x15.2.2.2))], [(0, .box [.pure (encL 1 encI_i64 x15.1), .pure (.int .i64 x15.2.1)]), (1, .box [.vec 2, .vec 3]), (2, .nilv), (3, .nilv), (4, .box [.vec 5, .vec 6]), (5, vecO 12 enc_Joint x15.2.2.1 147), (6, .nilv)], [], 7⟩)
   (.exit 0) (fun (y18 : ((List Int) × Int × (List S_Joint))) => ⟨[(0, .ptr 0 0), (2, .ptr 1 0), (3, .ptr 4 0), (4, .pure (.int .i64 (IntKind.i64.wrap (1 + y2.1))))], [(0, .box [.pure (encL 1 encI_i64 y18.1), .pure (.int .i64 y18.2.1)]), (1, .box [.vec 2, .vec 3]), (2, .nilv), (3, .nilv), (4, .box [.vec 5, .vec 6]), (5, vecO 12 enc_Joint y18.2.2 147), (6, .nilv)], [], 7⟩)
   (fun x15 => .br (decide (x15.2.2.2 < (IntKind.i64.wrap (1 + y2.1))))
     (.call (make_joint_C x15.1 x15.2.1 x15.2.2.2) [(0, 0)] fun y20 =>
     .conv 6005 (cvLit 12 enc_Joint ([y20.1] : (List S_Joint)) 147) <|
     .conv 6006 (cvApp 12 enc_Joint x15.2.2.1 ([y20.1] : (List S_Joint)) 147) <|
     .grd ((x15.2.2.1.length + ([y20.1] : (List S_Joint)).length) * 104 ≤ 140737488355328 ∧ (x15.2.2.1.length + ([y20.1] : (List S_Joint)).length) ≤ maxLen) <|
     .ret (.next (y20.2.1, y20.2.2, (x15.2.2.1 ++ ([y20.1] : (List S_Joint))), (IntKind.i64.wrap (x15.2.2.2 + 1)))))
     (.ret (.out (x15.1, x15.2.1, x15.2.2.1))))
   (y2.2.1, y2.2.2, nl, 0) [] fun y18 =>
  .call (Source_Next_C y18.1 y18.2.1 3) [(0, 0)] fun y51 =>
  .loop (fun (x61 : ((List Int) × Int × (List S_Mass) × Int)) => ⟨[(0, .ptr 0 0), (2, .ptr 1 0), (3, .ptr 4 0), (4, .pure (.int .i64 (IntKind.i64.wrap (1 + y2.1)))), (6, .pure (.int .i64 x61.2.2.2))], [(0, .box [.pure (encL 1 encI_i64 x61.1), .pure (.int .i64 x61.2.1)]), (1, .box [.vec 2, .vec 3]), (2, .nilv), (3, .nilv), (4, .box [.vec 5, .vec 6]), (5, vecO 12 enc_Joint y18.2.2 147), (6, vecO 5 enc_Mass x61.2.2.1 208)], [], 7⟩)
   (.exit 2) (fun (y70 : ((List Int) × Int × (List S_Mass))) => ⟨[(2, .ptr 1 0), (3, .ptr 4 0)], [(0, .box [.pure (encL 1 encI_i64 y70.1), .pure (.int .i64 y70.2.1)]), (1, .box [.vec 2, .vec 3]), (2, .nilv), (3, .nilv), (4, .box [.vec 5, .vec 6]), (5, vecO 12 enc_Joint y18.2.2 147), (6, vecO 5 enc_Mass y70.2.2 208)], [], 7⟩)
   (fun x61 => .br (decide (x61.2.2.2 > 0))
     (.call (Source_Next_C x61.1 x61.2.1 (IntKind.i64.wrap (1 + y2.1))) [(0, 0)] fun y75 =>
     .call (Source_Next_C y75.2.1 y75.2.2 9000) [(0, 0)] fun y76 =>
     .call (Source_Signed_C y76.2.1 y76.2.2 3) [(0, 0)] fun y77 =>
     .call (Source_Signed_C y77.2.1 y77.2.2 2) [(0, 0)] fun y78 =>
     .conv 10016 (cvLit 5 enc_Mass ([(⟨y75.1, (IntKind.i64.wrap (1 + y76.1)), ((IntKind.i64.wrap (y77.1 * 32768)), 0, (IntKind.i64.wrap (y78.1 * 32768)))⟩ : S_Mass)] : (List S_Mass)) 208) <|
     .conv 10017 (cvApp 5 enc_Mass x61.2.2.1 ([(⟨y75.1, (IntKind.i64.wrap (1 + y76.1)), ((IntKind.i64.wrap (y77.1 * 32768)), 0, (IntKind.i64.wrap (y78.1 * 32768)))⟩ : S_Mass)] : (List S_Mass)) 208) <|
     .grd ((x61.2.2.1.length + ([(⟨y75.1, (IntKind.i64.wrap (1 + y76.1)), ((IntKind.i64.wrap (y77.1 * 32768)), 0, (IntKind.i64.wrap (y78.1 * 32768)))⟩ : S_Mass)] : (List S_Mass)).length) * 40 ≤ 140737488355328 ∧ (x61.2.2.1.length + ([(⟨y75.1, (IntKind.i64.wrap (1 + y76.1)), ((IntKind.i64.wrap (y77.1 * 32768)), 0, (IntKind.i64.wrap (y78.1 * 32768)))⟩ : S_Mass)] : (List S_Mass)).length) ≤ maxLen) <|
     .ret (.next (y78.2.1, y78.2.2, (x61.2.2.1 ++ ([(⟨y75.1, (IntKind.i64.wrap (1 + y76.1)), ((IntKind.i64.wrap (y77.1 * 32768)), 0, (IntKind.i64.wrap (y78.1 * 32768)))⟩ : S_Mass)] : (List S_Mass))), (IntKind.i64.wrap (x61.2.2.2 - 1)))))
     (.ret (.out (x61.1, x61.2.1, x61.2.2.1))))
   (y51.2.1, y51.2.2, nl, y51.1) [] fun y70 =>
  .ret ((⟨y18.2.2, y70.2.2⟩ : S_Robot), y70.1, y70.2.1)
noncomputable def make_robot_C (a0 : (List Int)) (a1 : Int) : CallS (S_Robot × (List Int) × Int) :=
  mkC [] hd Tryz.func97 (by kernel_rfl) (make_robot_T a0 a1) 1 [.ptr 0 0] [(0, .box [.pure (encL 1 encI_i64 a0), .pure (.int .i64 a1)])] (fun r => .pure (enc_Robot r.1)) (fun r => [(0, .box [.pure (encL 1 encI_i64 r.2.1), .pure (.int .i64 r.2.2)])]) (by kernel_rfl)

noncomputable def make_points_T (a0 : (List Int)) (a1 : Int) (a2 : (Int × Int × Int)) : T ((List (Int × Int × Int)) × (List Int) × Int) :=
  .conv 1001 (cvLit 3 enc_arr_3_int64 ([a2] : (List (Int × Int × Int))) 49) <|
  .call (Source_Next_C a0 a1 4) [(0, 0)] fun y25 =>
  .loop (fun (x33 : ((List Int) × Int × (List (Int × Int × Int)) × Int)) => ⟨[(0, .ptr 0 0), (3, .ptr 1 0), (5, .vec 2), (6, .pure (.int .i64 x33.2.2.2))], [(0, .box [.pure (encL 1 encI_i64 x33.1), .pure (.int .i64 x33.2.1)]), (1, .box [.pure (.int .i64 a2.1), .pure (.int .i64 a2.2.1), .pure (.int .i64 a2.2.2)]), (2, vecO 3 enc_arr_3_int64 x33.2.2.1 49)], [], 3⟩)
   (.exit 0) (fun (y40 : ((List Int) × Int × (List (Int × Int × Int)))) => ⟨[(5, .vec 1)], [(0, .box [.pure (encL 1 encI_i64 y40.1), .pure (.int .i64 y40.2.1)]), (1, vecO 3 enc_arr_3_int64 y40.2.2 49)], [], 2⟩)
   (fun x33 => .br (decide (x33.2.2.2 > 0))
     (.ix 0 3 rfl <|
     .call (Source_Signed_C x33.1 x33.2.1 3) [(0, 0)] fun y44 =>
     .ix 1 3 rfl <|
     .call (Source_Signed_C y44.2.1 y44.2.2 2) [(0, 0)] fun y45 =>
     .ix 2 3 rfl <|
     .call (Source_Signed_C y45.2.1 y45.2.2 2) [(0, 0)] fun y46 =>
     .conv 5020 (cvLit 3 enc_arr_3_int64 ([((IntKind.i64.wrap (a2.1 + (IntKind.i64.wrap (y44.1 * 32768)))), (IntKind.i64.wrap (a2.2.1 + (IntKind.i64.wrap (y45.1 * 32768)))), (IntKind.i64.wrap (a2.2.2 + (IntKind.i64.wrap (y46.1 * 32768)))))] : (List (Int × Int × Int))) 49) <|
     .conv 5021 (cvApp 3 enc_arr_3_int64 x33.2.2.1 ([((IntKind.i64.wrap (a2.1 + (IntKind.i64.wrap (y44.1 * 32768)))), (IntKind.i64.wrap (a2.2.1 + (IntKind.i64.wrap (y45.1 * 32768)))), (IntKind.i64.wrap (a2.2.2 + (IntKind.i64.wrap (y46.1 * 32768)))))] : (List (Int × Int × Int))) 49) <|
     .grd ((x33.2.2.1.length + ([((IntKind.i64.wrap (a2.1 + (IntKind.i64.wrap (y44.1 * 32768)))), (IntKind.i64.wrap (a2.2.1 + (IntKind.i64.wrap (y45.1 * 32768)))), (IntKind.i64.wrap (a2.2.2 + (IntKind.i64.wrap (y46.1 * 32768)))))] : (List (Int × Int × Int))).length) * 24 ≤ 140737488355328 ∧ (x33.2.2.1.length + ([((IntKind.i64.wrap (a2.1 + (IntKind.i64.wrap (y44.1 * 32768)))), (IntKind.i64.wrap (a2.2.1 + (IntKind.i64.wrap (y45.1 * 32768)))), (IntKind.i64.wrap (a2.2.2 + (IntKind.i64.wrap (y46.1 * 32768)))))] : (List (Int × Int × Int))).length) ≤ maxLen) <|
     .ret (.next (y46.2.1, y46.2.2, (x33.2.2.1 ++ ([((IntKind.i64.wrap (a2.1 + (IntKind.i64.wrap (y44.1 * 32768)))), (IntKind.i64.wrap (a2.2.1 + (IntKind.i64.wrap (y45.1 * 32768)))), (IntKind.i64.wrap (a2.2.2 + (IntKind.i64.wrap (y46.1 * 32768)))))] : (List (Int × Int × Int)))), (IntKind.i64.wrap (x33.2.2.2 - 1)))))
     (.ret (.out (x33.1, x33.2.1, x33.2.2.1))))
   (y25.2.1, y25.2.2, ([a2] : (List (Int × Int × Int))), y25.1) [] fun y40 =>
  .ret (y40.2.2, y40.1, y40.2.1)
noncomputable def make_points_C (a0 : (List Int)) (a1 : Int) (a2 : (Int × Int × Int)) : CallS ((List (Int × Int × Int)) × (List Int) × Int) :=
  mkC [] hd Tryz.func98 (by kernel_rfl) (make_points_T a0 a1 a2) 1 [.ptr 0 0, .pure (enc_arr_3_int64 a2)] [(0, .box [.pure (encL 1 encI_i64 a0), .pure (.int .i64 a1)])] (fun r => .pure (encL 3 enc_arr_3_int64 r.1)) (fun r => [(0, .box [.pure (encL 1 encI_i64 r.2.1), .pure (.int .i64 r.2.2)])]) (by kernel_rfl)

set_option maxHeartbeats 8000000 in
set_option maxRecDepth 20000 in
noncomputable def make_Scene_T (a0 : (List Int)) : T S_Scene :=
  .call (make_From_C a0) [] fun y2 =>
  .call (make_robot_C y2.1 y2.2) [(0, 128)] fun y4 =>
  .loop (fun (x73 : ((List Int) × Int × (List S_Shape) × Int)) => ⟨[(2, .ptr 0 0), (3, .ptr 5 0), (4, .ptr 6 0), (5, .pure (.int .i64 x73.2.2.2))], [(0, .box [.vec 1, .vec 2, .vec 3, .vec 4]), (1, .nilv), (2, .nilv), (3, .nilv), (4, .nilv), (5, .box [.pure (encL 1 encI_i64 x73.1), .pure (.int .i64 x73.2.1)]), (6, .box [.pure (encL 12 enc_Joint y4.1.Joints), .pure (encL 5 enc_Mass y4.1.Masses), .vec 7, .vec 8]), (7, vecO 3 enc_Shape x73.2.2.1 108), (8, .nilv)], [], 9⟩)
   (.exit 0) (fun (y90 : ((List Int) × Int × (List S_Shape))) => ⟨[(2, .ptr 0 0), (3, .ptr 5 0), (4, .ptr 6 0)], [(0, .box [.vec 1, .vec 2, .vec 3, .vec 4]), (1, .nilv), (2, .nilv), (3, .nilv), (4, .nilv), (5, .box [.pure (encL 1 encI_i64 y90.1), .pure (.int .i64 y90.2.1)]), (6, .box [.pure (encL 12 enc_Joint y4.1.Joints), .pure (encL 5 enc_Mass y4.1.Masses), .vec 7, .vec 8]), (7, vecO 3 enc_Shape y90.2.2 108), (8, .nilv)], [], 9⟩)
   (fun x73 => .br (decide (x73.2.2.2 < ((y4.1.Joints.length : Nat) : Int)))
     (.cut 0 (fun (y101 : ((List Int) × Int × (List S_Shape))) => ⟨[(2, .ptr 0 0), (3, .ptr 5 0), (4, .ptr 6 0), (5, .pure (.int .i64 x73.2.2.2))], [(0, .box [.vec 1, .vec 2, .vec 3, .vec 4]), (1, .nilv), (2, .nilv), (3, .nilv), (4, .nilv), (5, .box [.pure (encL 1 encI_i64 y101.1), .pure (.int .i64 y101.2.1)]), (6, .box [.pure (encL 12 enc_Joint y4.1.Joints), .pure (encL 5 enc_Mass y4.1.Masses), .vec 7, .vec 8]), (7, vecO 3 enc_Shape y101.2.2 108), (8, .nilv)], [], 9⟩)
      (.call (Source_Next_C x73.1 x73.2.1 5) [(0, 5)] fun y103 =>
      .br (decide (y103.1 < 4))
       (.call (Source_Next_C y103.2.1 y103.2.2 3) [(0, 5)] fun y104 =>
       .ok ((8 : Int) ≠ 0) (by decide) <|
       .call (Source_Next_C y104.2.1 y104.2.2 4) [(0, 5)] fun y105 =>
       .call (make_points_C y105.2.1 y105.2.2 ((IntKind.i64.wrap (y105.1 * 32768)), 0, 0)) [(0, 5)] fun y106 =>
       .conv 7015 (cvLit 3 enc_Shape ([(⟨x73.2.2.2, (IntKind.i64.wrap ((IntKind.i64.wrap ((IntKind.i64.wrap (1 + y104.1)) * 65536)).tdiv 8)), y106.1⟩ : S_Shape)] : (List S_Shape)) 108) <|
       .conv 7016 (cvApp 3 enc_Shape x73.2.2.1 ([(⟨x73.2.2.2, (IntKind.i64.wrap ((IntKind.i64.wrap ((IntKind.i64.wrap (1 + y104.1)) * 65536)).tdiv 8)), y106.1⟩ : S_Shape)] : (List S_Shape)) 108) <|
       .grd ((x73.2.2.1.length + ([(⟨x73.2.2.2, (IntKind.i64.wrap ((IntKind.i64.wrap ((IntKind.i64.wrap (1 + y104.1)) * 65536)).tdiv 8)), y106.1⟩ : S_Shape)] : (List S_Shape)).length) * 40 ≤ 140737488355328 ∧ (x73.2.2.1.length + ([(⟨x73.2.2.2, (IntKind.i64.wrap ((IntKind.i64.wrap ((IntKind.i64.wrap (1 + y104.1)) * 65536)).tdiv 8)), y106.1⟩ : S_Shape)] : (List S_Shape)).length) ≤ maxLen) <|
       .ret (.out (y106.2.1, y106.2.2, (x73.2.2.1 ++ ([(⟨x73.2.2.2, (IntKind.i64.wrap ((IntKind.i64.wrap ((IntKind.i64.wrap (1 + y104.1)) * 65536)).tdiv 8)), y106.1⟩ : S_Shape)] : (List S_Shape))))))
       (.ret (.out (y103.2.1, y103.2.2, x73.2.2.1)))) fun y101 =>
     .ret (.next (y101.1, y101.2.1, y101.2.2, (IntKind.i64.wrap (x73.2.2.2 + 1)))))
     (.ret (.out (x73.1, x73.2.1, x73.2.2.1))))
   (y4.2.1, y4.2.2, nl, 0) [] fun y90 =>
  .call (Source_Next_C y90.1 y90.2.1 3) [(0, 5)] fun y161 =>
  .loop (fun (x179 : ((List Int) × Int × (List S_Shape) × Int)) => ⟨[(2, .ptr 0 0), (3, .ptr 5 0), (4, .ptr 6 0), (6, .pure (.int .i64 x179.2.2.2))], [(0, .box [.vec 1, .vec 2, .vec 3, .vec 4]), (1, .nilv), (2, .nilv), (3, .nilv), (4, .nilv), (5, .box [.pure (encL 1 encI_i64 x179.1), .pure (.int .i64 x179.2.1)]), (6, .box [.pure (encL 12 enc_Joint y4.1.Joints), .pure (encL 5 enc_Mass y4.1.Masses), .vec 7, .vec 8]), (7, vecO 3 enc_Shape x179.2.2.1 108), (8, .nilv)], [], 9⟩)
   (.exit 2) (fun (y196 : ((List Int) × Int × (List S_Shape))) => ⟨[(2, .ptr 0 0), (3, .ptr 5 0), (4, .ptr 6 0)], [(0, .box [.vec 1, .vec 2, .vec 3, .vec 4]), (1, .nilv), (2, .nilv), (3, .nilv), (4, .nilv), (5, .box [.pure (encL 1 encI_i64 y196.1), .pure (.int .i64 y196.2.1)]), (6, .box [.pure (encL 12 enc_Joint y4.1.Joints), .pure (encL 5 enc_Mass y4.1.Masses), .vec 7, .vec 8]), (7, vecO 3 enc_Shape y196.2.2 108), (8, .nilv)], [], 9⟩)
   (fun x179 => .br (decide (x179.2.2.2 > 0))
     (.call (Source_Signed_C x179.1 x179.2.1 9) [(0, 5)] fun y208 =>
     .call (Source_Signed_C y208.2.1 y208.2.2 9) [(0, 5)] fun y209 =>
     .call (Source_Signed_C y209.2.1 y209.2.2 2) [(0, 5)] fun y210 =>
     .call (Source_Next_C y210.2.1 y210.2.2 4) [(0, 5)] fun y211 =>
     .ok ((8 : Int) ≠ 0) (by decide) <|
     .call (make_points_C y211.2.1 y211.2.2 ((IntKind.i64.wrap (y208.1 * 32768)), (IntKind.i64.wrap (y209.1 * 32768)), (IntKind.i64.wrap (y210.1 * 32768)))) [(0, 5)] fun y212 =>
     .conv 12011 (cvLit 3 enc_Shape ([(⟨(-1), (IntKind.i64.wrap ((IntKind.i64.wrap ((IntKind.i64.wrap (1 + y211.1)) * 65536)).tdiv 8)), y212.1⟩ : S_Shape)] : (List S_Shape)) 108) <|
     .conv 12012 (cvApp 3 enc_Shape x179.2.2.1 ([(⟨(-1), (IntKind.i64.wrap ((IntKind.i64.wrap ((IntKind.i64.wrap (1 + y211.1)) * 65536)).tdiv 8)), y212.1⟩ : S_Shape)] : (List S_Shape)) 108) <|
     .grd ((x179.2.2.1.length + ([(⟨(-1), (IntKind.i64.wrap ((IntKind.i64.wrap ((IntKind.i64.wrap (1 + y211.1)) * 65536)).tdiv 8)), y212.1⟩ : S_Shape)] : (List S_Shape)).length) * 40 ≤ 140737488355328 ∧ (x179.2.2.1.length + ([(⟨(-1), (IntKind.i64.wrap ((IntKind.i64.wrap ((IntKind.i64.wrap (1 + y211.1)) * 65536)).tdiv 8)), y212.1⟩ : S_Shape)] : (List S_Shape)).length) ≤ maxLen) <|
     .ret (.next (y212.2.1, y212.2.2, (x179.2.2.1 ++ ([(⟨(-1), (IntKind.i64.wrap ((IntKind.i64.wrap ((IntKind.i64.wrap (1 + y211.1)) * 65536)).tdiv 8)), y212.1⟩ : S_Shape)] : (List S_Shape))), (IntKind.i64.wrap (x179.2.2.2 - 1)))))
     (.ret (.out (x179.1, x179.2.1, x179.2.2.1))))
   (y161.2.1, y161.2.2, y90.2.2, (IntKind.i64.wrap (1 + y161.1))) [] fun y196 =>
  .cut 0 (fun (y219 : (List S_Skip)) => ⟨[(2, .ptr 0 0), (4, .ptr 5 0)], [(0, .box [.vec 1, .vec 2, .vec 3, .vec 4]), (1, .nilv), (2, .nilv), (3, .nilv), (4, .nilv), (5, .box [.pure (encL 12 enc_Joint y4.1.Joints), .pure (encL 5 enc_Mass y4.1.Masses), .vec 6, .vec 7]), (6, vecO 3 enc_Shape y196.2.2 108), (7, vecO 2 enc_Skip y219 154)], [], 8⟩)
   (.call (Source_Next_C y196.1 y196.2.1 5) [(0, 5)] fun y221 =>
   .br (y221.1 == 1)
    (.call (Source_Next_C y221.2.1 y221.2.2 ((y4.1.Joints.length : Nat) : Int)) [(0, 5)] fun y222 =>
    .conv 14009 (cvLit 2 enc_Skip ([(⟨(-1), y222.1⟩ : S_Skip)] : (List S_Skip)) 154) <|
    .grd (([(⟨(-1), y222.1⟩ : S_Skip)] : (List S_Skip)).length * 16 ≤ 140737488355328 ∧ ([(⟨(-1), y222.1⟩ : S_Skip)] : (List S_Skip)).length ≤ maxLen) <|
    .ret (.out ([(⟨(-1), y222.1⟩ : S_Skip)] : (List S_Skip))))
    (.ret (.out nl))) fun y219 =>
  .ret (⟨(⟨y4.1.Joints, y4.1.Masses⟩ : S_Robot), y196.2.2, y219⟩ : S_Scene)
noncomputable def make_Scene_C (a0 : (List Int)) : CallS S_Scene :=
  mkC [] hd Tryz.func44 (by kernel_rfl) (make_Scene_T a0) 0 [.pure (encL 1 encI_i64 a0)] [] (fun r => .pure (enc_Scene r)) (fun _ => []) (by kernel_rfl)

noncomputable def make_Config_T (a0 : S_Robot) (a1 : (List Int)) : T (List Int) :=
  .call (make_From_C a1) [] fun y103 =>
  .loop (fun (x172 : ((List Int) × Int × (List Int) × Int)) => ⟨[(2, .ptr 0 0), (5, .ptr 1 0), (6, .vec 2), (7, .pure (.int .i64 x172.2.2.2))], [(0, .box [.pure (encL 12 enc_Joint a0.Joints), .pure (encL 5 enc_Mass a0.Masses)]), (1, .box [.pure (encL 1 encI_i64 x172.1), .pure (.int .i64 x172.2.1)]), (2, vecO 1 encI_i64 x172.2.2.1 2)], [], 3⟩)
   (.exit 0) (fun (y189 : (List Int)) => ⟨[(6, .vec 0)], [(0, vecO 1 encI_i64 y189 2)], [], 1⟩)
   (fun x172 => .br (decide (x172.2.2.2 < ((a0.Joints.length : Nat) : Int)))
     (.cut 0 (fun (y200 : ((List Int) × Int × (List Int))) => ⟨[(2, .ptr 0 0), (5, .ptr 1 0), (6, .vec 2), (7, .pure (.int .i64 x172.2.2.2))], [(0, .box [.pure (encL 12 enc_Joint a0.Joints), .pure (encL 5 enc_Mass a0.Masses)]), (1, .box [.pure (encL 1 encI_i64 y200.1), .pure (.int .i64 y200.2.1)]), (2, vecO 1 encI_i64 y200.2.2 2)], [], 3⟩)
      (.grd (0 ≤ x172.2.2.2 ∧ x172.2.2.2 < ((a0.Joints.length : Nat) : Int)) <|
      .grd (0 ≤ x172.2.2.2 ∧ x172.2.2.2 < ((a0.Joints.length : Nat) : Int)) <|
      .call (Source_Next_C x172.1 x172.2.1 6) [(0, 1)] fun y202 =>
      .br (y202.1 == 0)
       (.conv 10002 (cvLit 1 encI_i64 ([(a0.Joints.getD ((x172.2.2.2).toNat) default).Lo] : (List Int)) 2) <|
       .conv 10003 (cvApp 1 encI_i64 x172.2.2.1 ([(a0.Joints.getD ((x172.2.2.2).toNat) default).Lo] : (List Int)) 2) <|
       .grd ((x172.2.2.1.length + ([(a0.Joints.getD ((x172.2.2.2).toNat) default).Lo] : (List Int)).length) * 8 ≤ 140737488355328 ∧ (x172.2.2.1.length + ([(a0.Joints.getD ((x172.2.2.2).toNat) default).Lo] : (List Int)).length) ≤ maxLen) <|
       .ret (.out (y202.2.1, y202.2.2, (x172.2.2.1 ++ ([(a0.Joints.getD ((x172.2.2.2).toNat) default).Lo] : (List Int))))))
       (.br (y202.1 == 1)
        (.conv 12002 (cvLit 1 encI_i64 ([(a0.Joints.getD ((x172.2.2.2).toNat) default).Hi] : (List Int)) 2) <|
        .conv 12003 (cvApp 1 encI_i64 x172.2.2.1 ([(a0.Joints.getD ((x172.2.2.2).toNat) default).Hi] : (List Int)) 2) <|
        .grd ((x172.2.2.1.length + ([(a0.Joints.getD ((x172.2.2.2).toNat) default).Hi] : (List Int)).length) * 8 ≤ 140737488355328 ∧ (x172.2.2.1.length + ([(a0.Joints.getD ((x172.2.2.2).toNat) default).Hi] : (List Int)).length) ≤ maxLen) <|
        .ret (.out (y202.2.1, y202.2.2, (x172.2.2.1 ++ ([(a0.Joints.getD ((x172.2.2.2).toNat) default).Hi] : (List Int))))))
        (.name 8005 ((IntKind.i64.wrap (((a0.Joints.getD ((x172.2.2.2).toNat) default).Hi) - ((a0.Joints.getD ((x172.2.2.2).toNat) default).Lo)))) fun z203 =>
        .name 8006 ((IntKind.i64.wrap (z203 + 1))) fun z204 =>
        .call (Source_Next_C y202.2.1 y202.2.2 z204) [(0, 1)] fun y205 =>
        .conv 8009 (cvLit 1 encI_i64 ([(IntKind.i64.wrap (((a0.Joints.getD ((x172.2.2.2).toNat) default).Lo) + y205.1))] : (List Int)) 2) <|
        .conv 8010 (cvApp 1 encI_i64 x172.2.2.1 ([(IntKind.i64.wrap (((a0.Joints.getD ((x172.2.2.2).toNat) default).Lo) + y205.1))] : (List Int)) 2) <|
        .grd ((x172.2.2.1.length + ([(IntKind.i64.wrap (((a0.Joints.getD ((x172.2.2.2).toNat) default).Lo) + y205.1))] : (List Int)).length) * 8 ≤ 140737488355328 ∧ (x172.2.2.1.length + ([(IntKind.i64.wrap (((a0.Joints.getD ((x172.2.2.2).toNat) default).Lo) + y205.1))] : (List Int)).length) ≤ maxLen) <|
        .ret (.out (y205.2.1, y205.2.2, (x172.2.2.1 ++ ([(IntKind.i64.wrap (((a0.Joints.getD ((x172.2.2.2).toNat) default).Lo) + y205.1))] : (List Int)))))))) fun y200 =>
     .ret (.next (y200.1, y200.2.1, y200.2.2, (IntKind.i64.wrap (x172.2.2.2 + 1)))))
     (.ret (.out x172.2.2.1)))
   (y103.1, y103.2, nl, 0) [] fun y189 =>
  .ret y189
noncomputable def make_Config_C (a0 : S_Robot) (a1 : (List Int)) : CallS (List Int) :=
  mkC [] hd Tryz.func42 (by kernel_rfl) (make_Config_T a0 a1) 0 [.pure (enc_Robot a0), .pure (encL 1 encI_i64 a1)] [] (fun _ => .vec 0) (fun r => [(0, vecO 1 encI_i64 r 2)]) (by kernel_rfl)

noncomputable def law20_motion_T (a0 : (List Int)) (a1 : (List Int)) (a2 : (List Int)) (a3 : Int) : T (S_Scene × (List Int) × (List Int) × Int) :=
  .call (make_Scene_C a0) [] fun y37 =>
  .call (make_Config_C y37.Robot a1) [] fun y40 =>
  .call (make_Config_C y37.Robot a2) [] fun y41 =>
  .cut 0 (fun (y60 : (List Int)) => ⟨[(3, .pure (.int .i64 a3)), (8, .ptr 0 0), (12, .ptr 5 0), (13, .vec 6), (14, .vec 7)], [(0, .box [.vec 1, .vec 2, .vec 3, .vec 4]), (1, .nilv), (2, .nilv), (3, .nilv), (4, .nilv), (5, .box [.pure (encL 12 enc_Joint y37.Robot.Joints), .pure (encL 5 enc_Mass y37.Robot.Masses), .pure (encL 3 enc_Shape y37.Shapes), .pure (encL 2 enc_Skip y37.Skips)]), (6, vecO 1 encI_i64 y40 2), (7, vecO 1 encI_i64 y60 2)], [], 8⟩)
   (.br ((IntKind.i64.wrap (((BitVec.ofInt 64 a3 &&& BitVec.ofInt 64 8).toNat : Int))) == 8)
    (.loop (fun (x64 : ((List Int) × Int)) => ⟨[(3, .pure (.int .i64 a3)), (8, .ptr 0 0), (12, .ptr 5 0), (13, .vec 6), (14, .vec 7), (15, .pure (.int .i64 x64.2))], [(0, .box [.vec 1, .vec 2, .vec 3, .vec 4]), (1, .nilv), (2, .nilv), (3, .nilv), (4, .nilv), (5, .box [.pure (encL 12 enc_Joint y37.Robot.Joints), .pure (encL 5 enc_Mass y37.Robot.Masses), .pure (encL 3 enc_Shape y37.Shapes), .pure (encL 2 enc_Skip y37.Skips)]), (6, vecO 1 encI_i64 y40 2), (7, vecO 1 encI_i64 x64.1 2)], [], 8⟩)
     (.exit 0) (fun (y67 : (List Int)) => ⟨[(3, .pure (.int .i64 a3)), (8, .ptr 0 0), (12, .ptr 5 0), (13, .vec 6), (14, .vec 7)], [(0, .box [.vec 1, .vec 2, .vec 3, .vec 4]), (1, .nilv), (2, .nilv), (3, .nilv), (4, .nilv), (5, .box [.pure (encL 12 enc_Joint y37.Robot.Joints), .pure (encL 5 enc_Mass y37.Robot.Masses), .pure (encL 3 enc_Shape y37.Shapes), .pure (encL 2 enc_Skip y37.Skips)]), (6, vecO 1 encI_i64 y40 2), (7, vecO 1 encI_i64 y67 2)], [], 8⟩)
     (fun x64 => .br (decide (x64.2 < ((x64.1.length : Nat) : Int)))
       (.grd (0 ≤ x64.2 ∧ x64.2 < ((y40.length : Nat) : Int)) <|
       .grd ((x64.2).toNat < y40.length) <|
       .grd (0 ≤ x64.2 ∧ x64.2 < ((x64.1.length : Nat) : Int)) <|
       .grd ((x64.2).toNat < x64.1.length) <|
       .grd (0 ≤ x64.2 ∧ x64.2 < ((y40.length : Nat) : Int)) <|
       .grd ((x64.2).toNat < y40.length) <|
       .ok ((16 : Int) ≠ 0) (by decide) <|
       .name 7015 ((IntKind.i64.wrap ((IntKind.i64.wrap ((x64.1.getD ((x64.2).toNat) default) - (y40.getD ((x64.2).toNat) default))).tdiv 16))) fun z69 =>
       .grd (0 ≤ x64.2 ∧ x64.2 < ((x64.1.length : Nat) : Int)) <|
       .conv 7018 (cvSet 1 encI_i64 x64.1 2 ((x64.2).toNat) (IntKind.i64.wrap ((y40.getD ((x64.2).toNat) default) + z69))) <|
       .grd ((x64.2).toNat < x64.1.length ∧ 0 ≤ (x64.2).toNat) <|
       .ret (.next ((x64.1.set ((x64.2).toNat) (IntKind.i64.wrap ((y40.getD ((x64.2).toNat) default) + z69))), (IntKind.i64.wrap (x64.2 + 1)))))
       (.ret (.out x64.1)))
     (y41, 0) [] fun y67 =>
    .ret (.out y67))
    (.ret (.out y41))) fun y60 =>
  .ok (0 ≤ (4 : Int)) (by decide) <|
  .call (make_Round_C (a3.fdiv (2 ^ (min (4 : Int).toNat 64))) 6) [] fun y70 =>
  .ret (y37, y40, y60, y70)
noncomputable def law20_motion_C (a0 : (List Int)) (a1 : (List Int)) (a2 : (List Int)) (a3 : Int) : CallS (S_Scene × (List Int) × (List Int) × Int) :=
  mkC [] hd Tryz.func15 (by kernel_rfl) (law20_motion_T a0 a1 a2 a3) 0 [.pure (encL 1 encI_i64 a0), .pure (encL 1 encI_i64 a1), .pure (encL 1 encI_i64 a2), .pure (.int .i64 a3)] [] (fun r => .tup [.pure (enc_Scene r.1), .pure (encL 1 encI_i64 r.2.1), .pure (encL 1 encI_i64 r.2.2.1), .pure (.int .i64 r.2.2.2)]) (fun _ => []) (by kernel_rfl)

noncomputable def ref6_Name_T (a0 : ByteArray) : T Bool :=
  .cut 2 (fun (y2 : Bool) => ⟨[(0, .pure (.str a0)), (16, .pure (.bool y2))], [], [], 0⟩)
   (.br (decide (((a0.size : Nat) : Int) < 1))
    (.ret (.out true))
    (.br (decide (((a0.size : Nat) : Int) > 16))
     (.ret (.out true))
     (.ret (.out (a0 == (⟨#[119, 111, 114, 108, 100]⟩ : ByteArray)))))) fun y2 =>
  .br y2
   (.ret false)
   (.loop (fun (x23 : Int) => ⟨[(0, .pure (.str a0)), (3, .pure (.int .i64 x23))], [], [], 0⟩)
    (.exit 0) (fun (_ : U0) => ⟨[], [], [], 0⟩)
    (fun x23 => .br (decide (x23 < ((a0.size : Nat) : Int)))
      (.cut 1 (fun (y31 : Bool) => ⟨[(0, .pure (.str a0)), (3, .pure (.int .i64 x23)), (4, .pure (.bool y31))], [], [], 0⟩)
       (.grd (0 ≤ x23 ∧ x23 < ((a0.size : Nat) : Int)) <|
       .br (decide (((a0.data.getD (x23).toNat 0).toNat : Int) ≥ 97))
        (.grd (0 ≤ x23 ∧ x23 < ((a0.size : Nat) : Int)) <|
        .ret (.out (decide (((a0.data.getD (x23).toNat 0).toNat : Int) ≤ 122))))
        (.ret (.out false))) fun y31 =>
      .cut 0 (fun (y32 : Bool) => ⟨[(0, .pure (.str a0)), (3, .pure (.int .i64 x23)), (56, .pure (.bool y32))], [], [], 0⟩)
       (.br (!y31)
        (.br (x23 == 0)
         (.ret (.out true))
         (.grd (0 ≤ x23 ∧ x23 < ((a0.size : Nat) : Int)) <|
         .br (((a0.data.getD (x23).toNat 0).toNat : Int) != 95)
          (.grd (0 ≤ x23 ∧ x23 < ((a0.size : Nat) : Int)) <|
          .br (decide (((a0.data.getD (x23).toNat 0).toNat : Int) < 48))
           (.ret (.out true))
           (.grd (0 ≤ x23 ∧ x23 < ((a0.size : Nat) : Int)) <|
           .ret (.out (decide (((a0.data.getD (x23).toNat 0).toNat : Int) > 57)))))
          (.ret (.out false))))
        (.ret (.out false))) fun y32 =>
      .br y32
       (.ret (.fin false))
       (.ret (.next (IntKind.i64.wrap (x23 + 1)))))
      (.ret (.out .u)))
    0 [] fun _ =>
   .ret true)
noncomputable def ref6_Name_C (a0 : ByteArray) : CallS Bool :=
  mkC [] hd Tryz.func199 (by kernel_rfl) (ref6_Name_T a0) 0 [.pure (.str a0)] [] (fun r => .pure (.bool r)) (fun _ => []) (by kernel_rfl)

noncomputable def ref6_Near_T (a0 : (Int × Int × Int)) (a1 : Int) : T Bool :=
  .unroll 4 <|
  .known true <|
  .cut 1 (fun (y16 : Bool) => ⟨[(1, .pure (.int .i64 a1)), (2, .ptr 0 0), (5, .pure (.int .i64 0)), (22, .pure (.bool y16))], [(0, .box [.pure (.int .i64 a0.1), .pure (.int .i64 a0.2.1), .pure (.int .i64 a0.2.2)])], [], 1⟩)
   (.ix 0 3 rfl <|
   .br (decide (a0.1 < (IntKind.i64.wrap (0 - a1))))
    (.ret (.out true))
    (.ix 0 3 rfl <|
    .ret (.out (decide (a0.1 > a1))))) fun y16 =>
  .br y16
   (.ret false)
   (.lit 3001 (1) <|
   .known true <|
   .cut 1 (fun (y18 : Bool) => ⟨[(1, .pure (.int .i64 a1)), (2, .ptr 0 0), (5, .pure (.int .i64 1)), (22, .pure (.bool y18))], [(0, .box [.pure (.int .i64 a0.1), .pure (.int .i64 a0.2.1), .pure (.int .i64 a0.2.2)])], [], 1⟩)
    (.ix 1 3 rfl <|
    .br (decide (a0.2.1 < (IntKind.i64.wrap (0 - a1))))
     (.ret (.out true))
     (.ix 1 3 rfl <|
     .ret (.out (decide (a0.2.1 > a1))))) fun y18 =>
   .br y18
    (.ret false)
    (.lit 3001 (2) <|
    .known true <|
    .cut 1 (fun (y20 : Bool) => ⟨[(1, .pure (.int .i64 a1)), (2, .ptr 0 0), (5, .pure (.int .i64 2)), (22, .pure (.bool y20))], [(0, .box [.pure (.int .i64 a0.1), .pure (.int .i64 a0.2.1), .pure (.int .i64 a0.2.2)])], [], 1⟩)
     (.ix 2 3 rfl <|
     .br (decide (a0.2.2 < (IntKind.i64.wrap (0 - a1))))
      (.ret (.out true))
      (.ix 2 3 rfl <|
      .ret (.out (decide (a0.2.2 > a1))))) fun y20 =>
    .br y20
     (.ret false)
     (.lit 3001 (3) <|
     .known false <|
     .ret true)))
noncomputable def ref6_Near_C (a0 : (Int × Int × Int)) (a1 : Int) : CallS Bool :=
  mkC [] hd Tryz.func130 (by kernel_rfl) (ref6_Near_T a0 a1) 0 [.pure (enc_arr_3_int64 a0), .pure (.int .i64 a1)] [] (fun r => .pure (.bool r)) (fun _ => []) (by kernel_rfl)

noncomputable def ref6_reach_T (a0 : Int) : T Int :=
  .br (a0 == 0)
   (.ret 0)
   (.cut 0 (fun (y2 : Bool) => ⟨[(6, .pure (.bool y2))], [], [], 0⟩)
    (.br (a0 == 1)
     (.ret (.out (a0 == 1)))
     (.br (a0 == 2)
      (.ret (.out (a0 == 2)))
      (.ret (.out (a0 == 3))))) fun y2 =>
   .br y2
    (.ret 524288)
    (.ret 4194304))
noncomputable def ref6_reach_C (a0 : Int) : CallS Int :=
  mkC [] hd Tryz.func200 (by kernel_rfl) (ref6_reach_T a0) 0 [.pure (.int .i64 a0)] [] (fun r => .pure (.int .i64 r)) (fun _ => []) (by kernel_rfl)

noncomputable def ref6_between_T (a0 : Int) (a1 : Int) (a2 : Int) : T Bool :=
  .br (decide (a1 ≤ a0))
   (.ret (decide (a0 ≤ a2)))
   (.ret false)
noncomputable def ref6_between_C (a0 : Int) (a1 : Int) (a2 : Int) : CallS Bool :=
  mkC [] hd Tryz.func129 (by kernel_rfl) (ref6_between_T a0 a1 a2) 0 [.pure (.int .i64 a0), .pure (.int .i64 a1), .pure (.int .i64 a2)] [] (fun r => .pure (.bool r)) (fun _ => []) (by kernel_rfl)

set_option maxHeartbeats 8000000 in
set_option maxRecDepth 20000 in
noncomputable def ref6_checkJoint_T (a0 : (List S_Joint)) (a1 : Int) : T Int :=
  .grd (0 ≤ a1 ∧ a1 < ((a0.length : Nat) : Int)) <|
  .call (ref6_Name_C ((a0.getD ((a1).toNat) default).Name)) [] fun y4 =>
  .br (!y4)
   (.ret 802)
   (.loop (fun (x9 : Int) => ⟨[(0, .pure (encL 12 enc_Joint a0)), (1, .pure (.int .i64 a1)), (5, .ptr 0 0), (6, .pure (.int .i64 x9))], [(0, .box [.pure (.str ((a0.getD ((a1).toNat) default).Name)), .pure (.int .i64 ((a0.getD ((a1).toNat) default).Kind)), .pure (.int .i64 ((a0.getD ((a1).toNat) default).Parent)), .pure (.int .i64 ((a0.getD ((a1).toNat) default).Offset.1)), .pure (.int .i64 ((a0.getD ((a1).toNat) default).Offset.2.1)), .pure (.int .i64 ((a0.getD ((a1).toNat) default).Offset.2.2)), .pure (.int .i64 ((a0.getD ((a1).toNat) default).Lo)), .pure (.int .i64 ((a0.getD ((a1).toNat) default).Hi)), .pure (.int .i64 ((a0.getD ((a1).toNat) default).Weight)), .pure (.int .i64 ((a0.getD ((a1).toNat) default).Speed)), .pure (.int .i64 ((a0.getD ((a1).toNat) default).Accel)), .pure (.int .i64 ((a0.getD ((a1).toNat) default).Torque))])], [], 1⟩)
    (.exit 0) (fun (_ : U0) => ⟨[(1, .pure (.int .i64 a1)), (5, .ptr 0 0)], [(0, .box [.pure (.str ((a0.getD ((a1).toNat) default).Name)), .pure (.int .i64 ((a0.getD ((a1).toNat) default).Kind)), .pure (.int .i64 ((a0.getD ((a1).toNat) default).Parent)), .pure (.int .i64 ((a0.getD ((a1).toNat) default).Offset.1)), .pure (.int .i64 ((a0.getD ((a1).toNat) default).Offset.2.1)), .pure (.int .i64 ((a0.getD ((a1).toNat) default).Offset.2.2)), .pure (.int .i64 ((a0.getD ((a1).toNat) default).Lo)), .pure (.int .i64 ((a0.getD ((a1).toNat) default).Hi)), .pure (.int .i64 ((a0.getD ((a1).toNat) default).Weight)), .pure (.int .i64 ((a0.getD ((a1).toNat) default).Speed)), .pure (.int .i64 ((a0.getD ((a1).toNat) default).Accel)), .pure (.int .i64 ((a0.getD ((a1).toNat) default).Torque))])], [], 1⟩)
    (fun x9 => .br (decide (x9 < a1))
      (.grd (0 ≤ x9 ∧ x9 < ((a0.length : Nat) : Int)) <|
      .br (((a0.getD ((x9).toNat) default).Name) == ((a0.getD ((a1).toNat) default).Name))
       (.ret (.fin 802))
       (.ret (.next (IntKind.i64.wrap (x9 + 1)))))
      (.ret (.out .u)))
    0 [] fun _ =>
   .cut 1 (fun (y12 : Bool) => ⟨[(1, .pure (.int .i64 a1)), (5, .ptr 0 0), (36, .pure (.bool y12))], [(0, .box [.pure (.str ((a0.getD ((a1).toNat) default).Name)), .pure (.int .i64 ((a0.getD ((a1).toNat) default).Kind)), .pure (.int .i64 ((a0.getD ((a1).toNat) default).Parent)), .pure (.int .i64 ((a0.getD ((a1).toNat) default).Offset.1)), .pure (.int .i64 ((a0.getD ((a1).toNat) default).Offset.2.1)), .pure (.int .i64 ((a0.getD ((a1).toNat) default).Offset.2.2)), .pure (.int .i64 ((a0.getD ((a1).toNat) default).Lo)), .pure (.int .i64 ((a0.getD ((a1).toNat) default).Hi)), .pure (.int .i64 ((a0.getD ((a1).toNat) default).Weight)), .pure (.int .i64 ((a0.getD ((a1).toNat) default).Speed)), .pure (.int .i64 ((a0.getD ((a1).toNat) default).Accel)), .pure (.int .i64 ((a0.getD ((a1).toNat) default).Torque))])], [], 1⟩)
    (.br (decide (((a0.getD ((a1).toNat) default).Kind) < 0))
     (.ret (.out true))
     (.ret (.out (decide (((a0.getD ((a1).toNat) default).Kind) > 6))))) fun y12 =>
   .br y12
    (.ret 803)
    (.cut 1 (fun (y14 : Bool) => ⟨[(5, .ptr 0 0), (45, .pure (.bool y14))], [(0, .box [.pure (.str ((a0.getD ((a1).toNat) default).Name)), .pure (.int .i64 ((a0.getD ((a1).toNat) default).Kind)), .pure (.int .i64 ((a0.getD ((a1).toNat) default).Parent)), .pure (.int .i64 ((a0.getD ((a1).toNat) default).Offset.1)), .pure (.int .i64 ((a0.getD ((a1).toNat) default).Offset.2.1)), .pure (.int .i64 ((a0.getD ((a1).toNat) default).Offset.2.2)), .pure (.int .i64 ((a0.getD ((a1).toNat) default).Lo)), .pure (.int .i64 ((a0.getD ((a1).toNat) default).Hi)), .pure (.int .i64 ((a0.getD ((a1).toNat) default).Weight)), .pure (.int .i64 ((a0.getD ((a1).toNat) default).Speed)), .pure (.int .i64 ((a0.getD ((a1).toNat) default).Accel)), .pure (.int .i64 ((a0.getD ((a1).toNat) default).Torque))])], [], 1⟩)
     (.br (decide (((a0.getD ((a1).toNat) default).Parent) < (-1)))
      (.ret (.out true))
      (.ret (.out (decide (((a0.getD ((a1).toNat) default).Parent) ≥ a1))))) fun y14 =>
    .br y14
     (.ret 804)
     (.call (ref6_Near_C ((a0.getD ((a1).toNat) default).Offset) 4194304) [] fun y18 =>
     .br (!y18)
      (.ret 805)
      (.call (ref6_reach_C ((a0.getD ((a1).toNat) default).Kind)) [] fun y23 =>
      .cut 0 (fun (y24 : Bool) => ⟨[(5, .ptr 0 0), (70, .pure (.bool y24))], [(0, .box [.pure (.str ((a0.getD ((a1).toNat) default).Name)), .pure (.int .i64 ((a0.getD ((a1).toNat) default).Kind)), .pure (.int .i64 ((a0.getD ((a1).toNat) default).Parent)), .pure (.int .i64 ((a0.getD ((a1).toNat) default).Offset.1)), .pure (.int .i64 ((a0.getD ((a1).toNat) default).Offset.2.1)), .pure (.int .i64 ((a0.getD ((a1).toNat) default).Offset.2.2)), .pure (.int .i64 ((a0.getD ((a1).toNat) default).Lo)), .pure (.int .i64 ((a0.getD ((a1).toNat) default).Hi)), .pure (.int .i64 ((a0.getD ((a1).toNat) default).Weight)), .pure (.int .i64 ((a0.getD ((a1).toNat) default).Speed)), .pure (.int .i64 ((a0.getD ((a1).toNat) default).Accel)), .pure (.int .i64 ((a0.getD ((a1).toNat) default).Torque))])], [], 1⟩)
       (.br (decide (((a0.getD ((a1).toNat) default).Lo) > ((a0.getD ((a1).toNat) default).Hi)))
        (.ret (.out true))
        (.br (decide (((a0.getD ((a1).toNat) default).Lo) < (IntKind.i64.wrap (0 - y23))))
         (.ret (.out true))
         (.ret (.out (decide (((a0.getD ((a1).toNat) default).Hi) > y23)))))) fun y24 =>
      .br y24
       (.ret 806)
       (.cut 1 (fun (y46 : Bool) => ⟨[(92, .pure (.bool y46))], [], [], 0⟩)
        (.call (ref6_between_C ((a0.getD ((a1).toNat) default).Weight) 1 1024) [] fun y47 =>
        .br (!y47)
         (.ret (.out true))
         (.call (ref6_between_C ((a0.getD ((a1).toNat) default).Speed) 1 1048576) [] fun y48 =>
         .br (!y48)
          (.ret (.out true))
          (.call (ref6_between_C ((a0.getD ((a1).toNat) default).Accel) 1 1048576) [] fun y49 =>
          .br (!y49)
           (.ret (.out true))
           (.call (ref6_between_C ((a0.getD ((a1).toNat) default).Torque) 1 1099511627776) [] fun y50 =>
           .ret (.out (!y50)))))) fun y46 =>
       .br y46
        (.ret 807)
        (.ret 0))))))
noncomputable def ref6_checkJoint_C (a0 : (List S_Joint)) (a1 : Int) : CallS Int :=
  mkC [] hd Tryz.func145 (by kernel_rfl) (ref6_checkJoint_T a0 a1) 0 [.pure (encL 12 enc_Joint a0), .pure (.int .i64 a1)] [] (fun r => .pure (.int .i64 r)) (fun _ => []) (by kernel_rfl)

noncomputable def ref6_CheckRobot_T (a0 : S_Robot) : T Int :=
  .cut 2 (fun (y2 : Bool) => ⟨[(1, .ptr 0 0), (16, .pure (.bool y2))], [(0, .box [.pure (encL 12 enc_Joint a0.Joints), .pure (encL 5 enc_Mass a0.Masses)])], [], 1⟩)
   (.br (decide (((a0.Joints.length : Nat) : Int) < 1))
    (.ret (.out true))
    (.ret (.out (decide (((a0.Joints.length : Nat) : Int) > 10))))) fun y2 =>
  .br y2
   (.ret 801)
   (.loop (fun (x23 : Int) => ⟨[(1, .ptr 0 0), (3, .pure (.int .i64 x23))], [(0, .box [.pure (encL 12 enc_Joint a0.Joints), .pure (encL 5 enc_Mass a0.Masses)])], [], 1⟩)
    (.exit 0) (fun (_ : U0) => ⟨[(1, .ptr 0 0)], [(0, .box [.pure (encL 12 enc_Joint a0.Joints), .pure (encL 5 enc_Mass a0.Masses)])], [], 1⟩)
    (fun x23 => .br (decide (x23 < ((a0.Joints.length : Nat) : Int)))
      (.call (ref6_checkJoint_C a0.Joints x23) [] fun y32 =>
      .br (y32 != 0)
       (.ret (.fin y32))
       (.ret (.next (IntKind.i64.wrap (x23 + 1)))))
      (.ret (.out .u)))
    0 [] fun _ =>
   .br (decide (((a0.Masses.length : Nat) : Int) > 32))
    (.ret 808)
    (.loop (fun (x93 : Int) => ⟨[(1, .ptr 0 0), (5, .pure (.int .i64 x93))], [(0, .box [.pure (encL 12 enc_Joint a0.Joints), .pure (encL 5 enc_Mass a0.Masses)])], [], 1⟩)
     (.exit 2) (fun (_ : U0) => ⟨[], [], [], 0⟩)
     (fun x93 => .br (decide (x93 < ((a0.Masses.length : Nat) : Int)))
       (.grd (0 ≤ x93 ∧ x93 < ((a0.Masses.length : Nat) : Int)) <|
       .cut 0 (fun (y120 : Bool) => ⟨[(1, .ptr 0 0), (5, .pure (.int .i64 x93)), (69, .pure (.bool y120))], [(0, .box [.pure (encL 12 enc_Joint a0.Joints), .pure (encL 5 enc_Mass a0.Masses)])], [], 1⟩)
        (.br (decide (((a0.Masses.getD ((x93).toNat) default).Link) < 0))
         (.ret (.out true))
         (.br (decide (((a0.Masses.getD ((x93).toNat) default).Link) ≥ ((a0.Joints.length : Nat) : Int)))
          (.ret (.out true))
          (.call (ref6_between_C ((a0.Masses.getD ((x93).toNat) default).Mass) 1 65536) [] fun y121 =>
          .br (!y121)
           (.ret (.out true))
           (.call (ref6_Near_C ((a0.Masses.getD ((x93).toNat) default).Point) 4194304) [] fun y122 =>
           .ret (.out (!y122)))))) fun y120 =>
       .br y120
        (.ret (.fin 808))
        (.ret (.next (IntKind.i64.wrap (x93 + 1)))))
       (.ret (.out .u)))
     0 [] fun _ =>
    .ret 0))
noncomputable def ref6_CheckRobot_C (a0 : S_Robot) : CallS Int :=
  mkC [] hd Tryz.func93 (by kernel_rfl) (ref6_CheckRobot_T a0) 0 [.pure (enc_Robot a0)] [] (fun r => .pure (.int .i64 r)) (fun _ => []) (by kernel_rfl)

noncomputable def ref6_isLink_T (a0 : S_Robot) (a1 : Int) : T Bool :=
  .br (decide (a1 ≥ (-1)))
   (.ret (decide (a1 < ((a0.Joints.length : Nat) : Int))))
   (.ret false)
noncomputable def ref6_isLink_C (a0 : S_Robot) (a1 : Int) : CallS Bool :=
  mkC [] hd Tryz.func128 (by kernel_rfl) (ref6_isLink_T a0 a1) 0 [.pure (enc_Robot a0), .pure (.int .i64 a1)] [] (fun r => .pure (.bool r)) (fun _ => []) (by kernel_rfl)

noncomputable def ref6_CheckScene_T (a0 : S_Scene) : T Int :=
  .call (ref6_CheckRobot_C a0.Robot) [] fun y4 =>
  .br (y4 != 0)
   (.ret y4)
   (.br (decide (((a0.Shapes.length : Nat) : Int) > 24))
    (.ret 901)
    (.loop (fun (x241 : Int) => ⟨[(1, .ptr 0 0), (4, .pure (.int .i64 x241))], [(0, .box [.pure (encL 12 enc_Joint a0.Robot.Joints), .pure (encL 5 enc_Mass a0.Robot.Masses), .pure (encL 3 enc_Shape a0.Shapes), .pure (encL 2 enc_Skip a0.Skips)])], [], 1⟩)
     (.exit 0) (fun (_ : U0) => ⟨[(1, .ptr 0 0)], [(0, .box [.pure (encL 12 enc_Joint a0.Robot.Joints), .pure (encL 5 enc_Mass a0.Robot.Masses), .pure (encL 3 enc_Shape a0.Shapes), .pure (encL 2 enc_Skip a0.Skips)])], [], 1⟩)
     (fun x241 => .br (decide (x241 < ((a0.Shapes.length : Nat) : Int)))
       (.grd (0 ≤ x241 ∧ x241 < ((a0.Shapes.length : Nat) : Int)) <|
       .cut 1 (fun (y341 : Bool) => ⟨[(1, .ptr 0 0), (4, .pure (.int .i64 x241)), (5, .ptr 1 0), (53, .pure (.bool y341))], [(0, .box [.pure (encL 12 enc_Joint a0.Robot.Joints), .pure (encL 5 enc_Mass a0.Robot.Masses), .pure (encL 3 enc_Shape a0.Shapes), .pure (encL 2 enc_Skip a0.Skips)]), (1, .box [.pure (.int .i64 ((a0.Shapes.getD ((x241).toNat) default).Link)), .pure (.int .i64 ((a0.Shapes.getD ((x241).toNat) default).Radius)), .pure (encL 3 enc_arr_3_int64 ((a0.Shapes.getD ((x241).toNat) default).Points))])], [], 2⟩)
        (.call (ref6_isLink_C a0.Robot ((a0.Shapes.getD ((x241).toNat) default).Link)) [] fun y342 =>
        .br (!y342)
         (.ret (.out true))
         (.call (ref6_between_C ((a0.Shapes.getD ((x241).toNat) default).Radius) 1 1048576) [] fun y343 =>
         .br (!y343)
          (.ret (.out true))
          (.br (decide ((((a0.Shapes.getD ((x241).toNat) default).Points.length : Nat) : Int) < 1))
           (.ret (.out true))
           (.ret (.out (decide ((((a0.Shapes.getD ((x241).toNat) default).Points.length : Nat) : Int) > 8))))))) fun y341 =>
       .br y341
        (.ret (.fin 902))
        (.loop (fun (x349 : Int) => ⟨[(1, .ptr 0 0), (4, .pure (.int .i64 x241)), (5, .ptr 1 0), (6, .pure (.int .i64 x349))], [(0, .box [.pure (encL 12 enc_Joint a0.Robot.Joints), .pure (encL 5 enc_Mass a0.Robot.Masses), .pure (encL 3 enc_Shape a0.Shapes), .pure (encL 2 enc_Skip a0.Skips)]), (1, .box [.pure (.int .i64 ((a0.Shapes.getD ((x241).toNat) default).Link)), .pure (.int .i64 ((a0.Shapes.getD ((x241).toNat) default).Radius)), .pure (encL 3 enc_arr_3_int64 ((a0.Shapes.getD ((x241).toNat) default).Points))])], [], 2⟩)
         (.exit 2) (fun (_ : U0) => ⟨[(1, .ptr 0 0), (4, .pure (.int .i64 x241))], [(0, .box [.pure (encL 12 enc_Joint a0.Robot.Joints), .pure (encL 5 enc_Mass a0.Robot.Masses), .pure (encL 3 enc_Shape a0.Shapes), .pure (encL 2 enc_Skip a0.Skips)])], [], 1⟩)
         (fun x349 => .br (decide (x349 < (((a0.Shapes.getD ((x241).toNat) default).Points.length : Nat) : Int)))
           (.grd (0 ≤ x349 ∧ x349 < (((a0.Shapes.getD ((x241).toNat) default).Points.length : Nat) : Int)) <|
           .call (ref6_Near_C (((a0.Shapes.getD ((x241).toNat) default).Points).getD ((x349).toNat) default) 4194304) [] fun y358 =>
           .br (!y358)
            (.ret (.fin (.fin 805)))
            (.ret (.next (IntKind.i64.wrap (x349 + 1)))))
           (.ret (.out .u)))
         0 [] fun _ =>
        .ret (.next (IntKind.i64.wrap (x241 + 1)))))
       (.ret (.out .u)))
     0 [] fun _ =>
    .br (decide (((a0.Skips.length : Nat) : Int) > 64))
     (.ret 903)
     (.loop (fun (x419 : Int) => ⟨[(1, .ptr 0 0), (7, .pure (.int .i64 x419))], [(0, .box [.pure (encL 12 enc_Joint a0.Robot.Joints), .pure (encL 5 enc_Mass a0.Robot.Masses), .pure (encL 3 enc_Shape a0.Shapes), .pure (encL 2 enc_Skip a0.Skips)])], [], 1⟩)
      (.exit 4) (fun (_ : U0) => ⟨[], [], [], 0⟩)
      (fun x419 => .br (decide (x419 < ((a0.Skips.length : Nat) : Int)))
        (.cut 1 (fun (y446 : Bool) => ⟨[(1, .ptr 0 0), (7, .pure (.int .i64 x419)), (100, .pure (.bool y446))], [(0, .box [.pure (encL 12 enc_Joint a0.Robot.Joints), .pure (encL 5 enc_Mass a0.Robot.Masses), .pure (encL 3 enc_Shape a0.Shapes), .pure (encL 2 enc_Skip a0.Skips)])], [], 1⟩)
         (.grd (0 ≤ x419 ∧ x419 < ((a0.Skips.length : Nat) : Int)) <|
         .call (ref6_isLink_C a0.Robot ((a0.Skips.getD ((x419).toNat) default).A)) [] fun y447 =>
         .br (!y447)
          (.ret (.out true))
          (.grd (0 ≤ x419 ∧ x419 < ((a0.Skips.length : Nat) : Int)) <|
          .call (ref6_isLink_C a0.Robot ((a0.Skips.getD ((x419).toNat) default).B)) [] fun y448 =>
          .ret (.out (!y448)))) fun y446 =>
        .br y446
         (.ret (.fin 903))
         (.ret (.next (IntKind.i64.wrap (x419 + 1)))))
        (.ret (.out .u)))
      0 [] fun _ =>
     .ret 0)))
noncomputable def ref6_CheckScene_C (a0 : S_Scene) : CallS Int :=
  mkC [] hd Tryz.func70 (by kernel_rfl) (ref6_CheckScene_T a0) 0 [.pure (enc_Scene a0)] [] (fun r => .pure (.int .i64 r)) (fun _ => []) (by kernel_rfl)

noncomputable def ref10_Inside_T (a0 : S_Robot) (a1 : (List Int)) : T Bool :=
  .cut 2 (fun (y7 : Bool) => ⟨[(1, .pure (encL 1 encI_i64 a1)), (2, .ptr 0 0), (16, .pure (.bool y7))], [(0, .box [.pure (encL 12 enc_Joint a0.Joints), .pure (encL 5 enc_Mass a0.Masses)])], [], 1⟩)
   (.call (ref6_CheckRobot_C a0) [] fun y8 =>
   .br (y8 != 0)
    (.ret (.out true))
    (.ret (.out (((a1.length : Nat) : Int) != ((a0.Joints.length : Nat) : Int))))) fun y7 =>
  .br y7
   (.ret false)
   (.loop (fun (x21 : Int) => ⟨[(1, .pure (encL 1 encI_i64 a1)), (2, .ptr 0 0), (5, .pure (.int .i64 x21))], [(0, .box [.pure (encL 12 enc_Joint a0.Joints), .pure (encL 5 enc_Mass a0.Masses)])], [], 1⟩)
    (.exit 0) (fun (_ : U0) => ⟨[], [], [], 0⟩)
    (fun x21 => .br (decide (x21 < ((a1.length : Nat) : Int)))
      (.cut 1 (fun (y26 : Bool) => ⟨[(1, .pure (encL 1 encI_i64 a1)), (2, .ptr 0 0), (5, .pure (.int .i64 x21)), (46, .pure (.bool y26))], [(0, .box [.pure (encL 12 enc_Joint a0.Joints), .pure (encL 5 enc_Mass a0.Masses)])], [], 1⟩)
       (.grd (0 ≤ x21 ∧ x21 < ((a1.length : Nat) : Int)) <|
       .grd (0 ≤ x21 ∧ x21 < ((a0.Joints.length : Nat) : Int)) <|
       .br (decide ((a1.getD ((x21).toNat) default) < ((a0.Joints.getD ((x21).toNat) default).Lo)))
        (.ret (.out true))
        (.grd (0 ≤ x21 ∧ x21 < ((a1.length : Nat) : Int)) <|
        .grd (0 ≤ x21 ∧ x21 < ((a0.Joints.length : Nat) : Int)) <|
        .ret (.out (decide ((a1.getD ((x21).toNat) default) > ((a0.Joints.getD ((x21).toNat) default).Hi)))))) fun y26 =>
      .br y26
       (.ret (.fin false))
       (.ret (.next (IntKind.i64.wrap (x21 + 1)))))
      (.ret (.out .u)))
    0 [] fun _ =>
   .ret true)
noncomputable def ref10_Inside_C (a0 : S_Robot) (a1 : (List Int)) : CallS Bool :=
  mkC [] hd Tryz.func41 (by kernel_rfl) (ref10_Inside_T a0 a1) 0 [.pure (enc_Robot a0), .pure (encL 1 encI_i64 a1)] [] (fun r => .pure (.bool r)) (fun _ => []) (by kernel_rfl)

noncomputable def ref19_ready_T (a0 : S_Scene) (a1 : (List Int)) (a2 : (List Int)) : T Bool :=
  .call (ref6_CheckScene_C (⟨a0.Robot, a0.Shapes, a0.Skips⟩ : S_Scene)) [] fun y1 =>
  .br (y1 == 0)
   (.call (ref10_Inside_C a0.Robot a1) [] fun y2 =>
   .br y2
    (.call (ref10_Inside_C a0.Robot a2) [] fun y3 =>
    .ret y3)
    (.ret false))
   (.ret false)
noncomputable def ref19_ready_C (a0 : S_Scene) (a1 : (List Int)) (a2 : (List Int)) : CallS Bool :=
  mkC [] hd Tryz.func45 (by kernel_rfl) (ref19_ready_T a0 a1 a2) 0 [.pure (enc_Scene a0), .pure (encL 1 encI_i64 a1), .pure (encL 1 encI_i64 a2)] [] (fun r => .pure (.bool r)) (fun _ => []) (by kernel_rfl)

noncomputable def ref10_small_T (a0 : (List Int)) : T Bool :=
  .loop (fun (x13 : Int) => ⟨[(0, .pure (encL 1 encI_i64 a0)), (3, .pure (.int .i64 x13))], [], [], 0⟩)
   (.exit 0) (fun (_ : U0) => ⟨[], [], [], 0⟩)
   (fun x13 => .br (decide (x13 < ((a0.length : Nat) : Int)))
     (.cut 1 (fun (y18 : Bool) => ⟨[(0, .pure (encL 1 encI_i64 a0)), (3, .pure (.int .i64 x13)), (21, .pure (.bool y18))], [], [], 0⟩)
      (.grd (0 ≤ x13 ∧ x13 < ((a0.length : Nat) : Int)) <|
      .br (decide ((a0.getD ((x13).toNat) default) < (-2147483648)))
       (.ret (.out true))
       (.grd (0 ≤ x13 ∧ x13 < ((a0.length : Nat) : Int)) <|
       .ret (.out (decide ((a0.getD ((x13).toNat) default) > 2147483648))))) fun y18 =>
     .br y18
      (.ret (.fin false))
      (.ret (.next (IntKind.i64.wrap (x13 + 1)))))
     (.ret (.out .u)))
   0 [] fun _ =>
  .ret true
noncomputable def ref10_small_C (a0 : (List Int)) : CallS Bool :=
  mkC [] hd Tryz.func81 (by kernel_rfl) (ref10_small_T a0) 0 [.pure (encL 1 encI_i64 a0)] [] (fun r => .pure (.bool r)) (fun _ => []) (by kernel_rfl)

noncomputable def ref10_pieces_T (a0 : (List Int)) (a1 : (List Int)) (a2 : Int) : T Bool :=
  .call (ref10_small_C a0) [] fun y1 =>
  .br y1
   (.call (ref10_small_C a1) [] fun y2 =>
   .br y2
    (.br (((a0.length : Nat) : Int) == ((a1.length : Nat) : Int))
     (.br (decide (a2 ≥ 0))
      (.ret (decide (a2 ≤ 20)))
      (.ret false))
     (.ret false))
    (.ret false))
   (.ret false)
noncomputable def ref10_pieces_C (a0 : (List Int)) (a1 : (List Int)) (a2 : Int) : CallS Bool :=
  mkC [] hd Tryz.func83 (by kernel_rfl) (ref10_pieces_T a0 a1 a2) 0 [.pure (encL 1 encI_i64 a0), .pure (encL 1 encI_i64 a1), .pure (.int .i64 a2)] [] (fun r => .pure (.bool r)) (fun _ => []) (by kernel_rfl)

noncomputable def ref1_Floor_T (a0 : Int) (a1 : Int) : T Int :=
  .grd (a1 ≠ 0) <|
  .cut 0 (fun (y1 : Int) => ⟨[(5, .pure (.int .i64 y1))], [], [], 0⟩)
   (.grd (a1 ≠ 0) <|
   .br (decide ((a0.tmod a1) < 0))
    (.ret (.out (IntKind.i64.wrap ((IntKind.i64.wrap (a0.tdiv a1)) - 1))))
    (.ret (.out (IntKind.i64.wrap (a0.tdiv a1))))) fun y1 =>
  .ret y1
noncomputable def ref1_Floor_C (a0 : Int) (a1 : Int) : CallS Int :=
  mkC [] hd Tryz.func84 (by kernel_rfl) (ref1_Floor_T a0 a1) 0 [.pure (.int .i64 a0), .pure (.int .i64 a1)] [] (fun r => .pure (.int .i64 r)) (fun _ => []) (by kernel_rfl)

noncomputable def ref1_Ceil_T (a0 : Int) (a1 : Int) : T Int :=
  .grd (a1 ≠ 0) <|
  .cut 0 (fun (y1 : Int) => ⟨[(5, .pure (.int .i64 y1))], [], [], 0⟩)
   (.grd (a1 ≠ 0) <|
   .br (decide ((a0.tmod a1) > 0))
    (.ret (.out (IntKind.i64.wrap ((IntKind.i64.wrap (a0.tdiv a1)) + 1))))
    (.ret (.out (IntKind.i64.wrap (a0.tdiv a1))))) fun y1 =>
  .ret y1
noncomputable def ref1_Ceil_C (a0 : Int) (a1 : Int) : CallS Int :=
  mkC [] hd Tryz.func100 (by kernel_rfl) (ref1_Ceil_T a0 a1) 0 [.pure (.int .i64 a0), .pure (.int .i64 a1)] [] (fun r => .pure (.int .i64 r)) (fun _ => []) (by kernel_rfl)

noncomputable def ref10_Piece_T (a0 : (List Int)) (a1 : (List Int)) (a2 : Int) (a3 : Int) : T ((List S_Interval) × Bool) :=
  .cut 2 (fun (y93 : Bool) => ⟨[(0, .pure (encL 1 encI_i64 a0)), (1, .pure (encL 1 encI_i64 a1)), (2, .pure (.int .i64 a2)), (3, .pure (.int .i64 a3)), (31, .pure (.bool y93))], [], [], 0⟩)
   (.call (ref10_pieces_C a0 a1 a2) [] fun y94 =>
   .br (!y94)
    (.ret (.out true))
    (.br (decide (a3 < 0))
     (.ret (.out true))
     (.grd (0 ≤ (IntKind.u64.wrap a2)) <|
     .ret (.out (decide (a3 ≥ (IntKind.i64.wrap (1 * 2 ^ (min ((IntKind.u64.wrap a2)).toNat 64))))))))) fun y93 =>
  .br y93
   (.ret (nl, false))
   (.grd (0 ≤ (IntKind.u64.wrap a2)) <|
   .loop (fun (x147 : ((List S_Interval) × Int)) => ⟨[(0, .pure (encL 1 encI_i64 a0)), (1, .pure (encL 1 encI_i64 a1)), (3, .pure (.int .i64 a3)), (10, .pure (.int .i64 (IntKind.i64.wrap (1 * 2 ^ (min ((IntKind.u64.wrap a2)).toNat 64))))), (11, .vec 0), (12, .pure (.int .i64 x147.2))], [(0, vecO 2 enc_Interval x147.1 136)], [], 1⟩)
    (.exit 0) (fun (y160 : (List S_Interval)) => ⟨[(11, .vec 0)], [(0, vecO 2 enc_Interval y160 136)], [], 1⟩)
    (fun x147 => .br (decide (x147.2 < ((a0.length : Nat) : Int)))
      (.grd (0 ≤ x147.2 ∧ x147.2 < ((a1.length : Nat) : Int)) <|
      .grd (0 ≤ x147.2 ∧ x147.2 < ((a0.length : Nat) : Int)) <|
      .name 9006 ((IntKind.i64.wrap ((IntKind.i64.wrap (a3 + 1)) * (IntKind.i64.wrap ((a1.getD ((x147.2).toNat) default) - (a0.getD ((x147.2).toNat) default)))))) fun z168 =>
      .grd (0 ≤ x147.2 ∧ x147.2 < ((a0.length : Nat) : Int)) <|
      .name 10007 ((min (IntKind.i64.wrap (a3 * (IntKind.i64.wrap ((a1.getD ((x147.2).toNat) default) - (a0.getD ((x147.2).toNat) default))))) z168)) fun z169 =>
      .call (ref1_Floor_C z169 (IntKind.i64.wrap (1 * 2 ^ (min ((IntKind.u64.wrap a2)).toNat 64)))) [] fun y170 =>
      .grd (0 ≤ x147.2 ∧ x147.2 < ((a0.length : Nat) : Int)) <|
      .name 10017 ((max (IntKind.i64.wrap (a3 * (IntKind.i64.wrap ((a1.getD ((x147.2).toNat) default) - (a0.getD ((x147.2).toNat) default))))) z168)) fun z171 =>
      .call (ref1_Ceil_C z171 (IntKind.i64.wrap (1 * 2 ^ (min ((IntKind.u64.wrap a2)).toNat 64)))) [] fun y172 =>
      .conv 10022 (cvLit 2 enc_Interval ([(⟨(IntKind.i64.wrap ((a0.getD ((x147.2).toNat) default) + y170)), (IntKind.i64.wrap ((a0.getD ((x147.2).toNat) default) + y172))⟩ : S_Interval)] : (List S_Interval)) 136) <|
      .conv 10023 (cvApp 2 enc_Interval x147.1 ([(⟨(IntKind.i64.wrap ((a0.getD ((x147.2).toNat) default) + y170)), (IntKind.i64.wrap ((a0.getD ((x147.2).toNat) default) + y172))⟩ : S_Interval)] : (List S_Interval)) 136) <|
      .grd ((x147.1.length + ([(⟨(IntKind.i64.wrap ((a0.getD ((x147.2).toNat) default) + y170)), (IntKind.i64.wrap ((a0.getD ((x147.2).toNat) default) + y172))⟩ : S_Interval)] : (List S_Interval)).length) * 16 ≤ 140737488355328 ∧ (x147.1.length + ([(⟨(IntKind.i64.wrap ((a0.getD ((x147.2).toNat) default) + y170)), (IntKind.i64.wrap ((a0.getD ((x147.2).toNat) default) + y172))⟩ : S_Interval)] : (List S_Interval)).length) ≤ maxLen) <|
      .ret (.next ((x147.1 ++ ([(⟨(IntKind.i64.wrap ((a0.getD ((x147.2).toNat) default) + y170)), (IntKind.i64.wrap ((a0.getD ((x147.2).toNat) default) + y172))⟩ : S_Interval)] : (List S_Interval))), (IntKind.i64.wrap (x147.2 + 1)))))
      (.ret (.out x147.1)))
    (nl, 0) [] fun y160 =>
   .ret (y160, true))
noncomputable def ref10_Piece_C (a0 : (List Int)) (a1 : (List Int)) (a2 : Int) (a3 : Int) : CallS ((List S_Interval) × Bool) :=
  mkC [] hd Tryz.func46 (by kernel_rfl) (ref10_Piece_T a0 a1 a2 a3) 0 [.pure (encL 1 encI_i64 a0), .pure (encL 1 encI_i64 a1), .pure (.int .i64 a2), .pure (.int .i64 a3)] [] (fun r => .tup [.pure (encL 2 enc_Interval r.1), .pure (.bool r.2)]) (fun _ => []) (by kernel_rfl)

noncomputable def ref1_Valid_T (a0 : S_Interval) : T Bool :=
  .br (decide ((-2147483648) ≤ a0.Lo))
   (.br (decide (a0.Lo ≤ a0.Hi))
    (.ret (decide (a0.Hi ≤ 2147483648)))
    (.ret false))
   (.ret false)
noncomputable def ref1_Valid_C (a0 : S_Interval) : CallS Bool :=
  mkC [] hd Tryz.func211 (by kernel_rfl) (ref1_Valid_T a0) 0 [.pure (enc_Interval a0)] [] (fun r => .pure (.bool r)) (fun _ => []) (by kernel_rfl)

noncomputable def ref10_allValid_T (a0 : (List S_Interval)) : T Bool :=
  .loop (fun (x21 : Int) => ⟨[(0, .pure (encL 2 enc_Interval a0)), (3, .pure (.int .i64 x21))], [], [], 0⟩)
   (.exit 0) (fun (_ : U0) => ⟨[], [], [], 0⟩)
   (fun x21 => .br (decide (x21 < ((a0.length : Nat) : Int)))
     (.grd (0 ≤ x21 ∧ x21 < ((a0.length : Nat) : Int)) <|
     .call (ref1_Valid_C (a0.getD ((x21).toNat) default)) [] fun y30 =>
     .br (!y30)
      (.ret (.fin false))
      (.ret (.next (IntKind.i64.wrap (x21 + 1)))))
     (.ret (.out .u)))
   0 [] fun _ =>
  .ret true
noncomputable def ref10_allValid_C (a0 : (List S_Interval)) : CallS Bool :=
  mkC [] hd Tryz.func202 (by kernel_rfl) (ref10_allValid_T a0) 0 [.pure (encL 2 enc_Interval a0)] [] (fun r => .pure (.bool r)) (fun _ => []) (by kernel_rfl)

noncomputable def ref10_IsBox_T (a0 : S_Robot) (a1 : (List S_Interval)) : T Bool :=
  .br (((a1.length : Nat) : Int) == ((a0.Joints.length : Nat) : Int))
   (.call (ref10_allValid_C a1) [] fun y1 =>
   .ret y1)
   (.ret false)
noncomputable def ref10_IsBox_C (a0 : S_Robot) (a1 : (List S_Interval)) : CallS Bool :=
  mkC [] hd Tryz.func147 (by kernel_rfl) (ref10_IsBox_T a0 a1) 0 [.pure (enc_Robot a0), .pure (encL 2 enc_Interval a1)] [] (fun r => .pure (.bool r)) (fun _ => []) (by kernel_rfl)

noncomputable def ref1_Clamp_T (a0 : Int) : T Int :=
  .ret (max (-2147483648) (min a0 2147483648))
noncomputable def ref1_Clamp_C (a0 : Int) : CallS Int :=
  mkC [] hd Tryz.func285 (by kernel_rfl) (ref1_Clamp_T a0) 0 [.pure (.int .i64 a0)] [] (fun r => .pure (.int .i64 r)) (fun _ => []) (by kernel_rfl)

noncomputable def ref1_Of_T (a0 : Int) : T S_Interval :=
  .call (ref1_Clamp_C a0) [] fun y1 =>
  .call (ref1_Clamp_C a0) [] fun y2 =>
  .ret (⟨y1, y2⟩ : S_Interval)
noncomputable def ref1_Of_C (a0 : Int) : CallS S_Interval :=
  mkC [] hd Tryz.func266 (by kernel_rfl) (ref1_Of_T a0) 0 [.pure (.int .i64 a0)] [] (fun r => .pure (enc_Interval r)) (fun _ => []) (by kernel_rfl)

noncomputable def ref1_Unit_T : T ((S_Interval × S_Interval × S_Interval) × (S_Interval × S_Interval × S_Interval) × (S_Interval × S_Interval × S_Interval)) :=
  .call (ref1_Of_C 65536) [] fun y2 =>
  .ret ((y2, (⟨0, 0⟩ : S_Interval), (⟨0, 0⟩ : S_Interval)), ((⟨0, 0⟩ : S_Interval), y2, (⟨0, 0⟩ : S_Interval)), ((⟨0, 0⟩ : S_Interval), (⟨0, 0⟩ : S_Interval), y2))
noncomputable def ref1_Unit_C : CallS ((S_Interval × S_Interval × S_Interval) × (S_Interval × S_Interval × S_Interval) × (S_Interval × S_Interval × S_Interval)) :=
  mkC [] hd Tryz.func241 (by kernel_rfl) (ref1_Unit_T) 0 [] [] (fun r => .pure (enc_arr_3_3_Interval r)) (fun _ => []) (by kernel_rfl)

noncomputable def ref1_Rest_T : T S_Pose :=
  .call (ref1_Unit_C) [] fun y1 =>
  .ret (⟨y1, ((⟨0, 0⟩ : S_Interval), (⟨0, 0⟩ : S_Interval), (⟨0, 0⟩ : S_Interval))⟩ : S_Pose)
noncomputable def ref1_Rest_C : CallS S_Pose :=
  mkC [] hd Tryz.func204 (by kernel_rfl) (ref1_Rest_T) 0 [] [] (fun r => .pure (enc_Pose r)) (fun _ => []) (by kernel_rfl)

noncomputable def ref1_Mod_T (a0 : Int) : T Int :=
  .ok ((65536 : Int) ≠ 0) (by decide) <|
  .ok ((65536 : Int) ≠ 0) (by decide) <|
  .ret ((IntKind.i64.wrap ((a0.tmod 65536) + 65536)).tmod 65536)
noncomputable def ref1_Mod_C (a0 : Int) : CallS Int :=
  mkC [] hd Tryz.func308 (by kernel_rfl) (ref1_Mod_T a0) 0 [.pure (.int .i64 a0)] [] (fun r => .pure (.int .i64 r)) (fun _ => []) (by kernel_rfl)

noncomputable def ref1_powers_T (a0 : Int) : T ((Int × Int × Int × Int × Int × Int × Int × Int × Int × Int × Int) × (Int × Int × Int × Int × Int × Int × Int × Int × Int × Int × Int)) :=
  .call (ref1_Floor_C (IntKind.i64.wrap (a0 * 6746518852)) 65536) [] fun y2 =>
  .ix 1 11 rfl <|
  .call (ref1_Ceil_C (IntKind.i64.wrap (a0 * 6746518853)) 65536) [] fun y4 =>
  .ix 1 11 rfl <|
  .unroll 10 <|
  .known true <|
  .lit 7002 (1) <|
  .ix 1 11 rfl <|
  .ix 1 11 rfl <|
  .call (ref1_Floor_C (IntKind.i64.wrap (y2 * y2)) 1073741824) [] fun y79 =>
  .ix 2 11 rfl <|
  .lit 8002 (1) <|
  .ix 1 11 rfl <|
  .ix 1 11 rfl <|
  .call (ref1_Ceil_C (IntKind.i64.wrap (y4 * y4)) 1073741824) [] fun y80 =>
  .ix 2 11 rfl <|
  .lit 6001 (3) <|
  .known true <|
  .lit 7002 (2) <|
  .ix 2 11 rfl <|
  .ix 1 11 rfl <|
  .call (ref1_Floor_C (IntKind.i64.wrap (y79 * y2)) 1073741824) [] fun y85 =>
  .ix 3 11 rfl <|
  .lit 8002 (2) <|
  .ix 2 11 rfl <|
  .ix 1 11 rfl <|
  .call (ref1_Ceil_C (IntKind.i64.wrap (y80 * y4)) 1073741824) [] fun y86 =>
  .ix 3 11 rfl <|
  .lit 6001 (4) <|
  .known true <|
  .lit 7002 (3) <|
  .ix 3 11 rfl <|
  .ix 1 11 rfl <|
  .call (ref1_Floor_C (IntKind.i64.wrap (y85 * y2)) 1073741824) [] fun y91 =>
  .ix 4 11 rfl <|
  .lit 8002 (3) <|
  .ix 3 11 rfl <|
  .ix 1 11 rfl <|
  .call (ref1_Ceil_C (IntKind.i64.wrap (y86 * y4)) 1073741824) [] fun y92 =>
  .ix 4 11 rfl <|
  .lit 6001 (5) <|
  .known true <|
  .lit 7002 (4) <|
  .ix 4 11 rfl <|
  .ix 1 11 rfl <|
  .call (ref1_Floor_C (IntKind.i64.wrap (y91 * y2)) 1073741824) [] fun y97 =>
  .ix 5 11 rfl <|
  .lit 8002 (4) <|
  .ix 4 11 rfl <|
  .ix 1 11 rfl <|
  .call (ref1_Ceil_C (IntKind.i64.wrap (y92 * y4)) 1073741824) [] fun y98 =>
  .ix 5 11 rfl <|
  .lit 6001 (6) <|
  .known true <|
  .lit 7002 (5) <|
  .ix 5 11 rfl <|
  .ix 1 11 rfl <|
  .call (ref1_Floor_C (IntKind.i64.wrap (y97 * y2)) 1073741824) [] fun y103 =>
  .ix 6 11 rfl <|
  .lit 8002 (5) <|
  .ix 5 11 rfl <|
  .ix 1 11 rfl <|
  .call (ref1_Ceil_C (IntKind.i64.wrap (y98 * y4)) 1073741824) [] fun y104 =>
  .ix 6 11 rfl <|
  .lit 6001 (7) <|
  .known true <|
  .lit 7002 (6) <|
  .ix 6 11 rfl <|
  .ix 1 11 rfl <|
  .call (ref1_Floor_C (IntKind.i64.wrap (y103 * y2)) 1073741824) [] fun y109 =>
  .ix 7 11 rfl <|
  .lit 8002 (6) <|
  .ix 6 11 rfl <|
  .ix 1 11 rfl <|
  .call (ref1_Ceil_C (IntKind.i64.wrap (y104 * y4)) 1073741824) [] fun y110 =>
  .ix 7 11 rfl <|
  .lit 6001 (8) <|
  .known true <|
  .lit 7002 (7) <|
  .ix 7 11 rfl <|
  .ix 1 11 rfl <|
  .call (ref1_Floor_C (IntKind.i64.wrap (y109 * y2)) 1073741824) [] fun y115 =>
  .ix 8 11 rfl <|
  .lit 8002 (7) <|
  .ix 7 11 rfl <|
  .ix 1 11 rfl <|
  .call (ref1_Ceil_C (IntKind.i64.wrap (y110 * y4)) 1073741824) [] fun y116 =>
  .ix 8 11 rfl <|
  .lit 6001 (9) <|
  .known true <|
  .lit 7002 (8) <|
  .ix 8 11 rfl <|
  .ix 1 11 rfl <|
  .call (ref1_Floor_C (IntKind.i64.wrap (y115 * y2)) 1073741824) [] fun y121 =>
  .ix 9 11 rfl <|
  .lit 8002 (8) <|
  .ix 8 11 rfl <|
  .ix 1 11 rfl <|
  .call (ref1_Ceil_C (IntKind.i64.wrap (y116 * y4)) 1073741824) [] fun y122 =>
  .ix 9 11 rfl <|
  .lit 6001 (10) <|
  .known true <|
  .lit 7002 (9) <|
  .ix 9 11 rfl <|
  .ix 1 11 rfl <|
  .call (ref1_Floor_C (IntKind.i64.wrap (y121 * y2)) 1073741824) [] fun y127 =>
  .ix 10 11 rfl <|
  .lit 8002 (9) <|
  .ix 9 11 rfl <|
  .ix 1 11 rfl <|
  .call (ref1_Ceil_C (IntKind.i64.wrap (y122 * y4)) 1073741824) [] fun y128 =>
  .ix 10 11 rfl <|
  .lit 6001 (11) <|
  .known false <|
  .ret ((0, y2, y79, y85, y91, y97, y103, y109, y115, y121, y127), (0, y4, y80, y86, y92, y98, y104, y110, y116, y122, y128))
noncomputable def ref1_powers_C (a0 : Int) : CallS ((Int × Int × Int × Int × Int × Int × Int × Int × Int × Int × Int) × (Int × Int × Int × Int × Int × Int × Int × Int × Int × Int × Int)) :=
  mkC [] hd Tryz.func320 (by kernel_rfl) (ref1_powers_T a0) 0 [.pure (.int .i64 a0)] [] (fun r => .tup [.pure (enc_arr_11_int64 r.1), .pure (enc_arr_11_int64 r.2)]) (fun _ => []) (by kernel_rfl)

noncomputable def ref1_enclosure_T (a0 : Int) (a1 : Int) : T S_Interval :=
  .call (ref1_Floor_C a0 16384) [] fun y1 =>
  .call (ref1_Ceil_C a1 16384) [] fun y2 =>
  .ret (⟨(max 0 y1), (min 65536 y2)⟩ : S_Interval)
noncomputable def ref1_enclosure_C (a0 : Int) (a1 : Int) : CallS S_Interval :=
  mkC [] hd Tryz.func321 (by kernel_rfl) (ref1_enclosure_T a0 a1) 0 [.pure (.int .i64 a0), .pure (.int .i64 a1)] [] (fun r => .pure (enc_Interval r)) (fun _ => []) (by kernel_rfl)

noncomputable def ref1_sine_T (a0 : Int) : T S_Interval :=
  .call (ref1_powers_C a0) [] fun y2 =>
  .ix 1 11 rfl <|
  .ix 3 11 rfl <|
  .call (ref1_Ceil_C y2.2.2.2.2.1 6) [] fun y6 =>
  .ix 5 11 rfl <|
  .call (ref1_Floor_C y2.1.2.2.2.2.2.1 120) [] fun y7 =>
  .ix 7 11 rfl <|
  .call (ref1_Ceil_C y2.2.2.2.2.2.2.2.2.1 5040) [] fun y8 =>
  .ix 1 11 rfl <|
  .ix 3 11 rfl <|
  .call (ref1_Floor_C y2.1.2.2.2.1 6) [] fun y13 =>
  .ix 5 11 rfl <|
  .call (ref1_Ceil_C y2.2.2.2.2.2.2.1 120) [] fun y14 =>
  .ix 7 11 rfl <|
  .call (ref1_Floor_C y2.1.2.2.2.2.2.2.2.1 5040) [] fun y15 =>
  .ix 9 11 rfl <|
  .call (ref1_Ceil_C y2.2.2.2.2.2.2.2.2.2.2.1 362880) [] fun y16 =>
  .call (ref1_enclosure_C (IntKind.i64.wrap ((IntKind.i64.wrap ((IntKind.i64.wrap (y2.1.2.1 - y6)) + y7)) - y8)) (IntKind.i64.wrap ((IntKind.i64.wrap ((IntKind.i64.wrap ((IntKind.i64.wrap (y2.2.2.1 - y13)) + y14)) - y15)) + y16))) [] fun y17 =>
  .ret y17
noncomputable def ref1_sine_C (a0 : Int) : CallS S_Interval :=
  mkC [] hd Tryz.func313 (by kernel_rfl) (ref1_sine_T a0) 0 [.pure (.int .i64 a0)] [] (fun r => .pure (enc_Interval r)) (fun _ => []) (by kernel_rfl)

noncomputable def ref1_cosine_T (a0 : Int) : T S_Interval :=
  .call (ref1_powers_C a0) [] fun y25 =>
  .ix 2 11 rfl <|
  .call (ref1_Ceil_C y25.2.2.2.1 2) [] fun y32 =>
  .ix 4 11 rfl <|
  .call (ref1_Floor_C y25.1.2.2.2.2.1 24) [] fun y33 =>
  .ix 6 11 rfl <|
  .call (ref1_Ceil_C y25.2.2.2.2.2.2.2.1 720) [] fun y34 =>
  .ix 8 11 rfl <|
  .call (ref1_Floor_C y25.1.2.2.2.2.2.2.2.2.1 40320) [] fun y35 =>
  .ix 10 11 rfl <|
  .call (ref1_Ceil_C y25.2.2.2.2.2.2.2.2.2.2.2 3628800) [] fun y36 =>
  .name 2019 ((IntKind.i64.wrap ((IntKind.i64.wrap ((IntKind.i64.wrap ((IntKind.i64.wrap ((IntKind.i64.wrap (1073741824 - y32)) + y33)) - y34)) + y35)) - y36))) fun z37 =>
  .ix 2 11 rfl <|
  .call (ref1_Floor_C y25.1.2.2.1 2) [] fun y42 =>
  .ix 4 11 rfl <|
  .call (ref1_Ceil_C y25.2.2.2.2.2.1 24) [] fun y43 =>
  .ix 6 11 rfl <|
  .call (ref1_Floor_C y25.1.2.2.2.2.2.2.1 720) [] fun y44 =>
  .ix 8 11 rfl <|
  .call (ref1_Ceil_C y25.2.2.2.2.2.2.2.2.2.1 40320) [] fun y45 =>
  .call (ref1_enclosure_C z37 (IntKind.i64.wrap ((IntKind.i64.wrap ((IntKind.i64.wrap ((IntKind.i64.wrap (1073741824 - y42)) + y43)) - y44)) + y45))) [] fun y46 =>
  .ret y46
noncomputable def ref1_cosine_C (a0 : Int) : CallS S_Interval :=
  mkC [] hd Tryz.func314 (by kernel_rfl) (ref1_cosine_T a0) 0 [.pure (.int .i64 a0)] [] (fun r => .pure (enc_Interval r)) (fun _ => []) (by kernel_rfl)

noncomputable def ref1_Quarter_T (a0 : Int) : T S_Interval :=
  .br (decide (a0 ≤ 8192))
   (.call (ref1_sine_C a0) [] fun y2 =>
   .ret y2)
   (.call (ref1_cosine_C (IntKind.i64.wrap (16384 - a0))) [] fun y3 =>
   .ret y3)
noncomputable def ref1_Quarter_C (a0 : Int) : CallS S_Interval :=
  mkC [] hd Tryz.func309 (by kernel_rfl) (ref1_Quarter_T a0) 0 [.pure (.int .i64 a0)] [] (fun r => .pure (enc_Interval r)) (fun _ => []) (by kernel_rfl)

noncomputable def ref1_Neg_T (a0 : S_Interval) : T S_Interval :=
  .call (ref1_Valid_C a0) [] fun y4 =>
  .br (!y4)
   (.ret (⟨0, 0⟩ : S_Interval))
   (.ret (⟨(IntKind.i64.wrap (0 - a0.Hi)), (IntKind.i64.wrap (0 - a0.Lo))⟩ : S_Interval))
noncomputable def ref1_Neg_C (a0 : S_Interval) : CallS S_Interval :=
  mkC [] hd Tryz.func297 (by kernel_rfl) (ref1_Neg_T a0) 0 [.pure (enc_Interval a0)] [] (fun r => .pure (enc_Interval r)) (fun _ => []) (by kernel_rfl)

noncomputable def ref1_Sin_T (a0 : Int) : T S_Interval :=
  .call (ref1_Mod_C a0) [] fun y2 =>
  .ok ((16384 : Int) ≠ 0) (by decide) <|
  .ok ((16384 : Int) ≠ 0) (by decide) <|
  .br ((IntKind.i64.wrap (y2.tdiv 16384)) == 0)
   (.call (ref1_Quarter_C (y2.tmod 16384)) [] fun y7 =>
   .ret y7)
   (.br ((IntKind.i64.wrap (y2.tdiv 16384)) == 1)
    (.call (ref1_Quarter_C (IntKind.i64.wrap (16384 - (y2.tmod 16384)))) [] fun y8 =>
    .ret y8)
    (.br ((IntKind.i64.wrap (y2.tdiv 16384)) == 2)
     (.call (ref1_Quarter_C (y2.tmod 16384)) [] fun y9 =>
     .call (ref1_Neg_C y9) [] fun y10 =>
     .ret y10)
     (.call (ref1_Quarter_C (IntKind.i64.wrap (16384 - (y2.tmod 16384)))) [] fun y11 =>
     .call (ref1_Neg_C y11) [] fun y12 =>
     .ret y12)))
noncomputable def ref1_Sin_C (a0 : Int) : CallS S_Interval :=
  mkC [] hd Tryz.func302 (by kernel_rfl) (ref1_Sin_T a0) 0 [.pure (.int .i64 a0)] [] (fun r => .pure (enc_Interval r)) (fun _ => []) (by kernel_rfl)

noncomputable def ref1_Cos_T (a0 : Int) : T S_Interval :=
  .call (ref1_Mod_C a0) [] fun y1 =>
  .call (ref1_Sin_C (IntKind.i64.wrap (y1 + 16384))) [] fun y2 =>
  .ret y2
noncomputable def ref1_Cos_C (a0 : Int) : CallS S_Interval :=
  mkC [] hd Tryz.func301 (by kernel_rfl) (ref1_Cos_T a0) 0 [.pure (.int .i64 a0)] [] (fun r => .pure (enc_Interval r)) (fun _ => []) (by kernel_rfl)

noncomputable def ref1_Hull_T (a0 : S_Interval) (a1 : S_Interval) : T S_Interval :=
  .cut 2 (fun (y12 : Bool) => ⟨[(2, .ptr 0 0), (3, .ptr 1 0), (4, .ptr 2 0), (12, .pure (.bool y12))], [(0, .box [.pure (.int .i64 a0.Lo), .pure (.int .i64 a0.Hi)]), (1, .box [.pure (.int .i64 a1.Lo), .pure (.int .i64 a1.Hi)]), (2, .box [.pure (.int .i64 0), .pure (.int .i64 0)])], [], 3⟩)
   (.call (ref1_Valid_C a0) [] fun y13 =>
   .br (!y13)
    (.ret (.out true))
    (.call (ref1_Valid_C a1) [] fun y14 =>
    .ret (.out (!y14)))) fun y12 =>
  .br y12
   (.ret (⟨0, 0⟩ : S_Interval))
   (.ret (⟨(min a0.Lo a1.Lo), (max a0.Hi a1.Hi)⟩ : S_Interval))
noncomputable def ref1_Hull_C (a0 : S_Interval) (a1 : S_Interval) : CallS S_Interval :=
  mkC [] hd Tryz.func306 (by kernel_rfl) (ref1_Hull_T a0 a1) 0 [.pure (enc_Interval a0), .pure (enc_Interval a1)] [] (fun r => .pure (enc_Interval r)) (fun _ => []) (by kernel_rfl)

noncomputable def ref1_meets_T (a0 : S_Interval) (a1 : Int) : T Bool :=
  .call (ref1_Mod_C (IntKind.i64.wrap (a1 - a0.Lo))) [] fun y1 =>
  .ret (decide ((IntKind.i64.wrap (a0.Lo + y1)) ≤ a0.Hi))
noncomputable def ref1_meets_C (a0 : S_Interval) (a1 : Int) : CallS Bool :=
  mkC [] hd Tryz.func307 (by kernel_rfl) (ref1_meets_T a0 a1) 0 [.pure (enc_Interval a0), .pure (.int .i64 a1)] [] (fun r => .pure (.bool r)) (fun _ => []) (by kernel_rfl)

noncomputable def ref1_over_T (a0 : S_Interval) (a1 : S_Interval) (a2 : S_Interval) (a3 : Int) (a4 : Int) : T S_Interval :=
  .call (ref1_Valid_C a0) [] fun y4 =>
  .br (!y4)
   (.ret (⟨0, 0⟩ : S_Interval))
   (.br (decide ((IntKind.i64.wrap (a0.Hi - a0.Lo)) ≥ 65536))
    (.ret (⟨(-65536), 65536⟩ : S_Interval))
    (.call (ref1_Hull_C a1 a2) [] fun y6 =>
    .cut 0 (fun (y15 : (Int × Int)) => ⟨[(4, .pure (.int .i64 a4)), (5, .ptr 0 0), (10, .ptr 1 0), (11, .ptr 2 0)], [(0, .box [.pure (.int .i64 a0.Lo), .pure (.int .i64 a0.Hi)]), (1, .box [.pure (.int .i64 0), .pure (.int .i64 0)]), (2, .box [.pure (.int .i64 y15.1), .pure (.int .i64 y15.2)])], [], 3⟩)
     (.call (ref1_meets_C a0 a3) [] fun y17 =>
     .br y17
      (.call (ref1_Of_C 65536) [] fun y18 =>
      .call (ref1_Hull_C y6 y18) [] fun y19 =>
      .ret (.out (y19.Lo, y19.Hi)))
      (.ret (.out (y6.Lo, y6.Hi)))) fun y15 =>
    .cut 0 (fun (y28 : (Int × Int)) => ⟨[(10, .ptr 0 0), (11, .ptr 1 0)], [(0, .box [.pure (.int .i64 0), .pure (.int .i64 0)]), (1, .box [.pure (.int .i64 y28.1), .pure (.int .i64 y28.2)])], [], 2⟩)
     (.call (ref1_meets_C a0 a4) [] fun y30 =>
     .br y30
      (.call (ref1_Of_C (-65536)) [] fun y31 =>
      .call (ref1_Hull_C (⟨y15.1, y15.2⟩ : S_Interval) y31) [] fun y32 =>
      .ret (.out (y32.Lo, y32.Hi)))
      (.ret (.out (y15.1, y15.2)))) fun y28 =>
    .ret (⟨y28.1, y28.2⟩ : S_Interval)))
noncomputable def ref1_over_C (a0 : S_Interval) (a1 : S_Interval) (a2 : S_Interval) (a3 : Int) (a4 : Int) : CallS S_Interval :=
  mkC [] hd Tryz.func300 (by kernel_rfl) (ref1_over_T a0 a1 a2 a3 a4) 0 [.pure (enc_Interval a0), .pure (enc_Interval a1), .pure (enc_Interval a2), .pure (.int .i64 a3), .pure (.int .i64 a4)] [] (fun r => .pure (enc_Interval r)) (fun _ => []) (by kernel_rfl)

noncomputable def ref1_CosOver_T (a0 : S_Interval) : T S_Interval :=
  .call (ref1_Cos_C a0.Lo) [] fun y1 =>
  .call (ref1_Cos_C a0.Hi) [] fun y2 =>
  .call (ref1_over_C a0 (⟨y1.Lo, y1.Hi⟩ : S_Interval) (⟨y2.Lo, y2.Hi⟩ : S_Interval) 0 32768) [] fun y3 =>
  .ret y3
noncomputable def ref1_CosOver_C (a0 : S_Interval) : CallS S_Interval :=
  mkC [] hd Tryz.func295 (by kernel_rfl) (ref1_CosOver_T a0) 0 [.pure (enc_Interval a0)] [] (fun r => .pure (enc_Interval r)) (fun _ => []) (by kernel_rfl)

noncomputable def ref1_SinOver_T (a0 : S_Interval) : T S_Interval :=
  .call (ref1_Sin_C a0.Lo) [] fun y1 =>
  .call (ref1_Sin_C a0.Hi) [] fun y2 =>
  .call (ref1_over_C a0 y1 y2 16384 49152) [] fun y3 =>
  .ret y3
noncomputable def ref1_SinOver_C (a0 : S_Interval) : CallS S_Interval :=
  mkC [] hd Tryz.func296 (by kernel_rfl) (ref1_SinOver_T a0) 0 [.pure (enc_Interval a0)] [] (fun r => .pure (enc_Interval r)) (fun _ => []) (by kernel_rfl)

noncomputable def ref1_Turn_T (a0 : Int) (a1 : S_Interval) : T ((S_Interval × S_Interval × S_Interval) × (S_Interval × S_Interval × S_Interval) × (S_Interval × S_Interval × S_Interval)) :=
  .call (ref1_Valid_C a1) [] fun y4 =>
  .br (!y4)
   (.ret (((⟨0, 0⟩ : S_Interval), (⟨0, 0⟩ : S_Interval), (⟨0, 0⟩ : S_Interval)), ((⟨0, 0⟩ : S_Interval), (⟨0, 0⟩ : S_Interval), (⟨0, 0⟩ : S_Interval)), ((⟨0, 0⟩ : S_Interval), (⟨0, 0⟩ : S_Interval), (⟨0, 0⟩ : S_Interval))))
   (.call (ref1_Of_C 65536) [] fun y8 =>
   .call (ref1_CosOver_C (⟨a1.Lo, a1.Hi⟩ : S_Interval)) [] fun y9 =>
   .call (ref1_SinOver_C (⟨a1.Lo, a1.Hi⟩ : S_Interval)) [] fun y10 =>
   .call (ref1_Neg_C y10) [] fun y12 =>
   .br (a0 == 0)
    (.ret ((y8, (⟨0, 0⟩ : S_Interval), (⟨0, 0⟩ : S_Interval)), ((⟨0, 0⟩ : S_Interval), y9, y12), ((⟨0, 0⟩ : S_Interval), y10, y9)))
    (.br (a0 == 1)
     (.ret ((y9, (⟨0, 0⟩ : S_Interval), y10), ((⟨0, 0⟩ : S_Interval), y8, (⟨0, 0⟩ : S_Interval)), (y12, (⟨0, 0⟩ : S_Interval), y9)))
     (.br (a0 == 2)
      (.ret ((y9, y12, (⟨0, 0⟩ : S_Interval)), (y10, y9, (⟨0, 0⟩ : S_Interval)), ((⟨0, 0⟩ : S_Interval), (⟨0, 0⟩ : S_Interval), y8)))
      (.ret (((⟨0, 0⟩ : S_Interval), (⟨0, 0⟩ : S_Interval), (⟨0, 0⟩ : S_Interval)), ((⟨0, 0⟩ : S_Interval), (⟨0, 0⟩ : S_Interval), (⟨0, 0⟩ : S_Interval)), ((⟨0, 0⟩ : S_Interval), (⟨0, 0⟩ : S_Interval), (⟨0, 0⟩ : S_Interval)))))))
noncomputable def ref1_Turn_C (a0 : Int) (a1 : S_Interval) : CallS ((S_Interval × S_Interval × S_Interval) × (S_Interval × S_Interval × S_Interval) × (S_Interval × S_Interval × S_Interval)) :=
  mkC [] hd Tryz.func282 (by kernel_rfl) (ref1_Turn_T a0 a1) 0 [.pure (.int .i64 a0), .pure (enc_Interval a1)] [] (fun r => .pure (enc_arr_3_3_Interval r)) (fun _ => []) (by kernel_rfl)

noncomputable def ref1_TurnPose_T (a0 : Int) (a1 : S_Interval) : T S_Pose :=
  .call (ref1_Turn_C a0 (⟨a1.Lo, a1.Hi⟩ : S_Interval)) [] fun y1 =>
  .ret (⟨y1, ((⟨0, 0⟩ : S_Interval), (⟨0, 0⟩ : S_Interval), (⟨0, 0⟩ : S_Interval))⟩ : S_Pose)
noncomputable def ref1_TurnPose_C (a0 : Int) (a1 : S_Interval) : CallS S_Pose :=
  mkC [] hd Tryz.func261 (by kernel_rfl) (ref1_TurnPose_T a0 a1) 0 [.pure (.int .i64 a0), .pure (enc_Interval a1)] [] (fun r => .pure (enc_Pose r)) (fun _ => []) (by kernel_rfl)

noncomputable def ref1_Shift_T (a0 : (S_Interval × S_Interval × S_Interval)) : T S_Pose :=
  .call (ref1_Unit_C) [] fun y1 =>
  .ret (⟨y1, a0⟩ : S_Pose)
noncomputable def ref1_Shift_C (a0 : (S_Interval × S_Interval × S_Interval)) : CallS S_Pose :=
  mkC [] hd Tryz.func262 (by kernel_rfl) (ref1_Shift_T a0) 0 [.pure (enc_arr_3_Interval a0)] [] (fun r => .pure (enc_Pose r)) (fun _ => []) (by kernel_rfl)

noncomputable def ref1_Point_T (a0 : (Int × Int × Int)) : T (S_Interval × S_Interval × S_Interval) :=
  .ix 0 3 rfl <|
  .call (ref1_Of_C a0.1) [] fun y1 =>
  .ix 1 3 rfl <|
  .call (ref1_Of_C a0.2.1) [] fun y2 =>
  .ix 2 3 rfl <|
  .call (ref1_Of_C a0.2.2) [] fun y3 =>
  .ret (y1, y2, y3)
noncomputable def ref1_Point_C (a0 : (Int × Int × Int)) : CallS (S_Interval × S_Interval × S_Interval) :=
  mkC [] hd Tryz.func244 (by kernel_rfl) (ref1_Point_T a0) 0 [.pure (enc_arr_3_int64 a0)] [] (fun r => .pure (enc_arr_3_Interval r)) (fun _ => []) (by kernel_rfl)

noncomputable def ref1_limited_T (a0 : Int) (a1 : Int) : T S_Interval :=
  .call (ref1_Clamp_C a0) [] fun y1 =>
  .call (ref1_Clamp_C a1) [] fun y2 =>
  .ret (⟨y1, y2⟩ : S_Interval)
noncomputable def ref1_limited_C (a0 : Int) (a1 : Int) : CallS S_Interval :=
  mkC [] hd Tryz.func298 (by kernel_rfl) (ref1_limited_T a0 a1) 0 [.pure (.int .i64 a0), .pure (.int .i64 a1)] [] (fun r => .pure (enc_Interval r)) (fun _ => []) (by kernel_rfl)

noncomputable def ref1_Mul_T (a0 : S_Interval) (a1 : S_Interval) : T S_Interval :=
  .cut 2 (fun (y31 : Bool) => ⟨[(2, .ptr 0 0), (3, .ptr 1 0), (4, .ptr 2 0), (16, .pure (.bool y31))], [(0, .box [.pure (.int .i64 a0.Lo), .pure (.int .i64 a0.Hi)]), (1, .box [.pure (.int .i64 a1.Lo), .pure (.int .i64 a1.Hi)]), (2, .box [.pure (.int .i64 0), .pure (.int .i64 0)])], [], 3⟩)
   (.call (ref1_Valid_C (⟨a0.Lo, a0.Hi⟩ : S_Interval)) [] fun y32 =>
   .br (!y32)
    (.ret (.out true))
    (.call (ref1_Valid_C (⟨a1.Lo, a1.Hi⟩ : S_Interval)) [] fun y33 =>
    .ret (.out (!y33)))) fun y31 =>
  .br y31
   (.ret (⟨0, 0⟩ : S_Interval))
   (.name 4004 ((min (min (min (IntKind.i64.wrap (a0.Lo * a1.Lo)) (IntKind.i64.wrap (a0.Lo * a1.Hi))) (IntKind.i64.wrap (a0.Hi * a1.Lo))) (IntKind.i64.wrap (a0.Hi * a1.Hi)))) fun z34 =>
   .call (ref1_Floor_C z34 65536) [] fun y35 =>
   .name 4010 ((max (max (max (IntKind.i64.wrap (a0.Lo * a1.Lo)) (IntKind.i64.wrap (a0.Lo * a1.Hi))) (IntKind.i64.wrap (a0.Hi * a1.Lo))) (IntKind.i64.wrap (a0.Hi * a1.Hi)))) fun z36 =>
   .call (ref1_Ceil_C z36 65536) [] fun y37 =>
   .call (ref1_limited_C y35 y37) [] fun y38 =>
   .ret y38)
noncomputable def ref1_Mul_C (a0 : S_Interval) (a1 : S_Interval) : CallS S_Interval :=
  mkC [] hd Tryz.func284 (by kernel_rfl) (ref1_Mul_T a0 a1) 0 [.pure (enc_Interval a0), .pure (enc_Interval a1)] [] (fun r => .pure (enc_Interval r)) (fun _ => []) (by kernel_rfl)

noncomputable def ref1_Add_T (a0 : S_Interval) (a1 : S_Interval) : T S_Interval :=
  .cut 2 (fun (y12 : Bool) => ⟨[(2, .ptr 0 0), (3, .ptr 1 0), (4, .ptr 2 0), (12, .pure (.bool y12))], [(0, .box [.pure (.int .i64 a0.Lo), .pure (.int .i64 a0.Hi)]), (1, .box [.pure (.int .i64 a1.Lo), .pure (.int .i64 a1.Hi)]), (2, .box [.pure (.int .i64 0), .pure (.int .i64 0)])], [], 3⟩)
   (.call (ref1_Valid_C a0) [] fun y13 =>
   .br (!y13)
    (.ret (.out true))
    (.call (ref1_Valid_C a1) [] fun y14 =>
    .ret (.out (!y14)))) fun y12 =>
  .br y12
   (.ret (⟨0, 0⟩ : S_Interval))
   (.call (ref1_limited_C (IntKind.i64.wrap (a0.Lo + a1.Lo)) (IntKind.i64.wrap (a0.Hi + a1.Hi))) [] fun y15 =>
   .ret y15)
noncomputable def ref1_Add_C (a0 : S_Interval) (a1 : S_Interval) : CallS S_Interval :=
  mkC [] hd Tryz.func283 (by kernel_rfl) (ref1_Add_T a0 a1) 0 [.pure (enc_Interval a0), .pure (enc_Interval a1)] [] (fun r => .pure (enc_Interval r)) (fun _ => []) (by kernel_rfl)

noncomputable def ref1_ComposeMat_T (a0 : ((S_Interval × S_Interval × S_Interval) × (S_Interval × S_Interval × S_Interval) × (S_Interval × S_Interval × S_Interval))) (a1 : ((S_Interval × S_Interval × S_Interval) × (S_Interval × S_Interval × S_Interval) × (S_Interval × S_Interval × S_Interval))) : T ((S_Interval × S_Interval × S_Interval) × (S_Interval × S_Interval × S_Interval) × (S_Interval × S_Interval × S_Interval)) :=
  .unroll 4 <|
  .known true <|
  .unroll 4 <|
  .known true <|
  .ix 0 3 rfl <|
  .ix 0 3 rfl <|
  .ix 0 3 rfl <|
  .ix 0 3 rfl <|
  .call (ref1_Mul_C a0.1.1 a1.1.1) [] fun y946 =>
  .ix 0 3 rfl <|
  .ix 1 3 rfl <|
  .ix 1 3 rfl <|
  .ix 0 3 rfl <|
  .call (ref1_Mul_C a0.1.2.1 a1.2.1.1) [] fun y947 =>
  .call (ref1_Add_C y946 y947) [] fun y948 =>
  .ix 0 3 rfl <|
  .ix 2 3 rfl <|
  .ix 2 3 rfl <|
  .ix 0 3 rfl <|
  .call (ref1_Mul_C a0.1.2.2 a1.2.2.1) [] fun y949 =>
  .call (ref1_Add_C y948 y949) [] fun y950 =>
  .ix 0 3 rfl <|
  .ix 0 3 rfl <|
  .lit 7001 (1) <|
  .known true <|
  .ix 0 3 rfl <|
  .ix 0 3 rfl <|
  .ix 0 3 rfl <|
  .ix 1 3 rfl <|
  .call (ref1_Mul_C a0.1.1 a1.1.2.1) [] fun y966 =>
  .ix 0 3 rfl <|
  .ix 1 3 rfl <|
  .ix 1 3 rfl <|
  .ix 1 3 rfl <|
  .call (ref1_Mul_C a0.1.2.1 a1.2.1.2.1) [] fun y967 =>
  .call (ref1_Add_C y966 y967) [] fun y968 =>
  .ix 0 3 rfl <|
  .ix 2 3 rfl <|
  .ix 2 3 rfl <|
  .ix 1 3 rfl <|
  .call (ref1_Mul_C a0.1.2.2 a1.2.2.2.1) [] fun y969 =>
  .call (ref1_Add_C y968 y969) [] fun y970 =>
  .ix 0 3 rfl <|
  .ix 1 3 rfl <|
  .lit 7001 (2) <|
  .known true <|
  .ix 0 3 rfl <|
  .ix 0 3 rfl <|
  .ix 0 3 rfl <|
  .ix 2 3 rfl <|
  .call (ref1_Mul_C a0.1.1 a1.1.2.2) [] fun y986 =>
  .ix 0 3 rfl <|
  .ix 1 3 rfl <|
  .ix 1 3 rfl <|
  .ix 2 3 rfl <|
  .call (ref1_Mul_C a0.1.2.1 a1.2.1.2.2) [] fun y987 =>
  .call (ref1_Add_C y986 y987) [] fun y988 =>
  .ix 0 3 rfl <|
  .ix 2 3 rfl <|
  .ix 2 3 rfl <|
  .ix 2 3 rfl <|
  .call (ref1_Mul_C a0.1.2.2 a1.2.2.2.2) [] fun y989 =>
  .call (ref1_Add_C y988 y989) [] fun y990 =>
  .ix 0 3 rfl <|
  .ix 2 3 rfl <|
  .lit 7001 (3) <|
  .known false <|
  .lit 4001 (1) <|
  .known true <|
  .unroll 4 <|
  .known true <|
  .ix 1 3 rfl <|
  .ix 0 3 rfl <|
  .ix 0 3 rfl <|
  .ix 0 3 rfl <|
  .call (ref1_Mul_C a0.2.1.1 a1.1.1) [] fun y1110 =>
  .ix 1 3 rfl <|
  .ix 1 3 rfl <|
  .ix 1 3 rfl <|
  .ix 0 3 rfl <|
  .call (ref1_Mul_C a0.2.1.2.1 a1.2.1.1) [] fun y1111 =>
  .call (ref1_Add_C y1110 y1111) [] fun y1112 =>
  .ix 1 3 rfl <|
  .ix 2 3 rfl <|
  .ix 2 3 rfl <|
  .ix 0 3 rfl <|
  .call (ref1_Mul_C a0.2.1.2.2 a1.2.2.1) [] fun y1113 =>
  .call (ref1_Add_C y1112 y1113) [] fun y1114 =>
  .ix 1 3 rfl <|
  .ix 0 3 rfl <|
  .lit 7001 (1) <|
  .known true <|
  .ix 1 3 rfl <|
  .ix 0 3 rfl <|
  .ix 0 3 rfl <|
  .ix 1 3 rfl <|
  .call (ref1_Mul_C a0.2.1.1 a1.1.2.1) [] fun y1130 =>
  .ix 1 3 rfl <|
  .ix 1 3 rfl <|
  .ix 1 3 rfl <|
  .ix 1 3 rfl <|
  .call (ref1_Mul_C a0.2.1.2.1 a1.2.1.2.1) [] fun y1131 =>
  .call (ref1_Add_C y1130 y1131) [] fun y1132 =>
  .ix 1 3 rfl <|
  .ix 2 3 rfl <|
  .ix 2 3 rfl <|
  .ix 1 3 rfl <|
  .call (ref1_Mul_C a0.2.1.2.2 a1.2.2.2.1) [] fun y1133 =>
  .call (ref1_Add_C y1132 y1133) [] fun y1134 =>
  .ix 1 3 rfl <|
  .ix 1 3 rfl <|
  .lit 7001 (2) <|
  .known true <|
  .ix 1 3 rfl <|
  .ix 0 3 rfl <|
  .ix 0 3 rfl <|
  .ix 2 3 rfl <|
  .call (ref1_Mul_C a0.2.1.1 a1.1.2.2) [] fun y1150 =>
  .ix 1 3 rfl <|
  .ix 1 3 rfl <|
  .ix 1 3 rfl <|
  .ix 2 3 rfl <|
  .call (ref1_Mul_C a0.2.1.2.1 a1.2.1.2.2) [] fun y1151 =>
  .call (ref1_Add_C y1150 y1151) [] fun y1152 =>
  .ix 1 3 rfl <|
  .ix 2 3 rfl <|
  .ix 2 3 rfl <|
  .ix 2 3 rfl <|
  .call (ref1_Mul_C a0.2.1.2.2 a1.2.2.2.2) [] fun y1153 =>
  .call (ref1_Add_C y1152 y1153) [] fun y1154 =>
  .ix 1 3 rfl <|
  .ix 2 3 rfl <|
  .lit 7001 (3) <|
  .known false <|
  .lit 4001 (2) <|
  .known true <|
  .unroll 4 <|
  .known true <|
  .ix 2 3 rfl <|
  .ix 0 3 rfl <|
  .ix 0 3 rfl <|
  .ix 0 3 rfl <|
  .call (ref1_Mul_C a0.2.2.1 a1.1.1) [] fun y1274 =>
  .ix 2 3 rfl <|
  .ix 1 3 rfl <|
  .ix 1 3 rfl <|
  .ix 0 3 rfl <|
  .call (ref1_Mul_C a0.2.2.2.1 a1.2.1.1) [] fun y1275 =>
  .call (ref1_Add_C y1274 y1275) [] fun y1276 =>
  .ix 2 3 rfl <|
  .ix 2 3 rfl <|
  .ix 2 3 rfl <|
  .ix 0 3 rfl <|
  .call (ref1_Mul_C a0.2.2.2.2 a1.2.2.1) [] fun y1277 =>
  .call (ref1_Add_C y1276 y1277) [] fun y1278 =>
  .ix 2 3 rfl <|
  .ix 0 3 rfl <|
  .lit 7001 (1) <|
  .known true <|
  .ix 2 3 rfl <|
  .ix 0 3 rfl <|
  .ix 0 3 rfl <|
  .ix 1 3 rfl <|
  .call (ref1_Mul_C a0.2.2.1 a1.1.2.1) [] fun y1294 =>
  .ix 2 3 rfl <|
  .ix 1 3 rfl <|
  .ix 1 3 rfl <|
  .ix 1 3 rfl <|
  .call (ref1_Mul_C a0.2.2.2.1 a1.2.1.2.1) [] fun y1295 =>
  .call (ref1_Add_C y1294 y1295) [] fun y1296 =>
  .ix 2 3 rfl <|
  .ix 2 3 rfl <|
  .ix 2 3 rfl <|
  .ix 1 3 rfl <|
  .call (ref1_Mul_C a0.2.2.2.2 a1.2.2.2.1) [] fun y1297 =>
  .call (ref1_Add_C y1296 y1297) [] fun y1298 =>
  .ix 2 3 rfl <|
  .ix 1 3 rfl <|
  .lit 7001 (2) <|
  .known true <|
  .ix 2 3 rfl <|
  .ix 0 3 rfl <|
  .ix 0 3 rfl <|
  .ix 2 3 rfl <|
  .call (ref1_Mul_C a0.2.2.1 a1.1.2.2) [] fun y1314 =>
  .ix 2 3 rfl <|
  .ix 1 3 rfl <|
  .ix 1 3 rfl <|
  .ix 2 3 rfl <|
  .call (ref1_Mul_C a0.2.2.2.1 a1.2.1.2.2) [] fun y1315 =>
  .call (ref1_Add_C y1314 y1315) [] fun y1316 =>
  .ix 2 3 rfl <|
  .ix 2 3 rfl <|
  .ix 2 3 rfl <|
  .ix 2 3 rfl <|
  .call (ref1_Mul_C a0.2.2.2.2 a1.2.2.2.2) [] fun y1317 =>
  .call (ref1_Add_C y1316 y1317) [] fun y1318 =>
  .ix 2 3 rfl <|
  .ix 2 3 rfl <|
  .lit 7001 (3) <|
  .known false <|
  .lit 4001 (3) <|
  .known false <|
  .ret (((⟨(max (-65536) (min y950.Lo 65536)), (max (-65536) (min y950.Hi 65536))⟩ : S_Interval), (⟨(max (-65536) (min y970.Lo 65536)), (max (-65536) (min y970.Hi 65536))⟩ : S_Interval), (⟨(max (-65536) (min y990.Lo 65536)), (max (-65536) (min y990.Hi 65536))⟩ : S_Interval)), ((⟨(max (-65536) (min y1114.Lo 65536)), (max (-65536) (min y1114.Hi 65536))⟩ : S_Interval), (⟨(max (-65536) (min y1134.Lo 65536)), (max (-65536) (min y1134.Hi 65536))⟩ : S_Interval), (⟨(max (-65536) (min y1154.Lo 65536)), (max (-65536) (min y1154.Hi 65536))⟩ : S_Interval)), ((⟨(max (-65536) (min y1278.Lo 65536)), (max (-65536) (min y1278.Hi 65536))⟩ : S_Interval), (⟨(max (-65536) (min y1298.Lo 65536)), (max (-65536) (min y1298.Hi 65536))⟩ : S_Interval), (⟨(max (-65536) (min y1318.Lo 65536)), (max (-65536) (min y1318.Hi 65536))⟩ : S_Interval)))
noncomputable def ref1_ComposeMat_C (a0 : ((S_Interval × S_Interval × S_Interval) × (S_Interval × S_Interval × S_Interval) × (S_Interval × S_Interval × S_Interval))) (a1 : ((S_Interval × S_Interval × S_Interval) × (S_Interval × S_Interval × S_Interval) × (S_Interval × S_Interval × S_Interval))) : CallS ((S_Interval × S_Interval × S_Interval) × (S_Interval × S_Interval × S_Interval) × (S_Interval × S_Interval × S_Interval)) :=
  mkC [] hd Tryz.func263 (by kernel_rfl) (ref1_ComposeMat_T a0 a1) 0 [.pure (enc_arr_3_3_Interval a0), .pure (enc_arr_3_3_Interval a1)] [] (fun r => .pure (enc_arr_3_3_Interval r)) (fun _ => []) (by kernel_rfl)

noncomputable def ref1_ApplyMat_T (a0 : ((S_Interval × S_Interval × S_Interval) × (S_Interval × S_Interval × S_Interval) × (S_Interval × S_Interval × S_Interval))) (a1 : (S_Interval × S_Interval × S_Interval)) : T (S_Interval × S_Interval × S_Interval) :=
  .unroll 4 <|
  .known true <|
  .ix 0 3 rfl <|
  .ix 0 3 rfl <|
  .ix 0 3 rfl <|
  .call (ref1_Mul_C a0.1.1 a1.1) [] fun y60 =>
  .ix 0 3 rfl <|
  .ix 1 3 rfl <|
  .ix 1 3 rfl <|
  .call (ref1_Mul_C a0.1.2.1 a1.2.1) [] fun y61 =>
  .call (ref1_Add_C y60 y61) [] fun y62 =>
  .ix 0 3 rfl <|
  .ix 2 3 rfl <|
  .ix 2 3 rfl <|
  .call (ref1_Mul_C a0.1.2.2 a1.2.2) [] fun y63 =>
  .call (ref1_Add_C y62 y63) [] fun y64 =>
  .ix 0 3 rfl <|
  .lit 4001 (1) <|
  .known true <|
  .ix 1 3 rfl <|
  .ix 0 3 rfl <|
  .ix 0 3 rfl <|
  .call (ref1_Mul_C a0.2.1.1 a1.1) [] fun y70 =>
  .ix 1 3 rfl <|
  .ix 1 3 rfl <|
  .ix 1 3 rfl <|
  .call (ref1_Mul_C a0.2.1.2.1 a1.2.1) [] fun y71 =>
  .call (ref1_Add_C y70 y71) [] fun y72 =>
  .ix 1 3 rfl <|
  .ix 2 3 rfl <|
  .ix 2 3 rfl <|
  .call (ref1_Mul_C a0.2.1.2.2 a1.2.2) [] fun y73 =>
  .call (ref1_Add_C y72 y73) [] fun y74 =>
  .ix 1 3 rfl <|
  .lit 4001 (2) <|
  .known true <|
  .ix 2 3 rfl <|
  .ix 0 3 rfl <|
  .ix 0 3 rfl <|
  .call (ref1_Mul_C a0.2.2.1 a1.1) [] fun y80 =>
  .ix 2 3 rfl <|
  .ix 1 3 rfl <|
  .ix 1 3 rfl <|
  .call (ref1_Mul_C a0.2.2.2.1 a1.2.1) [] fun y81 =>
  .call (ref1_Add_C y80 y81) [] fun y82 =>
  .ix 2 3 rfl <|
  .ix 2 3 rfl <|
  .ix 2 3 rfl <|
  .call (ref1_Mul_C a0.2.2.2.2 a1.2.2) [] fun y83 =>
  .call (ref1_Add_C y82 y83) [] fun y84 =>
  .ix 2 3 rfl <|
  .lit 4001 (3) <|
  .known false <|
  .ret (y64, y74, y84)
noncomputable def ref1_ApplyMat_C (a0 : ((S_Interval × S_Interval × S_Interval) × (S_Interval × S_Interval × S_Interval) × (S_Interval × S_Interval × S_Interval))) (a1 : (S_Interval × S_Interval × S_Interval)) : CallS (S_Interval × S_Interval × S_Interval) :=
  mkC [] hd Tryz.func265 (by kernel_rfl) (ref1_ApplyMat_T a0 a1) 0 [.pure (enc_arr_3_3_Interval a0), .pure (enc_arr_3_Interval a1)] [] (fun r => .pure (enc_arr_3_Interval r)) (fun _ => []) (by kernel_rfl)

noncomputable def ref1_AddVec_T (a0 : (S_Interval × S_Interval × S_Interval)) (a1 : (S_Interval × S_Interval × S_Interval)) : T (S_Interval × S_Interval × S_Interval) :=
  .ix 0 3 rfl <|
  .ix 0 3 rfl <|
  .call (ref1_Add_C a0.1 a1.1) [] fun y1 =>
  .ix 1 3 rfl <|
  .ix 1 3 rfl <|
  .call (ref1_Add_C a0.2.1 a1.2.1) [] fun y2 =>
  .ix 2 3 rfl <|
  .ix 2 3 rfl <|
  .call (ref1_Add_C a0.2.2 a1.2.2) [] fun y3 =>
  .ret (y1, y2, y3)
noncomputable def ref1_AddVec_C (a0 : (S_Interval × S_Interval × S_Interval)) (a1 : (S_Interval × S_Interval × S_Interval)) : CallS (S_Interval × S_Interval × S_Interval) :=
  mkC [] hd Tryz.func264 (by kernel_rfl) (ref1_AddVec_T a0 a1) 0 [.pure (enc_arr_3_Interval a0), .pure (enc_arr_3_Interval a1)] [] (fun r => .pure (enc_arr_3_Interval r)) (fun _ => []) (by kernel_rfl)

noncomputable def ref1_Compose_T (a0 : S_Pose) (a1 : S_Pose) : T S_Pose :=
  .call (ref1_ComposeMat_C a0.R a1.R) [] fun y1 =>
  .call (ref1_ApplyMat_C a0.R a1.T) [] fun y2 =>
  .call (ref1_AddVec_C a0.T (y2.1, y2.2.1, y2.2.2)) [] fun y3 =>
  .ret (⟨(y1.1, y1.2.1, y1.2.2), y3⟩ : S_Pose)
noncomputable def ref1_Compose_C (a0 : S_Pose) (a1 : S_Pose) : CallS S_Pose :=
  mkC [] hd Tryz.func240 (by kernel_rfl) (ref1_Compose_T a0 a1) 0 [.pure (enc_Pose a0), .pure (enc_Pose a1)] [] (fun r => .pure (enc_Pose r)) (fun _ => []) (by kernel_rfl)

set_option maxHeartbeats 8000000 in
set_option maxRecDepth 20000 in
noncomputable def ref10_Joint_T (a0 : S_Joint) (a1 : S_Interval) : T S_Pose :=
  .call (ref1_Rest_C) [] fun y2 =>
  .cut 0 (fun (y13 : (Int × Int × Int × Int × Int × Int × Int × Int × Int × Int × Int × Int × Int × Int × Int × Int × Int × Int × Int × Int × Int × Int × Int × Int)) => ⟨[(2, .ptr 0 0), (4, .ptr 1 0), (5, .ptr 2 0)], [(0, .box [.pure (.str a0.Name), .pure (.int .i64 a0.Kind), .pure (.int .i64 a0.Parent), .pure (.int .i64 a0.Offset.1), .pure (.int .i64 a0.Offset.2.1), .pure (.int .i64 a0.Offset.2.2), .pure (.int .i64 a0.Lo), .pure (.int .i64 a0.Hi), .pure (.int .i64 a0.Weight), .pure (.int .i64 a0.Speed), .pure (.int .i64 a0.Accel), .pure (.int .i64 a0.Torque)]), (1, .box [.pure (.int .i64 0), .pure (.int .i64 0), .pure (.int .i64 0), .pure (.int .i64 0), .pure (.int .i64 0), .pure (.int .i64 0), .pure (.int .i64 0), .pure (.int .i64 0), .pure (.int .i64 0), .pure (.int .i64 0), .pure (.int .i64 0), .pure (.int .i64 0), .pure (.int .i64 0), .pure (.int .i64 0), .pure (.int .i64 0), .pure (.int .i64 0), .pure (.int .i64 0), .pure (.int .i64 0), .pure (.int .i64 0), .pure (.int .i64 0), .pure (.int .i64 0), .pure (.int .i64 0), .pure (.int .i64 0), .pure (.int .i64 0)]), (2, .box [.pure (.int .i64 y13.1), .pure (.int .i64 y13.2.1), .pure (.int .i64 y13.2.2.1), .pure (.int .i64 y13.2.2.2.1), .pure (.int .i64 y13.2.2.2.2.1), .pure (.int .i64 y13.2.2.2.2.2.1), .pure (.int .i64 y13.2.2.2.2.2.2.1), .pure (.int .i64 y13.2.2.2.2.2.2.2.1), .pure (.int .i64 y13.2.2.2.2.2.2.2.2.1), .pure (.int .i64 y13.2.2.2.2.2.2.2.2.2.1), .pure (.int .i64 y13.2.2.2.2.2.2.2.2.2.2.1), .pure (.int .i64 y13.2.2.2.2.2.2.2.2.2.2.2.1), .pure (.int .i64 y13.2.2.2.2.2.2.2.2.2.2.2.2.1), .pure (.int .i64 y13.2.2.2.2.2.2.2.2.2.2.2.2.2.1), .pure (.int .i64 y13.2.2.2.2.2.2.2.2.2.2.2.2.2.2.1), .pure (.int .i64 y13.2.2.2.2.2.2.2.2.2.2.2.2.2.2.2.1), .pure (.int .i64 y13.2.2.2.2.2.2.2.2.2.2.2.2.2.2.2.2.1), .pure (.int .i64 y13.2.2.2.2.2.2.2.2.2.2.2.2.2.2.2.2.2.1), .pure (.int .i64 y13.2.2.2.2.2.2.2.2.2.2.2.2.2.2.2.2.2.2.1), .pure (.int .i64 y13.2.2.2.2.2.2.2.2.2.2.2.2.2.2.2.2.2.2.2.1), .pure (.int .i64 y13.2.2.2.2.2.2.2.2.2.2.2.2.2.2.2.2.2.2.2.2.1), .pure (.int .i64 y13.2.2.2.2.2.2.2.2.2.2.2.2.2.2.2.2.2.2.2.2.2.1), .pure (.int .i64 y13.2.2.2.2.2.2.2.2.2.2.2.2.2.2.2.2.2.2.2.2.2.2.1), .pure (.int .i64 y13.2.2.2.2.2.2.2.2.2.2.2.2.2.2.2.2.2.2.2.2.2.2.2)])], [], 3⟩)
   (.cut 1 (fun (y14 : Bool) => ⟨[(2, .ptr 0 0), (3, .ptr 1 0), (4, .ptr 2 0), (5, .ptr 3 0), (9, .pure (.int .i64 a0.Kind)), (10, .pure (.bool y14))], [(0, .box [.pure (.str a0.Name), .pure (.int .i64 a0.Kind), .pure (.int .i64 a0.Parent), .pure (.int .i64 a0.Offset.1), .pure (.int .i64 a0.Offset.2.1), .pure (.int .i64 a0.Offset.2.2), .pure (.int .i64 a0.Lo), .pure (.int .i64 a0.Hi), .pure (.int .i64 a0.Weight), .pure (.int .i64 a0.Speed), .pure (.int .i64 a0.Accel), .pure (.int .i64 a0.Torque)]), (1, .box [.pure (.int .i64 a1.Lo), .pure (.int .i64 a1.Hi)]), (2, .box [.pure (.int .i64 0), .pure (.int .i64 0), .pure (.int .i64 0), .pure (.int .i64 0), .pure (.int .i64 0), .pure (.int .i64 0), .pure (.int .i64 0), .pure (.int .i64 0), .pure (.int .i64 0), .pure (.int .i64 0), .pure (.int .i64 0), .pure (.int .i64 0), .pure (.int .i64 0), .pure (.int .i64 0), .pure (.int .i64 0), .pure (.int .i64 0), .pure (.int .i64 0), .pure (.int .i64 0), .pure (.int .i64 0), .pure (.int .i64 0), .pure (.int .i64 0), .pure (.int .i64 0), .pure (.int .i64 0), .pure (.int .i64 0)]), (3, .box [.pure (.int .i64 y2.R.1.1.Lo), .pure (.int .i64 y2.R.1.1.Hi), .pure (.int .i64 y2.R.1.2.1.Lo), .pure (.int .i64 y2.R.1.2.1.Hi), .pure (.int .i64 y2.R.1.2.2.Lo), .pure (.int .i64 y2.R.1.2.2.Hi), .pure (.int .i64 y2.R.2.1.1.Lo), .pure (.int .i64 y2.R.2.1.1.Hi), .pure (.int .i64 y2.R.2.1.2.1.Lo), .pure (.int .i64 y2.R.2.1.2.1.Hi), .pure (.int .i64 y2.R.2.1.2.2.Lo), .pure (.int .i64 y2.R.2.1.2.2.Hi), .pure (.int .i64 y2.R.2.2.1.Lo), .pure (.int .i64 y2.R.2.2.1.Hi), .pure (.int .i64 y2.R.2.2.2.1.Lo), .pure (.int .i64 y2.R.2.2.2.1.Hi), .pure (.int .i64 y2.R.2.2.2.2.Lo), .pure (.int .i64 y2.R.2.2.2.2.Hi), .pure (.int .i64 y2.T.1.Lo), .pure (.int .i64 y2.T.1.Hi), .pure (.int .i64 y2.T.2.1.Lo), .pure (.int .i64 y2.T.2.1.Hi), .pure (.int .i64 y2.T.2.2.Lo), .pure (.int .i64 y2.T.2.2.Hi)])], [], 4⟩)
    (.br (a0.Kind == 1)
     (.ret (.out (a0.Kind == 1)))
     (.br (a0.Kind == 2)
      (.ret (.out (a0.Kind == 2)))
      (.ret (.out (a0.Kind == 3))))) fun y14 =>
   .br y14
    (.call (ref1_TurnPose_C (IntKind.i64.wrap (a0.Kind - 1)) (⟨a1.Lo, a1.Hi⟩ : S_Interval)) [] fun y15 =>
    .ret (.out (y15.R.1.1.Lo, y15.R.1.1.Hi, y15.R.1.2.1.Lo, y15.R.1.2.1.Hi, y15.R.1.2.2.Lo, y15.R.1.2.2.Hi, y15.R.2.1.1.Lo, y15.R.2.1.1.Hi, y15.R.2.1.2.1.Lo, y15.R.2.1.2.1.Hi, y15.R.2.1.2.2.Lo, y15.R.2.1.2.2.Hi, y15.R.2.2.1.Lo, y15.R.2.2.1.Hi, y15.R.2.2.2.1.Lo, y15.R.2.2.2.1.Hi, y15.R.2.2.2.2.Lo, y15.R.2.2.2.2.Hi, y15.T.1.Lo, y15.T.1.Hi, y15.T.2.1.Lo, y15.T.2.1.Hi, y15.T.2.2.Lo, y15.T.2.2.Hi)))
    (.cut 0 (fun (y16 : Bool) => ⟨[(2, .ptr 0 0), (3, .ptr 1 0), (4, .ptr 2 0), (5, .ptr 3 0), (19, .pure (.bool y16))], [(0, .box [.pure (.str a0.Name), .pure (.int .i64 a0.Kind), .pure (.int .i64 a0.Parent), .pure (.int .i64 a0.Offset.1), .pure (.int .i64 a0.Offset.2.1), .pure (.int .i64 a0.Offset.2.2), .pure (.int .i64 a0.Lo), .pure (.int .i64 a0.Hi), .pure (.int .i64 a0.Weight), .pure (.int .i64 a0.Speed), .pure (.int .i64 a0.Accel), .pure (.int .i64 a0.Torque)]), (1, .box [.pure (.int .i64 a1.Lo), .pure (.int .i64 a1.Hi)]), (2, .box [.pure (.int .i64 0), .pure (.int .i64 0), .pure (.int .i64 0), .pure (.int .i64 0), .pure (.int .i64 0), .pure (.int .i64 0), .pure (.int .i64 0), .pure (.int .i64 0), .pure (.int .i64 0), .pure (.int .i64 0), .pure (.int .i64 0), .pure (.int .i64 0), .pure (.int .i64 0), .pure (.int .i64 0), .pure (.int .i64 0), .pure (.int .i64 0), .pure (.int .i64 0), .pure (.int .i64 0), .pure (.int .i64 0), .pure (.int .i64 0), .pure (.int .i64 0), .pure (.int .i64 0), .pure (.int .i64 0), .pure (.int .i64 0)]), (3, .box [.pure (.int .i64 y2.R.1.1.Lo), .pure (.int .i64 y2.R.1.1.Hi), .pure (.int .i64 y2.R.1.2.1.Lo), .pure (.int .i64 y2.R.1.2.1.Hi), .pure (.int .i64 y2.R.1.2.2.Lo), .pure (.int .i64 y2.R.1.2.2.Hi), .pure (.int .i64 y2.R.2.1.1.Lo), .pure (.int .i64 y2.R.2.1.1.Hi), .pure (.int .i64 y2.R.2.1.2.1.Lo), .pure (.int .i64 y2.R.2.1.2.1.Hi), .pure (.int .i64 y2.R.2.1.2.2.Lo), .pure (.int .i64 y2.R.2.1.2.2.Hi), .pure (.int .i64 y2.R.2.2.1.Lo), .pure (.int .i64 y2.R.2.2.1.Hi), .pure (.int .i64 y2.R.2.2.2.1.Lo), .pure (.int .i64 y2.R.2.2.2.1.Hi), .pure (.int .i64 y2.R.2.2.2.2.Lo), .pure (.int .i64 y2.R.2.2.2.2.Hi), .pure (.int .i64 y2.T.1.Lo), .pure (.int .i64 y2.T.1.Hi), .pure (.int .i64 y2.T.2.1.Lo), .pure (.int .i64 y2.T.2.1.Hi), .pure (.int .i64 y2.T.2.2.Lo), .pure (.int .i64 y2.T.2.2.Hi)])], [], 4⟩)
     (.br (a0.Kind == 4)
      (.ret (.out (a0.Kind == 4)))
      (.br (a0.Kind == 5)
       (.ret (.out (a0.Kind == 5)))
       (.ret (.out (a0.Kind == 6))))) fun y16 =>
    .br y16
     (.cut 1 (fun (y17 : (Int × Int × Int × Int × Int × Int)) => ⟨[(2, .ptr 0 0), (4, .ptr 1 0), (5, .ptr 2 0), (6, .ptr 3 0)], [(0, .box [.pure (.str a0.Name), .pure (.int .i64 a0.Kind), .pure (.int .i64 a0.Parent), .pure (.int .i64 a0.Offset.1), .pure (.int .i64 a0.Offset.2.1), .pure (.int .i64 a0.Offset.2.2), .pure (.int .i64 a0.Lo), .pure (.int .i64 a0.Hi), .pure (.int .i64 a0.Weight), .pure (.int .i64 a0.Speed), .pure (.int .i64 a0.Accel), .pure (.int .i64 a0.Torque)]), (1, .box [.pure (.int .i64 0), .pure (.int .i64 0), .pure (.int .i64 0), .pure (.int .i64 0), .pure (.int .i64 0), .pure (.int .i64 0), .pure (.int .i64 0), .pure (.int .i64 0), .pure (.int .i64 0), .pure (.int .i64 0), .pure (.int .i64 0), .pure (.int .i64 0), .pure (.int .i64 0), .pure (.int .i64 0), .pure (.int .i64 0), .pure (.int .i64 0), .pure (.int .i64 0), .pure (.int .i64 0), .pure (.int .i64 0), .pure (.int .i64 0), .pure (.int .i64 0), .pure (.int .i64 0), .pure (.int .i64 0), .pure (.int .i64 0)]), (2, .box [.pure (.int .i64 y2.R.1.1.Lo), .pure (.int .i64 y2.R.1.1.Hi), .pure (.int .i64 y2.R.1.2.1.Lo), .pure (.int .i64 y2.R.1.2.1.Hi), .pure (.int .i64 y2.R.1.2.2.Lo), .pure (.int .i64 y2.R.1.2.2.Hi), .pure (.int .i64 y2.R.2.1.1.Lo), .pure (.int .i64 y2.R.2.1.1.Hi), .pure (.int .i64 y2.R.2.1.2.1.Lo), .pure (.int .i64 y2.R.2.1.2.1.Hi), .pure (.int .i64 y2.R.2.1.2.2.Lo), .pure (.int .i64 y2.R.2.1.2.2.Hi), .pure (.int .i64 y2.R.2.2.1.Lo), .pure (.int .i64 y2.R.2.2.1.Hi), .pure (.int .i64 y2.R.2.2.2.1.Lo), .pure (.int .i64 y2.R.2.2.2.1.Hi), .pure (.int .i64 y2.R.2.2.2.2.Lo), .pure (.int .i64 y2.R.2.2.2.2.Hi), .pure (.int .i64 y2.T.1.Lo), .pure (.int .i64 y2.T.1.Hi), .pure (.int .i64 y2.T.2.1.Lo), .pure (.int .i64 y2.T.2.1.Hi), .pure (.int .i64 y2.T.2.2.Lo), .pure (.int .i64 y2.T.2.2.Hi)]), (3, .box [.pure (.int .i64 y17.1), .pure (.int .i64 y17.2.1), .pure (.int .i64 y17.2.2.1), .pure (.int .i64 y17.2.2.2.1), .pure (.int .i64 y17.2.2.2.2.1), .pure (.int .i64 y17.2.2.2.2.2)])], [], 4⟩)
      (.cas 11002 (IntKind.i64.wrap (a0.Kind - 4)) 0
       (.ix 0 3 rfl <|
       .ret (.out (a1.Lo, a1.Hi, 0, 0, 0, 0)))
       (.cas 11002 (IntKind.i64.wrap (a0.Kind - 4)) 1
        (.ix 1 3 rfl <|
        .ret (.out (0, 0, a1.Lo, a1.Hi, 0, 0)))
        (.cas 11002 (IntKind.i64.wrap (a0.Kind - 4)) 2
         (.ix 2 3 rfl <|
         .ret (.out (0, 0, 0, 0, a1.Lo, a1.Hi)))
         (.stop)))) fun y17 =>
     .call (ref1_Shift_C ((⟨y17.1, y17.2.1⟩ : S_Interval), (⟨y17.2.2.1, y17.2.2.2.1⟩ : S_Interval), (⟨y17.2.2.2.2.1, y17.2.2.2.2.2⟩ : S_Interval))) [] fun y18 =>
     .ret (.out (y18.R.1.1.Lo, y18.R.1.1.Hi, y18.R.1.2.1.Lo, y18.R.1.2.1.Hi, y18.R.1.2.2.Lo, y18.R.1.2.2.Hi, y18.R.2.1.1.Lo, y18.R.2.1.1.Hi, y18.R.2.1.2.1.Lo, y18.R.2.1.2.1.Hi, y18.R.2.1.2.2.Lo, y18.R.2.1.2.2.Hi, y18.R.2.2.1.Lo, y18.R.2.2.1.Hi, y18.R.2.2.2.1.Lo, y18.R.2.2.2.1.Hi, y18.R.2.2.2.2.Lo, y18.R.2.2.2.2.Hi, y18.T.1.Lo, y18.T.1.Hi, y18.T.2.1.Lo, y18.T.2.1.Hi, y18.T.2.2.Lo, y18.T.2.2.Hi)))
     (.ret (.out (y2.R.1.1.Lo, y2.R.1.1.Hi, y2.R.1.2.1.Lo, y2.R.1.2.1.Hi, y2.R.1.2.2.Lo, y2.R.1.2.2.Hi, y2.R.2.1.1.Lo, y2.R.2.1.1.Hi, y2.R.2.1.2.1.Lo, y2.R.2.1.2.1.Hi, y2.R.2.1.2.2.Lo, y2.R.2.1.2.2.Hi, y2.R.2.2.1.Lo, y2.R.2.2.1.Hi, y2.R.2.2.2.1.Lo, y2.R.2.2.2.1.Hi, y2.R.2.2.2.2.Lo, y2.R.2.2.2.2.Hi, y2.T.1.Lo, y2.T.1.Hi, y2.T.2.1.Lo, y2.T.2.1.Hi, y2.T.2.2.Lo, y2.T.2.2.Hi))))) fun y13 =>
  .call (ref1_Point_C a0.Offset) [] fun y19 =>
  .call (ref1_Shift_C y19) [] fun y20 =>
  .call (ref1_Compose_C (⟨y20.R, y20.T⟩ : S_Pose) (⟨(((⟨y13.1, y13.2.1⟩ : S_Interval), (⟨y13.2.2.1, y13.2.2.2.1⟩ : S_Interval), (⟨y13.2.2.2.2.1, y13.2.2.2.2.2.1⟩ : S_Interval)), ((⟨y13.2.2.2.2.2.2.1, y13.2.2.2.2.2.2.2.1⟩ : S_Interval), (⟨y13.2.2.2.2.2.2.2.2.1, y13.2.2.2.2.2.2.2.2.2.1⟩ : S_Interval), (⟨y13.2.2.2.2.2.2.2.2.2.2.1, y13.2.2.2.2.2.2.2.2.2.2.2.1⟩ : S_Interval)), ((⟨y13.2.2.2.2.2.2.2.2.2.2.2.2.1, y13.2.2.2.2.2.2.2.2.2.2.2.2.2.1⟩ : S_Interval), (⟨y13.2.2.2.2.2.2.2.2.2.2.2.2.2.2.1, y13.2.2.2.2.2.2.2.2.2.2.2.2.2.2.2.1⟩ : S_Interval), (⟨y13.2.2.2.2.2.2.2.2.2.2.2.2.2.2.2.2.1, y13.2.2.2.2.2.2.2.2.2.2.2.2.2.2.2.2.2.1⟩ : S_Interval))), ((⟨y13.2.2.2.2.2.2.2.2.2.2.2.2.2.2.2.2.2.2.1, y13.2.2.2.2.2.2.2.2.2.2.2.2.2.2.2.2.2.2.2.1⟩ : S_Interval), (⟨y13.2.2.2.2.2.2.2.2.2.2.2.2.2.2.2.2.2.2.2.2.1, y13.2.2.2.2.2.2.2.2.2.2.2.2.2.2.2.2.2.2.2.2.2.1⟩ : S_Interval), (⟨y13.2.2.2.2.2.2.2.2.2.2.2.2.2.2.2.2.2.2.2.2.2.2.1, y13.2.2.2.2.2.2.2.2.2.2.2.2.2.2.2.2.2.2.2.2.2.2.2⟩ : S_Interval))⟩ : S_Pose)) [] fun y21 =>
  .ret y21
noncomputable def ref10_Joint_C (a0 : S_Joint) (a1 : S_Interval) : CallS S_Pose :=
  mkC [] hd Tryz.func239 (by kernel_rfl) (ref10_Joint_T a0 a1) 0 [.pure (enc_Joint a0), .pure (enc_Interval a1)] [] (fun r => .pure (enc_Pose r)) (fun _ => []) (by kernel_rfl)
end Go.Abs
