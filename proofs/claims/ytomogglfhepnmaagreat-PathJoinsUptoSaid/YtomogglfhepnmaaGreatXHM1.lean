/-
  M1 (a part of a claim: our own text).
-/
import Derived.Test.YtomogglfhepnmaaGreatXHRngF
import Derived.Test.YtomogglfhepnmaaGreatChecked
namespace Go.Abs
open Go.Proofs
abbrev pz (x : Int) : AVal := .pure (.int .i64 x)
theorem hd : DrawSound Tryz.prog drawB := draw_sound (by kernel_rfl)
structure S_make_Source where
  list : (List Int)
  next : Int
instance : Inhabited S_make_Source := ⟨⟨default, default⟩⟩
structure S_Joint where
  Name : ByteArray
  Kind : Int
  Parent : Int
  Offset : (Int × Int × Int)
  Lo : Int
  Hi : Int
  Weight : Int
  Speed : Int
  Accel : Int
  Torque : Int
instance : Inhabited S_Joint := ⟨⟨default, default, default, default, default, default, default, default, default, default⟩⟩
structure S_Mass where
  Link : Int
  Mass : Int
  Point : (Int × Int × Int)
instance : Inhabited S_Mass := ⟨⟨default, default, default⟩⟩
structure S_Robot where
  Joints : (List S_Joint)
  Masses : (List S_Mass)
instance : Inhabited S_Robot := ⟨⟨default, default⟩⟩
structure S_Shape where
  Link : Int
  Radius : Int
  Points : (List (Int × Int × Int))
instance : Inhabited S_Shape := ⟨⟨default, default, default⟩⟩
structure S_Skip where
  A : Int
  B : Int
instance : Inhabited S_Skip := ⟨⟨default, default⟩⟩
structure S_Scene where
  Robot : S_Robot
  Shapes : (List S_Shape)
  Skips : (List S_Skip)
instance : Inhabited S_Scene := ⟨⟨default, default, default⟩⟩
structure S_Piece where
  Depth : Int
  Index : Int
  Normals : (List (Int × Int × Int))
instance : Inhabited S_Piece := ⟨⟨default, default, default⟩⟩
structure S_Witness where
  Pair : Int
  Left : (List Int)
  Right : (List Int)
instance : Inhabited S_Witness := ⟨⟨default, default, default⟩⟩
structure S_EdgeResult where
  Kind : Int
  Pieces : (List S_Piece)
  At : S_Piece
  Witness : S_Witness
instance : Inhabited S_EdgeResult := ⟨⟨default, default, default, default⟩⟩
structure S_Interval where
  Lo : Int
  Hi : Int
instance : Inhabited S_Interval := ⟨⟨default, default⟩⟩
structure S_Pair where
  A : Int
  B : Int
instance : Inhabited S_Pair := ⟨⟨default, default⟩⟩
structure S_classify_body where
  shapes : (List S_Shape)
  pairs : (List S_Pair)
  points : (List (List (S_Interval × S_Interval × S_Interval)))
instance : Inhabited S_classify_body := ⟨⟨default, default, default⟩⟩
structure S_Pose where
  R : ((S_Interval × S_Interval × S_Interval) × (S_Interval × S_Interval × S_Interval) × (S_Interval × S_Interval × S_Interval))
  T : (S_Interval × S_Interval × S_Interval)
instance : Inhabited S_Pose := ⟨⟨default, default⟩⟩
structure S_Verdict where
  Kind : Int
  Normals : (List (Int × Int × Int))
  Witness : S_Witness
instance : Inhabited S_Verdict := ⟨⟨default, default, default⟩⟩
structure S_classify_couple where
  a : (List (S_Interval × S_Interval × S_Interval))
  b : (List (S_Interval × S_Interval × S_Interval))
  ra : Int
  rb : Int
instance : Inhabited S_classify_couple := ⟨⟨default, default, default, default⟩⟩
structure S_plane_side where
  points : (List (S_Interval × S_Interval × S_Interval))
  radius : Int
instance : Inhabited S_plane_side := ⟨⟨default, default⟩⟩
structure S_plane_sides where
  a : S_plane_side
  b : S_plane_side
instance : Inhabited S_plane_sides := ⟨⟨default, default⟩⟩
structure S_Nearest where
  Kind : Int
  Normal : (Int × Int × Int)
  Left : (List Int)
  Right : (List Int)
  Steps : Int
instance : Inhabited S_Nearest := ⟨⟨default, default, default, default, default⟩⟩
structure S_classify_collision where
  witness : S_Witness
instance : Inhabited S_classify_collision := ⟨⟨default⟩⟩
structure S_classify_separation where
  normals : (List (Int × Int × Int))
instance : Inhabited S_classify_separation := ⟨⟨default⟩⟩
structure S_edgecheck_replay where
  scene : S_Scene
  p : (List Int)
  q : (List Int)
  pieces : (List S_Piece)
instance : Inhabited S_edgecheck_replay := ⟨⟨default, default, default, default⟩⟩
structure S_Use where
  Depth : Int
  Index : Int
  Numbers : (List Int)
instance : Inhabited S_Use := ⟨⟨default, default, default⟩⟩
structure S_Packed where
  Table : (List (Int × Int × Int))
  Uses : (List S_Use)
instance : Inhabited S_Packed := ⟨⟨default, default⟩⟩
structure S_Path where
  Points : (List (List Int))
  Edges : (List S_Packed)
instance : Inhabited S_Path := ⟨⟨default, default⟩⟩
structure S_path_prover where
  scene : S_Scene
  depth : Int
instance : Inhabited S_path_prover := ⟨⟨default, default⟩⟩
structure S_ref19_place where
  depth : Int
  index : Int
  hints : (List (Int × Int × Int))
instance : Inhabited S_ref19_place := ⟨⟨default, default, default⟩⟩
structure S_ref14_side where
  points : (List (S_Interval × S_Interval × S_Interval))
  radius : Int
instance : Inhabited S_ref14_side := ⟨⟨default, default⟩⟩
def enc_Joint (v : S_Joint) : PVal := .agg [.str v.Name, .int .i64 v.Kind, .int .i64 v.Parent, .int .i64 v.Offset.1, .int .i64 v.Offset.2.1, .int .i64 v.Offset.2.2, .int .i64 v.Lo, .int .i64 v.Hi, .int .i64 v.Weight, .int .i64 v.Speed, .int .i64 v.Accel, .int .i64 v.Torque]
def enc_Mass (v : S_Mass) : PVal := .agg [.int .i64 v.Link, .int .i64 v.Mass, .int .i64 v.Point.1, .int .i64 v.Point.2.1, .int .i64 v.Point.2.2]
def enc_Robot (v : S_Robot) : PVal := .agg [encL 12 enc_Joint v.Joints, encL 5 enc_Mass v.Masses]
def enc_arr_3_int64 (v : (Int × Int × Int)) : PVal := .agg [.int .i64 v.1, .int .i64 v.2.1, .int .i64 v.2.2]
def enc_Shape (v : S_Shape) : PVal := .agg [.int .i64 v.Link, .int .i64 v.Radius, encL 3 enc_arr_3_int64 v.Points]
def enc_Skip (v : S_Skip) : PVal := .agg [.int .i64 v.A, .int .i64 v.B]
def enc_Scene (v : S_Scene) : PVal := .agg [encL 12 enc_Joint v.Robot.Joints, encL 5 enc_Mass v.Robot.Masses, encL 3 enc_Shape v.Shapes, encL 2 enc_Skip v.Skips]
def enc_Piece (v : S_Piece) : PVal := .agg [.int .i64 v.Depth, .int .i64 v.Index, encL 3 enc_arr_3_int64 v.Normals]
def enc_EdgeResult (v : S_EdgeResult) : PVal := .agg [.int .i64 v.Kind, encL 3 enc_Piece v.Pieces, .int .i64 v.At.Depth, .int .i64 v.At.Index, encL 3 enc_arr_3_int64 v.At.Normals, .int .i64 v.Witness.Pair, encL 1 encI_i64 v.Witness.Left, encL 1 encI_i64 v.Witness.Right]
def enc_Interval (v : S_Interval) : PVal := .agg [.int .i64 v.Lo, .int .i64 v.Hi]
def enc_Pair (v : S_Pair) : PVal := .agg [.int .i64 v.A, .int .i64 v.B]
def enc_arr_3_Interval (v : (S_Interval × S_Interval × S_Interval)) : PVal := .agg [.int .i64 v.1.Lo, .int .i64 v.1.Hi, .int .i64 v.2.1.Lo, .int .i64 v.2.1.Hi, .int .i64 v.2.2.Lo, .int .i64 v.2.2.Hi]
def enc_classify_body (v : S_classify_body) : PVal := .agg [encL 3 enc_Shape v.shapes, encL 2 enc_Pair v.pairs, encL 1 (encL 6 enc_arr_3_Interval) v.points]
def enc_Pose (v : S_Pose) : PVal := .agg [.int .i64 v.R.1.1.Lo, .int .i64 v.R.1.1.Hi, .int .i64 v.R.1.2.1.Lo, .int .i64 v.R.1.2.1.Hi, .int .i64 v.R.1.2.2.Lo, .int .i64 v.R.1.2.2.Hi, .int .i64 v.R.2.1.1.Lo, .int .i64 v.R.2.1.1.Hi, .int .i64 v.R.2.1.2.1.Lo, .int .i64 v.R.2.1.2.1.Hi, .int .i64 v.R.2.1.2.2.Lo, .int .i64 v.R.2.1.2.2.Hi, .int .i64 v.R.2.2.1.Lo, .int .i64 v.R.2.2.1.Hi, .int .i64 v.R.2.2.2.1.Lo, .int .i64 v.R.2.2.2.1.Hi, .int .i64 v.R.2.2.2.2.Lo, .int .i64 v.R.2.2.2.2.Hi, .int .i64 v.T.1.Lo, .int .i64 v.T.1.Hi, .int .i64 v.T.2.1.Lo, .int .i64 v.T.2.1.Hi, .int .i64 v.T.2.2.Lo, .int .i64 v.T.2.2.Hi]
def enc_arr_4_int64 (v : (Int × Int × Int × Int)) : PVal := .agg [.int .i64 v.1, .int .i64 v.2.1, .int .i64 v.2.2.1, .int .i64 v.2.2.2]
def enc_Verdict (v : S_Verdict) : PVal := .agg [.int .i64 v.Kind, encL 3 enc_arr_3_int64 v.Normals, .int .i64 v.Witness.Pair, encL 1 encI_i64 v.Witness.Left, encL 1 encI_i64 v.Witness.Right]
def enc_classify_couple (v : S_classify_couple) : PVal := .agg [encL 6 enc_arr_3_Interval v.a, encL 6 enc_arr_3_Interval v.b, .int .i64 v.ra, .int .i64 v.rb]
def enc_plane_side (v : S_plane_side) : PVal := .agg [encL 6 enc_arr_3_Interval v.points, .int .i64 v.radius]
def enc_plane_sides (v : S_plane_sides) : PVal := .agg [encL 6 enc_arr_3_Interval v.a.points, .int .i64 v.a.radius, encL 6 enc_arr_3_Interval v.b.points, .int .i64 v.b.radius]
def enc_Nearest (v : S_Nearest) : PVal := .agg [.int .i64 v.Kind, .int .i64 v.Normal.1, .int .i64 v.Normal.2.1, .int .i64 v.Normal.2.2, encL 1 encI_i64 v.Left, encL 1 encI_i64 v.Right, .int .i64 v.Steps]
def enc_classify_collision (v : S_classify_collision) : PVal := .agg [.int .i64 v.witness.Pair, encL 1 encI_i64 v.witness.Left, encL 1 encI_i64 v.witness.Right]
def enc_classify_separation (v : S_classify_separation) : PVal := .agg [encL 3 enc_arr_3_int64 v.normals]
def enc_edgecheck_replay (v : S_edgecheck_replay) : PVal := .agg [encL 12 enc_Joint v.scene.Robot.Joints, encL 5 enc_Mass v.scene.Robot.Masses, encL 3 enc_Shape v.scene.Shapes, encL 2 enc_Skip v.scene.Skips, encL 1 encI_i64 v.p, encL 1 encI_i64 v.q, encL 3 enc_Piece v.pieces]
def cells_arr_3_int64 (v : (Int × Int × Int)) : List PVal := [.int .i64 v.1, .int .i64 v.2.1, .int .i64 v.2.2]
def enc_Use (v : S_Use) : PVal := .agg [.int .i64 v.Depth, .int .i64 v.Index, encL 1 encI_i64 v.Numbers]
def enc_Packed (v : S_Packed) : PVal := .agg [encL 3 enc_arr_3_int64 v.Table, encL 3 enc_Use v.Uses]
def enc_Path (v : S_Path) : PVal := .agg [encL 1 (encL 1 encI_i64) v.Points, encL 2 enc_Packed v.Edges]
def enc_path_prover (v : S_path_prover) : PVal := .agg [encL 12 enc_Joint v.scene.Robot.Joints, encL 5 enc_Mass v.scene.Robot.Masses, encL 3 enc_Shape v.scene.Shapes, encL 2 enc_Skip v.scene.Skips, .int .i64 v.depth]
def enc_arr_3_3_Interval (v : ((S_Interval × S_Interval × S_Interval) × (S_Interval × S_Interval × S_Interval) × (S_Interval × S_Interval × S_Interval))) : PVal := .agg [.int .i64 v.1.1.Lo, .int .i64 v.1.1.Hi, .int .i64 v.1.2.1.Lo, .int .i64 v.1.2.1.Hi, .int .i64 v.1.2.2.Lo, .int .i64 v.1.2.2.Hi, .int .i64 v.2.1.1.Lo, .int .i64 v.2.1.1.Hi, .int .i64 v.2.1.2.1.Lo, .int .i64 v.2.1.2.1.Hi, .int .i64 v.2.1.2.2.Lo, .int .i64 v.2.1.2.2.Hi, .int .i64 v.2.2.1.Lo, .int .i64 v.2.2.1.Hi, .int .i64 v.2.2.2.1.Lo, .int .i64 v.2.2.2.1.Hi, .int .i64 v.2.2.2.2.Lo, .int .i64 v.2.2.2.2.Hi]
def enc_arr_11_int64 (v : (Int × Int × Int × Int × Int × Int × Int × Int × Int × Int × Int)) : PVal := .agg [.int .i64 v.1, .int .i64 v.2.1, .int .i64 v.2.2.1, .int .i64 v.2.2.2.1, .int .i64 v.2.2.2.2.1, .int .i64 v.2.2.2.2.2.1, .int .i64 v.2.2.2.2.2.2.1, .int .i64 v.2.2.2.2.2.2.2.1, .int .i64 v.2.2.2.2.2.2.2.2.1, .int .i64 v.2.2.2.2.2.2.2.2.2.1, .int .i64 v.2.2.2.2.2.2.2.2.2.2]
theorem guard48 : GuardFn Tryz.prog 48 :=
  guardFn_of (fn := Tryz.f48) Tryz.func48 (by kernel_rfl) ⟨0, (gOps Tryz.f48).getD 0 default, (gOps Tryz.f48).getD 1 default, 1, 2, gX Tryz.f48, gC ((gOps Tryz.f48).getD 0 default), 20, 20, by kernel_rfl, by kernel_rfl, by kernel_rfl, by kernel_rfl, by kernel_rfl, by kernel_rfl, by kernel_rfl, by kernel_rfl, ⟨gMs (Tryz.prog.underlying 20), by kernel_rfl⟩, by decide, by decide, by kernel_rfl⟩
theorem guard59 : GuardFn Tryz.prog 59 :=
  guardFn_of (fn := Tryz.f59) Tryz.func59 (by kernel_rfl) ⟨0, (gOps Tryz.f59).getD 0 default, (gOps Tryz.f59).getD 1 default, 2, 3, gX Tryz.f59, gC ((gOps Tryz.f59).getD 0 default), 20, 20, by kernel_rfl, by kernel_rfl, by kernel_rfl, by kernel_rfl, by kernel_rfl, by kernel_rfl, by kernel_rfl, by kernel_rfl, ⟨gMs (Tryz.prog.underlying 20), by kernel_rfl⟩, by decide, by decide, by kernel_rfl⟩
theorem guard66 : GuardFn Tryz.prog 66 :=
  guardFn_of (fn := Tryz.f66) Tryz.func66 (by kernel_rfl) ⟨0, (gOps Tryz.f66).getD 0 default, (gOps Tryz.f66).getD 1 default, 1, 2, gX Tryz.f66, gC ((gOps Tryz.f66).getD 0 default), 20, 20, by kernel_rfl, by kernel_rfl, by kernel_rfl, by kernel_rfl, by kernel_rfl, by kernel_rfl, by kernel_rfl, by kernel_rfl, ⟨gMs (Tryz.prog.underlying 20), by kernel_rfl⟩, by decide, by decide, by kernel_rfl⟩
theorem guard71 : GuardFn Tryz.prog 71 :=
  guardFn_of (fn := Tryz.f71) Tryz.func71 (by kernel_rfl) ⟨0, (gOps Tryz.f71).getD 0 default, (gOps Tryz.f71).getD 1 default, 3, 4, gX Tryz.f71, gC ((gOps Tryz.f71).getD 0 default), 20, 20, by kernel_rfl, by kernel_rfl, by kernel_rfl, by kernel_rfl, by kernel_rfl, by kernel_rfl, by kernel_rfl, by kernel_rfl, ⟨gMs (Tryz.prog.underlying 20), by kernel_rfl⟩, by decide, by decide, by kernel_rfl⟩
theorem guard76 : GuardFn Tryz.prog 76 :=
  guardFn_of (fn := Tryz.f76) Tryz.func76 (by kernel_rfl) ⟨0, (gOps Tryz.f76).getD 0 default, (gOps Tryz.f76).getD 1 default, 2, 3, gX Tryz.f76, gC ((gOps Tryz.f76).getD 0 default), 20, 20, by kernel_rfl, by kernel_rfl, by kernel_rfl, by kernel_rfl, by kernel_rfl, by kernel_rfl, by kernel_rfl, by kernel_rfl, ⟨gMs (Tryz.prog.underlying 20), by kernel_rfl⟩, by decide, by decide, by kernel_rfl⟩
theorem guard79 : GuardFn Tryz.prog 79 :=
  guardFn_of (fn := Tryz.f79) Tryz.func79 (by kernel_rfl) ⟨0, (gOps Tryz.f79).getD 0 default, (gOps Tryz.f79).getD 1 default, 1, 2, gX Tryz.f79, gC ((gOps Tryz.f79).getD 0 default), 20, 20, by kernel_rfl, by kernel_rfl, by kernel_rfl, by kernel_rfl, by kernel_rfl, by kernel_rfl, by kernel_rfl, by kernel_rfl, ⟨gMs (Tryz.prog.underlying 20), by kernel_rfl⟩, by decide, by decide, by kernel_rfl⟩
theorem guard88 : GuardFn Tryz.prog 88 :=
  guardFn_of (fn := Tryz.f88) Tryz.func88 (by kernel_rfl) ⟨0, (gOps Tryz.f88).getD 0 default, (gOps Tryz.f88).getD 1 default, 1, 2, gX Tryz.f88, gC ((gOps Tryz.f88).getD 0 default), 20, 20, by kernel_rfl, by kernel_rfl, by kernel_rfl, by kernel_rfl, by kernel_rfl, by kernel_rfl, by kernel_rfl, by kernel_rfl, ⟨gMs (Tryz.prog.underlying 20), by kernel_rfl⟩, by decide, by decide, by kernel_rfl⟩
theorem guard92 : GuardFn Tryz.prog 92 :=
  guardFn_of (fn := Tryz.f92) Tryz.func92 (by kernel_rfl) ⟨0, (gOps Tryz.f92).getD 0 default, (gOps Tryz.f92).getD 1 default, 2, 3, gX Tryz.f92, gC ((gOps Tryz.f92).getD 0 default), 20, 20, by kernel_rfl, by kernel_rfl, by kernel_rfl, by kernel_rfl, by kernel_rfl, by kernel_rfl, by kernel_rfl, by kernel_rfl, ⟨gMs (Tryz.prog.underlying 20), by kernel_rfl⟩, by decide, by decide, by kernel_rfl⟩
theorem guard93 : GuardFn Tryz.prog 93 :=
  guardFn_of (fn := Tryz.f93) Tryz.func93 (by kernel_rfl) ⟨0, (gOps Tryz.f93).getD 0 default, (gOps Tryz.f93).getD 1 default, 1, 2, gX Tryz.f93, gC ((gOps Tryz.f93).getD 0 default), 20, 20, by kernel_rfl, by kernel_rfl, by kernel_rfl, by kernel_rfl, by kernel_rfl, by kernel_rfl, by kernel_rfl, by kernel_rfl, ⟨gMs (Tryz.prog.underlying 20), by kernel_rfl⟩, by decide, by decide, by kernel_rfl⟩
theorem guard124 : GuardFn Tryz.prog 124 :=
  guardFn_of (fn := Tryz.f124) Tryz.func124 (by kernel_rfl) ⟨0, (gOps Tryz.f124).getD 0 default, (gOps Tryz.f124).getD 1 default, 1, 2, gX Tryz.f124, gC ((gOps Tryz.f124).getD 0 default), 20, 20, by kernel_rfl, by kernel_rfl, by kernel_rfl, by kernel_rfl, by kernel_rfl, by kernel_rfl, by kernel_rfl, by kernel_rfl, ⟨gMs (Tryz.prog.underlying 20), by kernel_rfl⟩, by decide, by decide, by kernel_rfl⟩
theorem guard135 : GuardFn Tryz.prog 135 :=
  guardFn_of (fn := Tryz.f135) Tryz.func135 (by kernel_rfl) ⟨0, (gOps Tryz.f135).getD 0 default, (gOps Tryz.f135).getD 1 default, 2, 3, gX Tryz.f135, gC ((gOps Tryz.f135).getD 0 default), 20, 20, by kernel_rfl, by kernel_rfl, by kernel_rfl, by kernel_rfl, by kernel_rfl, by kernel_rfl, by kernel_rfl, by kernel_rfl, ⟨gMs (Tryz.prog.underlying 20), by kernel_rfl⟩, by decide, by decide, by kernel_rfl⟩
theorem guard143 : GuardFn Tryz.prog 143 :=
  guardFn_of (fn := Tryz.f143) Tryz.func143 (by kernel_rfl) ⟨0, (gOps Tryz.f143).getD 0 default, (gOps Tryz.f143).getD 1 default, 1, 2, gX Tryz.f143, gC ((gOps Tryz.f143).getD 0 default), 20, 20, by kernel_rfl, by kernel_rfl, by kernel_rfl, by kernel_rfl, by kernel_rfl, by kernel_rfl, by kernel_rfl, by kernel_rfl, ⟨gMs (Tryz.prog.underlying 20), by kernel_rfl⟩, by decide, by decide, by kernel_rfl⟩
theorem guard189 : GuardFn Tryz.prog 189 :=
  guardFn_of (fn := Tryz.f189) Tryz.func189 (by kernel_rfl) ⟨0, (gOps Tryz.f189).getD 0 default, (gOps Tryz.f189).getD 1 default, 2, 3, gX Tryz.f189, gC ((gOps Tryz.f189).getD 0 default), 20, 20, by kernel_rfl, by kernel_rfl, by kernel_rfl, by kernel_rfl, by kernel_rfl, by kernel_rfl, by kernel_rfl, by kernel_rfl, ⟨gMs (Tryz.prog.underlying 20), by kernel_rfl⟩, by decide, by decide, by kernel_rfl⟩
theorem guard224 : GuardFn Tryz.prog 224 :=
  guardFn_of (fn := Tryz.f224) Tryz.func224 (by kernel_rfl) ⟨0, (gOps Tryz.f224).getD 0 default, (gOps Tryz.f224).getD 1 default, 2, 3, gX Tryz.f224, gC ((gOps Tryz.f224).getD 0 default), 20, 20, by kernel_rfl, by kernel_rfl, by kernel_rfl, by kernel_rfl, by kernel_rfl, by kernel_rfl, by kernel_rfl, by kernel_rfl, ⟨gMs (Tryz.prog.underlying 20), by kernel_rfl⟩, by decide, by decide, by kernel_rfl⟩
noncomputable def make_From_T (a0 : (List Int)) : T ((List Int) × Int) :=
 .ret (a0, 0)
noncomputable def make_From_C (a0 : (List Int)) : CallS ((List Int) × Int) :=
  mkC [] hd Tryz.func69 (by kernel_rfl) (make_From_T a0) 0 [.pure (encL 1 encI_i64 a0)] [] (fun _ => .ptr 0 0) (fun r => [(0, .box [.pure (encL 1 encI_i64 r.1), pz r.2])]) (by kernel_rfl)
noncomputable def make_Round_T (a0 : Int) (a1 : Int) : T Int :=
 .grd (a1 ≠ 0) <|
 .cut 0 (fun (y1 : Int) => ⟨[(5, pz y1)], [], [], 0⟩)
 (.br (decide ((a0.tmod a1) < 0))
 (.ret (.out (IntKind.i64.wrap ((a0.tmod a1) + a1))))
 (.ret (.out (a0.tmod a1)))) fun y1 =>
 .ret y1
noncomputable def make_Round_C (a0 : Int) (a1 : Int) : CallS Int :=
  mkC [] hd Tryz.func31 (by kernel_rfl) (make_Round_T a0 a1) 0 [pz a0, pz a1] [] (fun r => pz r) (fun _ => []) (by kernel_rfl)
noncomputable def Source_Next_T (a0 : (List Int)) (a1 : Int) (a2 : Int) : T (Int × (List Int) × Int) :=
 .br (decide (a1 ≥ ((a0.length : Nat) : Int)))
 (.ret (0, a0, a1))
 (.grd (0 ≤ (IntKind.i64.wrap ((IntKind.i64.wrap (a1 + 1)) - 1)) ∧ (IntKind.i64.wrap ((IntKind.i64.wrap (a1 + 1)) - 1)) < ((a0.length : Nat) : Int)) <|
 .call (make_Round_C (a0.getD (((IntKind.i64.wrap ((IntKind.i64.wrap (a1 + 1)) - 1))).toNat) default) a2) [] fun y1 =>
 .ret (y1, a0, (IntKind.i64.wrap (a1 + 1))))
noncomputable def Source_Next_C (a0 : (List Int)) (a1 : Int) (a2 : Int) : CallS (Int × (List Int) × Int) :=
  mkC [] hd Tryz.func70 (by kernel_rfl) (Source_Next_T a0 a1 a2) 1 [.ptr 0 0, pz a2] [(0, .box [.pure (encL 1 encI_i64 a0), pz a1])] (fun r => pz r.1) (fun r => [(0, .box [.pure (encL 1 encI_i64 r.2.1), pz r.2.2])]) (by kernel_rfl)
noncomputable def make_letter_T (a0 : Int) : T ByteArray :=
 .grd (0 ≤ a0 ∧ a0 ≤ (IntKind.i64.wrap (a0 + 1)) ∧ (IntKind.i64.wrap (a0 + 1)) ≤ (((⟨#[97, 98, 99, 100, 101, 102, 103, 104, 105, 106]⟩ : ByteArray).size : Nat) : Int)) <|
 .ret ((⟨#[97, 98, 99, 100, 101, 102, 103, 104, 105, 106]⟩ : ByteArray).extract (a0).toNat ((IntKind.i64.wrap (a0 + 1))).toNat)
noncomputable def make_letter_C (a0 : Int) : CallS ByteArray :=
  mkC [] hd Tryz.func206 (by kernel_rfl) (make_letter_T a0) 0 [pz a0] [] (fun r => .pure (.str r)) (fun _ => []) (by kernel_rfl)
noncomputable def Source_Signed_T (a0 : (List Int)) (a1 : Int) (a2 : Int) : T (Int × (List Int) × Int) :=
 .call (Source_Next_C a0 a1 (IntKind.i64.wrap ((IntKind.i64.wrap (2 * a2)) + 1))) [(0, 0)] fun y1 =>
 .ret ((IntKind.i64.wrap (y1.1 - a2)), y1.2.1, y1.2.2)
noncomputable def Source_Signed_C (a0 : (List Int)) (a1 : Int) (a2 : Int) : CallS (Int × (List Int) × Int) :=
  mkC [] hd Tryz.func113 (by kernel_rfl) (Source_Signed_T a0 a1 a2) 1 [.ptr 0 0, pz a2] [(0, .box [.pure (encL 1 encI_i64 a0), pz a1])] (fun r => pz r.1) (fun r => [(0, .box [.pure (encL 1 encI_i64 r.2.1), pz r.2.2])]) (by kernel_rfl)
noncomputable def make_joint_T (a0 : (List Int)) (a1 : Int) (a2 : Int) : T (S_Joint × (List Int) × Int) :=
 .call (make_letter_C a2) [] fun y4 =>
 .call (Source_Next_C a0 a1 4) [(0, 0)] fun y5 =>
 .call (Source_Next_C y5.2.1 y5.2.2 3) [(0, 0)] fun y6 =>
 .call (Source_Next_C y6.2.1 y6.2.2 8) [(0, 0)] fun y8 =>
 .grd (0 ≤ y8.1 ∧ y8.1 < ((8 : Nat) : Int)) <|
 .cut 0 (fun (y13 : ((List Int) × Int × Int)) => ⟨[(0, .ptr 0 0), (1, pz a2), (4, .ptr 1 0), (5, .ptr 2 0)], [(0, .box [.pure (encL 1 encI_i64 y13.1), pz y13.2.1]), (1, .box [.pure (.str (⟨#[]⟩ : ByteArray)), pz 0, pz 0, pz 0, pz 0, pz 0, pz 0, pz 0, pz 0, pz 0, pz 0, pz 0]), (2, .box [.pure (.str y4), pz (([3, 3, 1, 2, 4, 5, 3, 0] : List Int).getD (y8.1).toNat 0), pz y13.2.2, pz 0, pz 0, pz 0, pz 0, pz 0, pz (IntKind.i64.wrap (1 + y5.1)), pz 65536, pz (IntKind.i64.wrap (65536 + y6.1)), pz 327680])], [], 3⟩)
 (.call (Source_Next_C y8.2.1 y8.2.2 4) [(0, 0)] fun y15 =>
 .br (y15.1 == 1)
 (.ret (.out (y15.2.1, y15.2.2, (-1))))
 (.ret (.out (y15.2.1, y15.2.2, (IntKind.i64.wrap (a2 - 1)))))) fun y13 =>
 .cut 0 (fun (y20 : ((List Int) × Int × Int × Int × Int)) => ⟨[(0, .ptr 0 0), (4, .ptr 1 0), (5, .ptr 2 0)], [(0, .box [.pure (encL 1 encI_i64 y20.1), pz y20.2.1]), (1, .box [.pure (.str (⟨#[]⟩ : ByteArray)), pz 0, pz 0, pz 0, pz 0, pz 0, pz 0, pz 0, pz 0, pz 0, pz 0, pz 0]), (2, .box [.pure (.str y4), pz (([3, 3, 1, 2, 4, 5, 3, 0] : List Int).getD (y8.1).toNat 0), pz y13.2.2, pz y20.2.2.1, pz y20.2.2.2.1, pz y20.2.2.2.2, pz 0, pz 0, pz (IntKind.i64.wrap (1 + y5.1)), pz 65536, pz (IntKind.i64.wrap (65536 + y6.1)), pz 327680])], [], 3⟩)
 (.br (decide (a2 > 0))
 (.call (Source_Signed_C y13.1 y13.2.1 2) [(0, 0)] fun y21 =>
 .call (Source_Signed_C y21.2.1 y21.2.2 1) [(0, 0)] fun y22 =>
 .ret (.out (y22.2.1, y22.2.2, 131072, (IntKind.i64.wrap (y21.1 * 32768)), (IntKind.i64.wrap (y22.1 * 32768)))))
 (.ret (.out (y13.1, y13.2.1, 0, 0, 0)))) fun y20 =>
 .cut 0 (fun (y35 : ((List Int) × Int × Int × Int)) => ⟨[(4, .ptr 1 0), (5, .ptr 2 0)], [(0, .box [.pure (encL 1 encI_i64 y35.1), pz y35.2.1]), (1, .box [.pure (.str (⟨#[]⟩ : ByteArray)), pz 0, pz 0, pz 0, pz 0, pz 0, pz 0, pz 0, pz 0, pz 0, pz 0, pz 0]), (2, .box [.pure (.str y4), pz (([3, 3, 1, 2, 4, 5, 3, 0] : List Int).getD (y8.1).toNat 0), pz y13.2.2, pz y20.2.2.1, pz y20.2.2.2.1, pz y20.2.2.2.2, pz y35.2.2.1, pz y35.2.2.2, pz (IntKind.i64.wrap (1 + y5.1)), pz 65536, pz (IntKind.i64.wrap (65536 + y6.1)), pz 327680])], [], 3⟩)
 (.br ((([3, 3, 1, 2, 4, 5, 3, 0] : List Int).getD (y8.1).toNat 0) == 0)
 (.ret (.out (y20.1, y20.2.1, 0, 0)))
 (.cut 0 (fun (y36 : Bool) => ⟨[(0, .ptr 0 0), (4, .ptr 1 0), (5, .ptr 2 0), (55, .pure (.bool y36))], [(0, .box [.pure (encL 1 encI_i64 y20.1), pz y20.2.1]), (1, .box [.pure (.str (⟨#[]⟩ : ByteArray)), pz 0, pz 0, pz 0, pz 0, pz 0, pz 0, pz 0, pz 0, pz 0, pz 0, pz 0]), (2, .box [.pure (.str y4), pz (([3, 3, 1, 2, 4, 5, 3, 0] : List Int).getD (y8.1).toNat 0), pz y13.2.2, pz y20.2.2.1, pz y20.2.2.2.1, pz y20.2.2.2.2, pz 0, pz 0, pz (IntKind.i64.wrap (1 + y5.1)), pz 65536, pz (IntKind.i64.wrap (65536 + y6.1)), pz 327680])], [], 3⟩)
 (.br ((([3, 3, 1, 2, 4, 5, 3, 0] : List Int).getD (y8.1).toNat 0) == 4)
 (.ret (.out ((([3, 3, 1, 2, 4, 5, 3, 0] : List Int).getD (y8.1).toNat 0) == 4)))
 (.ret (.out ((([3, 3, 1, 2, 4, 5, 3, 0] : List Int).getD (y8.1).toNat 0) == 5)))) fun y36 =>
 .br y36
 (.call (Source_Next_C y20.1 y20.2.1 3) [(0, 0)] fun y37 =>
 .call (Source_Next_C y37.2.1 y37.2.2 4) [(0, 0)] fun y38 =>
 .ret (.out (y38.2.1, y38.2.2, (IntKind.i64.wrap ((IntKind.i64.wrap (0 - y37.1)) * 65536)), (IntKind.i64.wrap (y38.1 * 32768)))))
 (.call (Source_Next_C y20.1 y20.2.1 5) [(0, 0)] fun y39 =>
 .ok ((8 : Int) ≠ 0) (by decide) <|
 .call (Source_Next_C y39.2.1 y39.2.2 4) [(0, 0)] fun y40 =>
 .ok ((8 : Int) ≠ 0) (by decide) <|
 .call (Source_Next_C y40.2.1 y40.2.2 3) [(0, 0)] fun y41 =>
 .ret (.out (y41.2.1, y41.2.2, (IntKind.i64.wrap ((IntKind.i64.wrap ((IntKind.i64.wrap (0 - y39.1)) * 65536)).tdiv 8)), (IntKind.i64.wrap ((IntKind.i64.wrap ((IntKind.i64.wrap ((IntKind.i64.wrap (1 + y40.1)) * 65536)).tdiv 8)) + y41.1))))))) fun y35 =>
 .ret ((⟨y4, (([3, 3, 1, 2, 4, 5, 3, 0] : List Int).getD (y8.1).toNat 0), y13.2.2, (y20.2.2.1, y20.2.2.2.1, y20.2.2.2.2), y35.2.2.1, y35.2.2.2, (IntKind.i64.wrap (1 + y5.1)), 65536, (IntKind.i64.wrap (65536 + y6.1)), 327680⟩ : S_Joint), y35.1, y35.2.1)
noncomputable def make_joint_C (a0 : (List Int)) (a1 : Int) (a2 : Int) : CallS (S_Joint × (List Int) × Int) :=
  mkC [] hd Tryz.func160 (by kernel_rfl) (make_joint_T a0 a1 a2) 1 [.ptr 0 0, pz a2] [(0, .box [.pure (encL 1 encI_i64 a0), pz a1])] (fun r => .pure (enc_Joint r.1)) (fun r => [(0, .box [.pure (encL 1 encI_i64 r.2.1), pz r.2.2])]) (by kernel_rfl)
noncomputable def make_robot_T (a0 : (List Int)) (a1 : Int) : T (S_Robot × (List Int) × Int) :=
 .call (Source_Next_C a0 a1 3) [(0, 0)] fun y2 =>
 .loop (fun (x15 : ((List Int) × Int × (List S_Joint) × Int)) => ⟨[(0, .ptr 0 0), (2, .ptr 1 0), (3, .ptr 4 0), (4, pz (IntKind.i64.wrap (1 + y2.1))), (5, pz x15.2.2.2)], [(0, .box [.pure (encL 1 encI_i64 x15.1), pz x15.2.1]), (1, .box [.vec 2, .vec 3]), (2, .nilv), (3, .nilv), (4, .box [.vec 5, .vec 6]), (5, vecO 12 enc_Joint x15.2.2.1 158), (6, .nilv)], [], 7⟩)
 (.exit 0) (fun (y18 : ((List Int) × Int × (List S_Joint))) => ⟨[(0, .ptr 0 0), (2, .ptr 1 0), (3, .ptr 4 0), (4, pz (IntKind.i64.wrap (1 + y2.1)))], [(0, .box [.pure (encL 1 encI_i64 y18.1), pz y18.2.1]), (1, .box [.vec 2, .vec 3]), (2, .nilv), (3, .nilv), (4, .box [.vec 5, .vec 6]), (5, vecO 12 enc_Joint y18.2.2 158), (6, .nilv)], [], 7⟩)
 (fun x15 => .br (decide (x15.2.2.2 < (IntKind.i64.wrap (1 + y2.1))))
 (.call (make_joint_C x15.1 x15.2.1 x15.2.2.2) [(0, 0)] fun y20 =>
 .conv 6005 (cvLit 12 enc_Joint ([y20.1] : (List S_Joint)) 158) <|
 .conv 6006 (cvApp 12 enc_Joint x15.2.2.1 ([y20.1] : (List S_Joint)) 158) <|
 .grd ((x15.2.2.1.length + ([y20.1] : (List S_Joint)).length) * 104 ≤ 140737488355328 ∧ (x15.2.2.1.length + ([y20.1] : (List S_Joint)).length) ≤ maxLen) <|
 .ret (.next (y20.2.1, y20.2.2, (x15.2.2.1 ++ ([y20.1] : (List S_Joint))), (IntKind.i64.wrap (x15.2.2.2 + 1)))))
 (.ret (.out (x15.1, x15.2.1, x15.2.2.1))))
 (y2.2.1, y2.2.2, nl, 0) [] fun y18 =>
 .call (Source_Next_C y18.1 y18.2.1 3) [(0, 0)] fun y51 =>
 .loop (fun (x61 : ((List Int) × Int × (List S_Mass) × Int)) => ⟨[(0, .ptr 0 0), (2, .ptr 1 0), (3, .ptr 4 0), (4, pz (IntKind.i64.wrap (1 + y2.1))), (6, pz x61.2.2.2)], [(0, .box [.pure (encL 1 encI_i64 x61.1), pz x61.2.1]), (1, .box [.vec 2, .vec 3]), (2, .nilv), (3, .nilv), (4, .box [.vec 5, .vec 6]), (5, vecO 12 enc_Joint y18.2.2 158), (6, vecO 5 enc_Mass x61.2.2.1 218)], [], 7⟩)
 (.exit 2) (fun (y70 : ((List Int) × Int × (List S_Mass))) => ⟨[(2, .ptr 1 0), (3, .ptr 4 0)], [(0, .box [.pure (encL 1 encI_i64 y70.1), pz y70.2.1]), (1, .box [.vec 2, .vec 3]), (2, .nilv), (3, .nilv), (4, .box [.vec 5, .vec 6]), (5, vecO 12 enc_Joint y18.2.2 158), (6, vecO 5 enc_Mass y70.2.2 218)], [], 7⟩)
 (fun x61 => .br (decide (x61.2.2.2 > 0))
 (.call (Source_Next_C x61.1 x61.2.1 (IntKind.i64.wrap (1 + y2.1))) [(0, 0)] fun y75 =>
 .call (Source_Next_C y75.2.1 y75.2.2 9000) [(0, 0)] fun y76 =>
 .call (Source_Signed_C y76.2.1 y76.2.2 3) [(0, 0)] fun y77 =>
 .call (Source_Signed_C y77.2.1 y77.2.2 2) [(0, 0)] fun y78 =>
 .conv 10016 (cvLit 5 enc_Mass ([(⟨y75.1, (IntKind.i64.wrap (1 + y76.1)), ((IntKind.i64.wrap (y77.1 * 32768)), 0, (IntKind.i64.wrap (y78.1 * 32768)))⟩ : S_Mass)] : (List S_Mass)) 218) <|
 .conv 10017 (cvApp 5 enc_Mass x61.2.2.1 ([(⟨y75.1, (IntKind.i64.wrap (1 + y76.1)), ((IntKind.i64.wrap (y77.1 * 32768)), 0, (IntKind.i64.wrap (y78.1 * 32768)))⟩ : S_Mass)] : (List S_Mass)) 218) <|
 .grd ((x61.2.2.1.length + ([(⟨y75.1, (IntKind.i64.wrap (1 + y76.1)), ((IntKind.i64.wrap (y77.1 * 32768)), 0, (IntKind.i64.wrap (y78.1 * 32768)))⟩ : S_Mass)] : (List S_Mass)).length) * 40 ≤ 140737488355328 ∧ (x61.2.2.1.length + ([(⟨y75.1, (IntKind.i64.wrap (1 + y76.1)), ((IntKind.i64.wrap (y77.1 * 32768)), 0, (IntKind.i64.wrap (y78.1 * 32768)))⟩ : S_Mass)] : (List S_Mass)).length) ≤ maxLen) <|
 .ret (.next (y78.2.1, y78.2.2, (x61.2.2.1 ++ ([(⟨y75.1, (IntKind.i64.wrap (1 + y76.1)), ((IntKind.i64.wrap (y77.1 * 32768)), 0, (IntKind.i64.wrap (y78.1 * 32768)))⟩ : S_Mass)] : (List S_Mass))), (IntKind.i64.wrap (x61.2.2.2 - 1)))))
 (.ret (.out (x61.1, x61.2.1, x61.2.2.1))))
 (y51.2.1, y51.2.2, nl, y51.1) [] fun y70 =>
 .ret ((⟨y18.2.2, y70.2.2⟩ : S_Robot), y70.1, y70.2.1)
noncomputable def make_robot_C (a0 : (List Int)) (a1 : Int) : CallS (S_Robot × (List Int) × Int) :=
  mkC [] hd Tryz.func111 (by kernel_rfl) (make_robot_T a0 a1) 1 [.ptr 0 0] [(0, .box [.pure (encL 1 encI_i64 a0), pz a1])] (fun r => .pure (enc_Robot r.1)) (fun r => [(0, .box [.pure (encL 1 encI_i64 r.2.1), pz r.2.2])]) (by kernel_rfl)
noncomputable def make_points_T (a0 : (List Int)) (a1 : Int) (a2 : (Int × Int × Int)) : T ((List (Int × Int × Int)) × (List Int) × Int) :=
 .conv 1001 (cvLit 3 enc_arr_3_int64 ([a2] : (List (Int × Int × Int))) 102) <|
 .call (Source_Next_C a0 a1 4) [(0, 0)] fun y25 =>
 .loop (fun (x33 : ((List Int) × Int × (List (Int × Int × Int)) × Int)) => ⟨[(0, .ptr 0 0), (3, .ptr 1 0), (5, .vec 2), (6, pz x33.2.2.2)], [(0, .box [.pure (encL 1 encI_i64 x33.1), pz x33.2.1]), (1, .box [pz a2.1, pz a2.2.1, pz a2.2.2]), (2, vecO 3 enc_arr_3_int64 x33.2.2.1 102)], [], 3⟩)
 (.exit 0) (fun (y40 : ((List Int) × Int × (List (Int × Int × Int)))) => ⟨[(5, .vec 1)], [(0, .box [.pure (encL 1 encI_i64 y40.1), pz y40.2.1]), (1, vecO 3 enc_arr_3_int64 y40.2.2 102)], [], 2⟩)
 (fun x33 => .br (decide (x33.2.2.2 > 0))
 (.ix 0 3 rfl <|
 .call (Source_Signed_C x33.1 x33.2.1 3) [(0, 0)] fun y44 =>
 .ix 1 3 rfl <|
 .call (Source_Signed_C y44.2.1 y44.2.2 2) [(0, 0)] fun y45 =>
 .ix 2 3 rfl <|
 .call (Source_Signed_C y45.2.1 y45.2.2 2) [(0, 0)] fun y46 =>
 .conv 5020 (cvLit 3 enc_arr_3_int64 ([((IntKind.i64.wrap (a2.1 + (IntKind.i64.wrap (y44.1 * 32768)))), (IntKind.i64.wrap (a2.2.1 + (IntKind.i64.wrap (y45.1 * 32768)))), (IntKind.i64.wrap (a2.2.2 + (IntKind.i64.wrap (y46.1 * 32768)))))] : (List (Int × Int × Int))) 102) <|
 .conv 5021 (cvApp 3 enc_arr_3_int64 x33.2.2.1 ([((IntKind.i64.wrap (a2.1 + (IntKind.i64.wrap (y44.1 * 32768)))), (IntKind.i64.wrap (a2.2.1 + (IntKind.i64.wrap (y45.1 * 32768)))), (IntKind.i64.wrap (a2.2.2 + (IntKind.i64.wrap (y46.1 * 32768)))))] : (List (Int × Int × Int))) 102) <|
 .grd ((x33.2.2.1.length + ([((IntKind.i64.wrap (a2.1 + (IntKind.i64.wrap (y44.1 * 32768)))), (IntKind.i64.wrap (a2.2.1 + (IntKind.i64.wrap (y45.1 * 32768)))), (IntKind.i64.wrap (a2.2.2 + (IntKind.i64.wrap (y46.1 * 32768)))))] : (List (Int × Int × Int))).length) * 24 ≤ 140737488355328 ∧ (x33.2.2.1.length + ([((IntKind.i64.wrap (a2.1 + (IntKind.i64.wrap (y44.1 * 32768)))), (IntKind.i64.wrap (a2.2.1 + (IntKind.i64.wrap (y45.1 * 32768)))), (IntKind.i64.wrap (a2.2.2 + (IntKind.i64.wrap (y46.1 * 32768)))))] : (List (Int × Int × Int))).length) ≤ maxLen) <|
 .ret (.next (y46.2.1, y46.2.2, (x33.2.2.1 ++ ([((IntKind.i64.wrap (a2.1 + (IntKind.i64.wrap (y44.1 * 32768)))), (IntKind.i64.wrap (a2.2.1 + (IntKind.i64.wrap (y45.1 * 32768)))), (IntKind.i64.wrap (a2.2.2 + (IntKind.i64.wrap (y46.1 * 32768)))))] : (List (Int × Int × Int)))), (IntKind.i64.wrap (x33.2.2.2 - 1)))))
 (.ret (.out (x33.1, x33.2.1, x33.2.2.1))))
 (y25.2.1, y25.2.2, ([a2] : (List (Int × Int × Int))), y25.1) [] fun y40 =>
 .ret (y40.2.2, y40.1, y40.2.1)
noncomputable def make_points_C (a0 : (List Int)) (a1 : Int) (a2 : (Int × Int × Int)) : CallS ((List (Int × Int × Int)) × (List Int) × Int) :=
  mkC [] hd Tryz.func112 (by kernel_rfl) (make_points_T a0 a1 a2) 1 [.ptr 0 0, .pure (enc_arr_3_int64 a2)] [(0, .box [.pure (encL 1 encI_i64 a0), pz a1])] (fun r => .pure (encL 3 enc_arr_3_int64 r.1)) (fun r => [(0, .box [.pure (encL 1 encI_i64 r.2.1), pz r.2.2])]) (by kernel_rfl)
set_option maxHeartbeats 8000000 in
set_option maxRecDepth 20000 in
noncomputable def make_Scene_T (a0 : (List Int)) : T S_Scene :=
 .call (make_From_C a0) [] fun y2 =>
 .call (make_robot_C y2.1 y2.2) [(0, 128)] fun y4 =>
 .loop (fun (x73 : ((List Int) × Int × (List S_Shape) × Int)) => ⟨[(2, .ptr 0 0), (3, .ptr 5 0), (4, .ptr 6 0), (5, pz x73.2.2.2)], [(0, .box [.vec 1, .vec 2, .vec 3, .vec 4]), (1, .nilv), (2, .nilv), (3, .nilv), (4, .nilv), (5, .box [.pure (encL 1 encI_i64 x73.1), pz x73.2.1]), (6, .box [.pure (encL 12 enc_Joint y4.1.Joints), .pure (encL 5 enc_Mass y4.1.Masses), .vec 7, .vec 8]), (7, vecO 3 enc_Shape x73.2.2.1 170), (8, .nilv)], [], 9⟩)
 (.exit 0) (fun (y90 : ((List Int) × Int × (List S_Shape))) => ⟨[(2, .ptr 0 0), (3, .ptr 5 0), (4, .ptr 6 0)], [(0, .box [.vec 1, .vec 2, .vec 3, .vec 4]), (1, .nilv), (2, .nilv), (3, .nilv), (4, .nilv), (5, .box [.pure (encL 1 encI_i64 y90.1), pz y90.2.1]), (6, .box [.pure (encL 12 enc_Joint y4.1.Joints), .pure (encL 5 enc_Mass y4.1.Masses), .vec 7, .vec 8]), (7, vecO 3 enc_Shape y90.2.2 170), (8, .nilv)], [], 9⟩)
 (fun x73 => .br (decide (x73.2.2.2 < ((y4.1.Joints.length : Nat) : Int)))
 (.cut 0 (fun (y101 : ((List Int) × Int × (List S_Shape))) => ⟨[(2, .ptr 0 0), (3, .ptr 5 0), (4, .ptr 6 0), (5, pz x73.2.2.2)], [(0, .box [.vec 1, .vec 2, .vec 3, .vec 4]), (1, .nilv), (2, .nilv), (3, .nilv), (4, .nilv), (5, .box [.pure (encL 1 encI_i64 y101.1), pz y101.2.1]), (6, .box [.pure (encL 12 enc_Joint y4.1.Joints), .pure (encL 5 enc_Mass y4.1.Masses), .vec 7, .vec 8]), (7, vecO 3 enc_Shape y101.2.2 170), (8, .nilv)], [], 9⟩)
 (.call (Source_Next_C x73.1 x73.2.1 5) [(0, 5)] fun y103 =>
 .br (decide (y103.1 < 4))
 (.call (Source_Next_C y103.2.1 y103.2.2 3) [(0, 5)] fun y104 =>
 .ok ((8 : Int) ≠ 0) (by decide) <|
 .call (Source_Next_C y104.2.1 y104.2.2 4) [(0, 5)] fun y105 =>
 .call (make_points_C y105.2.1 y105.2.2 ((IntKind.i64.wrap (y105.1 * 32768)), 0, 0)) [(0, 5)] fun y106 =>
 .conv 7015 (cvLit 3 enc_Shape ([(⟨x73.2.2.2, (IntKind.i64.wrap ((IntKind.i64.wrap ((IntKind.i64.wrap (1 + y104.1)) * 65536)).tdiv 8)), y106.1⟩ : S_Shape)] : (List S_Shape)) 170) <|
 .conv 7016 (cvApp 3 enc_Shape x73.2.2.1 ([(⟨x73.2.2.2, (IntKind.i64.wrap ((IntKind.i64.wrap ((IntKind.i64.wrap (1 + y104.1)) * 65536)).tdiv 8)), y106.1⟩ : S_Shape)] : (List S_Shape)) 170) <|
 .grd ((x73.2.2.1.length + ([(⟨x73.2.2.2, (IntKind.i64.wrap ((IntKind.i64.wrap ((IntKind.i64.wrap (1 + y104.1)) * 65536)).tdiv 8)), y106.1⟩ : S_Shape)] : (List S_Shape)).length) * 40 ≤ 140737488355328 ∧ (x73.2.2.1.length + ([(⟨x73.2.2.2, (IntKind.i64.wrap ((IntKind.i64.wrap ((IntKind.i64.wrap (1 + y104.1)) * 65536)).tdiv 8)), y106.1⟩ : S_Shape)] : (List S_Shape)).length) ≤ maxLen) <|
 .ret (.out (y106.2.1, y106.2.2, (x73.2.2.1 ++ ([(⟨x73.2.2.2, (IntKind.i64.wrap ((IntKind.i64.wrap ((IntKind.i64.wrap (1 + y104.1)) * 65536)).tdiv 8)), y106.1⟩ : S_Shape)] : (List S_Shape))))))
 (.ret (.out (y103.2.1, y103.2.2, x73.2.2.1)))) fun y101 =>
 .ret (.next (y101.1, y101.2.1, y101.2.2, (IntKind.i64.wrap (x73.2.2.2 + 1)))))
 (.ret (.out (x73.1, x73.2.1, x73.2.2.1))))
 (y4.2.1, y4.2.2, nl, 0) [] fun y90 =>
 .call (Source_Next_C y90.1 y90.2.1 3) [(0, 5)] fun y161 =>
 .loop (fun (x179 : ((List Int) × Int × (List S_Shape) × Int)) => ⟨[(2, .ptr 0 0), (3, .ptr 5 0), (4, .ptr 6 0), (6, pz x179.2.2.2)], [(0, .box [.vec 1, .vec 2, .vec 3, .vec 4]), (1, .nilv), (2, .nilv), (3, .nilv), (4, .nilv), (5, .box [.pure (encL 1 encI_i64 x179.1), pz x179.2.1]), (6, .box [.pure (encL 12 enc_Joint y4.1.Joints), .pure (encL 5 enc_Mass y4.1.Masses), .vec 7, .vec 8]), (7, vecO 3 enc_Shape x179.2.2.1 170), (8, .nilv)], [], 9⟩)
 (.exit 2) (fun (y196 : ((List Int) × Int × (List S_Shape))) => ⟨[(2, .ptr 0 0), (3, .ptr 5 0), (4, .ptr 6 0)], [(0, .box [.vec 1, .vec 2, .vec 3, .vec 4]), (1, .nilv), (2, .nilv), (3, .nilv), (4, .nilv), (5, .box [.pure (encL 1 encI_i64 y196.1), pz y196.2.1]), (6, .box [.pure (encL 12 enc_Joint y4.1.Joints), .pure (encL 5 enc_Mass y4.1.Masses), .vec 7, .vec 8]), (7, vecO 3 enc_Shape y196.2.2 170), (8, .nilv)], [], 9⟩)
 (fun x179 => .br (decide (x179.2.2.2 > 0))
 (.call (Source_Signed_C x179.1 x179.2.1 9) [(0, 5)] fun y208 =>
 .call (Source_Signed_C y208.2.1 y208.2.2 9) [(0, 5)] fun y209 =>
 .call (Source_Signed_C y209.2.1 y209.2.2 2) [(0, 5)] fun y210 =>
 .call (Source_Next_C y210.2.1 y210.2.2 4) [(0, 5)] fun y211 =>
 .ok ((8 : Int) ≠ 0) (by decide) <|
 .call (make_points_C y211.2.1 y211.2.2 ((IntKind.i64.wrap (y208.1 * 32768)), (IntKind.i64.wrap (y209.1 * 32768)), (IntKind.i64.wrap (y210.1 * 32768)))) [(0, 5)] fun y212 =>
 .conv 12011 (cvLit 3 enc_Shape ([(⟨(-1), (IntKind.i64.wrap ((IntKind.i64.wrap ((IntKind.i64.wrap (1 + y211.1)) * 65536)).tdiv 8)), y212.1⟩ : S_Shape)] : (List S_Shape)) 170) <|
 .conv 12012 (cvApp 3 enc_Shape x179.2.2.1 ([(⟨(-1), (IntKind.i64.wrap ((IntKind.i64.wrap ((IntKind.i64.wrap (1 + y211.1)) * 65536)).tdiv 8)), y212.1⟩ : S_Shape)] : (List S_Shape)) 170) <|
 .grd ((x179.2.2.1.length + ([(⟨(-1), (IntKind.i64.wrap ((IntKind.i64.wrap ((IntKind.i64.wrap (1 + y211.1)) * 65536)).tdiv 8)), y212.1⟩ : S_Shape)] : (List S_Shape)).length) * 40 ≤ 140737488355328 ∧ (x179.2.2.1.length + ([(⟨(-1), (IntKind.i64.wrap ((IntKind.i64.wrap ((IntKind.i64.wrap (1 + y211.1)) * 65536)).tdiv 8)), y212.1⟩ : S_Shape)] : (List S_Shape)).length) ≤ maxLen) <|
 .ret (.next (y212.2.1, y212.2.2, (x179.2.2.1 ++ ([(⟨(-1), (IntKind.i64.wrap ((IntKind.i64.wrap ((IntKind.i64.wrap (1 + y211.1)) * 65536)).tdiv 8)), y212.1⟩ : S_Shape)] : (List S_Shape))), (IntKind.i64.wrap (x179.2.2.2 - 1)))))
 (.ret (.out (x179.1, x179.2.1, x179.2.2.1))))
 (y161.2.1, y161.2.2, y90.2.2, (IntKind.i64.wrap (1 + y161.1))) [] fun y196 =>
 .cut 0 (fun (y219 : (List S_Skip)) => ⟨[(2, .ptr 0 0), (4, .ptr 5 0)], [(0, .box [.vec 1, .vec 2, .vec 3, .vec 4]), (1, .nilv), (2, .nilv), (3, .nilv), (4, .nilv), (5, .box [.pure (encL 12 enc_Joint y4.1.Joints), .pure (encL 5 enc_Mass y4.1.Masses), .vec 6, .vec 7]), (6, vecO 3 enc_Shape y196.2.2 170), (7, vecO 2 enc_Skip y219 173)], [], 8⟩)
 (.call (Source_Next_C y196.1 y196.2.1 5) [(0, 5)] fun y221 =>
 .br (y221.1 == 1)
 (.call (Source_Next_C y221.2.1 y221.2.2 ((y4.1.Joints.length : Nat) : Int)) [(0, 5)] fun y222 =>
 .conv 14009 (cvLit 2 enc_Skip ([(⟨(-1), y222.1⟩ : S_Skip)] : (List S_Skip)) 173) <|
 .grd (([(⟨(-1), y222.1⟩ : S_Skip)] : (List S_Skip)).length * 16 ≤ 140737488355328 ∧ ([(⟨(-1), y222.1⟩ : S_Skip)] : (List S_Skip)).length ≤ maxLen) <|
 .ret (.out ([(⟨(-1), y222.1⟩ : S_Skip)] : (List S_Skip))))
 (.ret (.out nl))) fun y219 =>
 .ret (⟨(⟨y4.1.Joints, y4.1.Masses⟩ : S_Robot), y196.2.2, y219⟩ : S_Scene)
noncomputable def make_Scene_C (a0 : (List Int)) : CallS S_Scene :=
  mkC [] hd Tryz.func46 (by kernel_rfl) (make_Scene_T a0) 0 [.pure (encL 1 encI_i64 a0)] [] (fun r => .pure (enc_Scene r)) (fun _ => []) (by kernel_rfl)
noncomputable def make_Config_T (a0 : S_Robot) (a1 : (List Int)) : T (List Int) :=
 .call (make_From_C a1) [] fun y103 =>
 .loop (fun (x172 : ((List Int) × Int × (List Int) × Int)) => ⟨[(2, .ptr 0 0), (5, .ptr 1 0), (6, .vec 2), (7, pz x172.2.2.2)], [(0, .box [.pure (encL 12 enc_Joint a0.Joints), .pure (encL 5 enc_Mass a0.Masses)]), (1, .box [.pure (encL 1 encI_i64 x172.1), pz x172.2.1]), (2, vecO 1 encI_i64 x172.2.2.1 2)], [], 3⟩)
 (.exit 0) (fun (y189 : (List Int)) => ⟨[(6, .vec 0)], [(0, vecO 1 encI_i64 y189 2)], [], 1⟩)
 (fun x172 => .br (decide (x172.2.2.2 < ((a0.Joints.length : Nat) : Int)))
 (.cut 0 (fun (y200 : ((List Int) × Int × (List Int))) => ⟨[(2, .ptr 0 0), (5, .ptr 1 0), (6, .vec 2), (7, pz x172.2.2.2)], [(0, .box [.pure (encL 12 enc_Joint a0.Joints), .pure (encL 5 enc_Mass a0.Masses)]), (1, .box [.pure (encL 1 encI_i64 y200.1), pz y200.2.1]), (2, vecO 1 encI_i64 y200.2.2 2)], [], 3⟩)
 (.grd (0 ≤ x172.2.2.2 ∧ x172.2.2.2 < ((a0.Joints.length : Nat) : Int)) <|
 .grd (0 ≤ x172.2.2.2 ∧ x172.2.2.2 < ((a0.Joints.length : Nat) : Int)) <|
 .call (Source_Next_C x172.1 x172.2.1 6) [(0, 1)] fun y202 =>
 .br (y202.1 == 0)
 (.conv 10002 (cvLit 1 encI_i64 ([(a0.Joints.getD ((x172.2.2.2).toNat) default).Lo] : (List Int)) 2) <|
 .conv 10003 (cvApp 1 encI_i64 x172.2.2.1 ([(a0.Joints.getD ((x172.2.2.2).toNat) default).Lo] : (List Int)) 2) <|
 .grd ((x172.2.2.1.length + ([(a0.Joints.getD ((x172.2.2.2).toNat) default).Lo] : (List Int)).length) * 8 ≤ 140737488355328 ∧ (x172.2.2.1.length + ([(a0.Joints.getD ((x172.2.2.2).toNat) default).Lo] : (List Int)).length) ≤ maxLen) <|
 .ret (.out (y202.2.1, y202.2.2, (x172.2.2.1 ++ ([(a0.Joints.getD ((x172.2.2.2).toNat) default).Lo] : (List Int))))))
 (.br (y202.1 == 1)
 (.conv 12002 (cvLit 1 encI_i64 ([(a0.Joints.getD ((x172.2.2.2).toNat) default).Hi] : (List Int)) 2) <|
 .conv 12003 (cvApp 1 encI_i64 x172.2.2.1 ([(a0.Joints.getD ((x172.2.2.2).toNat) default).Hi] : (List Int)) 2) <|
 .grd ((x172.2.2.1.length + ([(a0.Joints.getD ((x172.2.2.2).toNat) default).Hi] : (List Int)).length) * 8 ≤ 140737488355328 ∧ (x172.2.2.1.length + ([(a0.Joints.getD ((x172.2.2.2).toNat) default).Hi] : (List Int)).length) ≤ maxLen) <|
 .ret (.out (y202.2.1, y202.2.2, (x172.2.2.1 ++ ([(a0.Joints.getD ((x172.2.2.2).toNat) default).Hi] : (List Int))))))
 (.name 8005 ((IntKind.i64.wrap (((a0.Joints.getD ((x172.2.2.2).toNat) default).Hi) - ((a0.Joints.getD ((x172.2.2.2).toNat) default).Lo)))) fun z203 =>
 .name 8006 ((IntKind.i64.wrap (z203 + 1))) fun z204 =>
 .call (Source_Next_C y202.2.1 y202.2.2 z204) [(0, 1)] fun y205 =>
 .conv 8009 (cvLit 1 encI_i64 ([(IntKind.i64.wrap (((a0.Joints.getD ((x172.2.2.2).toNat) default).Lo) + y205.1))] : (List Int)) 2) <|
 .conv 8010 (cvApp 1 encI_i64 x172.2.2.1 ([(IntKind.i64.wrap (((a0.Joints.getD ((x172.2.2.2).toNat) default).Lo) + y205.1))] : (List Int)) 2) <|
 .grd ((x172.2.2.1.length + ([(IntKind.i64.wrap (((a0.Joints.getD ((x172.2.2.2).toNat) default).Lo) + y205.1))] : (List Int)).length) * 8 ≤ 140737488355328 ∧ (x172.2.2.1.length + ([(IntKind.i64.wrap (((a0.Joints.getD ((x172.2.2.2).toNat) default).Lo) + y205.1))] : (List Int)).length) ≤ maxLen) <|
 .ret (.out (y205.2.1, y205.2.2, (x172.2.2.1 ++ ([(IntKind.i64.wrap (((a0.Joints.getD ((x172.2.2.2).toNat) default).Lo) + y205.1))] : (List Int)))))))) fun y200 =>
 .ret (.next (y200.1, y200.2.1, y200.2.2, (IntKind.i64.wrap (x172.2.2.2 + 1)))))
 (.ret (.out x172.2.2.1)))
 (y103.1, y103.2, nl, 0) [] fun y189 =>
 .ret y189
noncomputable def make_Config_C (a0 : S_Robot) (a1 : (List Int)) : CallS (List Int) :=
  mkC [] hd Tryz.func47 (by kernel_rfl) (make_Config_T a0 a1) 0 [.pure (enc_Robot a0), .pure (encL 1 encI_i64 a1)] [] (fun _ => .vec 0) (fun r => [(0, vecO 1 encI_i64 r 2)]) (by kernel_rfl)
noncomputable def token_isLetter_T (a0 : Int) : T Bool :=
 .br (decide (97 ≤ a0))
 (.ret (decide (a0 ≤ 122)))
 (.ret false)
noncomputable def token_isLetter_C (a0 : Int) : CallS Bool :=
  mkC [] hd Tryz.func239 (by kernel_rfl) (token_isLetter_T a0) 0 [.pure (.int .i32 a0)] [] (fun r => .pure (.bool r)) (fun _ => []) (by kernel_rfl)
noncomputable def token_isDigit_T (a0 : Int) : T Bool :=
 .br (decide (48 ≤ a0))
 (.ret (decide (a0 ≤ 57)))
 (.ret false)
noncomputable def token_isDigit_C (a0 : Int) : CallS Bool :=
  mkC [] hd Tryz.func240 (by kernel_rfl) (token_isDigit_T a0) 0 [.pure (.int .i32 a0)] [] (fun r => .pure (.bool r)) (fun _ => []) (by kernel_rfl)
noncomputable def token_Name_T (a0 : ByteArray) : T Bool :=
 .cut 2 (fun (y2 : Bool) => ⟨[(0, .pure (.str a0)), (16, .pure (.bool y2))], [], [], 0⟩)
 (.br (((a0.size : Nat) : Int) == 0)
 (.ret (.out true))
 (.br (decide (((a0.size : Nat) : Int) > 16))
 (.ret (.out true))
 (.ret (.out (a0 == (⟨#[119, 111, 114, 108, 100]⟩ : ByteArray)))))) fun y2 =>
 .br y2
 (.ret false)
 (.loop (fun (x35 : Nat) => ⟨[(18, .ptr 0 0)], [(0, .iter a0 x35)], [], 1⟩)
 (.exit 0) (fun (_ : U0) => ⟨[], [], [], 0⟩)
 (fun x35 => .brP (x35 < a0.size)
 (.cut 2 (fun (y48 : Bool) => ⟨[(18, .ptr 0 0), (38, .pure (.bool y48))], [(0, .iter a0 (x35 + (Utf8.decode a0 x35).2))], [], 1⟩)
 (.call (token_isLetter_C ((Utf8.decode a0 x35).1 : Int)) [] fun y49 =>
 .br (!y49)
 (.br (((x35 : Nat) : Int) == 0)
 (.ret (.out true))
 (.call (token_isDigit_C ((Utf8.decode a0 x35).1 : Int)) [] fun y50 =>
 .br (!y50)
 (.ret (.out (((Utf8.decode a0 x35).1 : Int) != 95)))
 (.ret (.out false))))
 (.ret (.out false))) fun y48 =>
 .br y48
 (.ret (.fin false))
 (.ret (.next (x35 + (Utf8.decode a0 x35).2))))
 (.ret (.out .u)))
 0 [] fun _ =>
 .ret true)
noncomputable def token_Name_C (a0 : ByteArray) : CallS Bool :=
  mkC [] hd Tryz.func207 (by kernel_rfl) (token_Name_T a0) 0 [.pure (.str a0)] [] (fun r => .pure (.bool r)) (fun _ => []) (by kernel_rfl)
noncomputable def robot_Find_T (a0 : S_Robot) (a1 : ByteArray) : T Int :=
 .loop (fun (x5 : Int) => ⟨[(1, .pure (.str a1)), (2, .ptr 0 0), (8, pz ((a0.Joints.length : Nat) : Int)), (9, pz x5)], [(0, .box [.pure (encL 12 enc_Joint a0.Joints), .pure (encL 5 enc_Mass a0.Masses)])], [], 1⟩)
 (.exit 0) (fun (_ : U0) => ⟨[], [], [], 0⟩)
 (fun x5 => .br (decide (x5 < ((a0.Joints.length : Nat) : Int)))
 (.grd (0 ≤ x5 ∧ x5 < ((a0.Joints.length : Nat) : Int)) <|
 .br (((a0.Joints.getD ((x5).toNat) default).Name) == a1)
 (.ret (.fin x5))
 (.ret (.next (IntKind.i64.wrap (x5 + 1)))))
 (.ret (.out .u)))
 0 [] fun _ =>
 .ret (-1)
noncomputable def robot_Find_C (a0 : S_Robot) (a1 : ByteArray) : CallS Int :=
  mkC [] hd Tryz.func208 (by kernel_rfl) (robot_Find_T a0 a1) 0 [.pure (enc_Robot a0), .pure (.str a1)] [] (fun r => pz r) (fun _ => []) (by kernel_rfl)
noncomputable def robot_beyond_T (a0 : (Int × Int × Int)) : T Bool :=
 .loop (fun (x13 : Int) => ⟨[(5, .pure (enc_arr_3_int64 a0)), (6, pz x13)], [], [], 0⟩)
 (.exit 0) (fun (_ : U0) => ⟨[], [], [], 0⟩)
 (fun x13 => .br (decide (x13 < 3))
 (.grd (0 ≤ x13 ∧ x13 < ((3 : Nat) : Int)) <|
 .cut 0 (fun (y18 : Bool) => ⟨[(5, .pure (enc_arr_3_int64 a0)), (6, pz x13), (14, .pure (.bool y18))], [], [], 0⟩)
 (.br (decide ((([a0.1, a0.2.1, a0.2.2] : List Int).getD (x13).toNat 0) < (-4194304)))
 (.ret (.out true))
 (.ret (.out (decide ((([a0.1, a0.2.1, a0.2.2] : List Int).getD (x13).toNat 0) > 4194304))))) fun y18 =>
 .br y18
 (.ret (.fin true))
 (.ret (.next (IntKind.i64.wrap (x13 + 1)))))
 (.ret (.out .u)))
 0 [] fun _ =>
 .ret false
noncomputable def robot_beyond_C (a0 : (Int × Int × Int)) : CallS Bool :=
  mkC [] hd Tryz.func209 (by kernel_rfl) (robot_beyond_T a0) 0 [.pure (enc_arr_3_int64 a0)] [] (fun r => .pure (.bool r)) (fun _ => []) (by kernel_rfl)
noncomputable def robot_limit_T (a0 : Int) : T Int :=
 .cut 3 (fun (y3 : Bool) => ⟨[(3, pz a0), (4, .pure (.bool y3))], [], [], 0⟩)
 (.br (a0 == 1)
 (.ret (.out (a0 == 1)))
 (.br (a0 == 2)
 (.ret (.out (a0 == 2)))
 (.ret (.out (a0 == 3))))) fun y3 =>
 .br y3
 (.ret 524288)
 (.cut 0 (fun (y4 : Bool) => ⟨[(8, .pure (.bool y4))], [], [], 0⟩)
 (.br (a0 == 4)
 (.ret (.out (a0 == 4)))
 (.br (a0 == 5)
 (.ret (.out (a0 == 5)))
 (.ret (.out (a0 == 6))))) fun y4 =>
 .br y4
 (.ret 4194304)
 (.ret 0))
noncomputable def robot_limit_C (a0 : Int) : CallS Int :=
  mkC [] hd Tryz.func210 (by kernel_rfl) (robot_limit_T a0) 0 [pz a0] [] (fun r => pz r) (fun _ => []) (by kernel_rfl)
noncomputable def robot_from1_T (a0 : Int) (a1 : Int) : T Bool :=
 .br (decide (1 ≤ a0))
 (.ret (decide (a0 ≤ a1)))
 (.ret false)
noncomputable def robot_from1_C (a0 : Int) (a1 : Int) : CallS Bool :=
  mkC [] hd Tryz.func211 (by kernel_rfl) (robot_from1_T a0 a1) 0 [pz a0, pz a1] [] (fun r => .pure (.bool r)) (fun _ => []) (by kernel_rfl)
noncomputable def robot_checkJoint_T (a0 : S_Robot) (a1 : Int) : T Int :=
 .grd (0 ≤ a1 ∧ a1 < ((a0.Joints.length : Nat) : Int)) <|
 .cut 1 (fun (y16 : Bool) => ⟨[(1, pz a1), (5, .ptr 0 0), (12, .pure (.bool y16))], [(0, .box [.pure (.str ((a0.Joints.getD ((a1).toNat) default).Name)), pz ((a0.Joints.getD ((a1).toNat) default).Kind), pz ((a0.Joints.getD ((a1).toNat) default).Parent), pz ((a0.Joints.getD ((a1).toNat) default).Offset.1), pz ((a0.Joints.getD ((a1).toNat) default).Offset.2.1), pz ((a0.Joints.getD ((a1).toNat) default).Offset.2.2), pz ((a0.Joints.getD ((a1).toNat) default).Lo), pz ((a0.Joints.getD ((a1).toNat) default).Hi), pz ((a0.Joints.getD ((a1).toNat) default).Weight), pz ((a0.Joints.getD ((a1).toNat) default).Speed), pz ((a0.Joints.getD ((a1).toNat) default).Accel), pz ((a0.Joints.getD ((a1).toNat) default).Torque)])], [], 1⟩)
 (.call (token_Name_C ((a0.Joints.getD ((a1).toNat) default).Name)) [] fun y17 =>
 .br (!y17)
 (.ret (.out true))
 (.call (robot_Find_C (⟨a0.Joints, a0.Masses⟩ : S_Robot) ((a0.Joints.getD ((a1).toNat) default).Name)) [] fun y18 =>
 .ret (.out (y18 != a1)))) fun y16 =>
 .br y16
 (.ret 802)
 (.cut 0 (fun (y19 : Bool) => ⟨[(1, pz a1), (5, .ptr 0 0), (25, .pure (.bool y19))], [(0, .box [.pure (.str ((a0.Joints.getD ((a1).toNat) default).Name)), pz ((a0.Joints.getD ((a1).toNat) default).Kind), pz ((a0.Joints.getD ((a1).toNat) default).Parent), pz ((a0.Joints.getD ((a1).toNat) default).Offset.1), pz ((a0.Joints.getD ((a1).toNat) default).Offset.2.1), pz ((a0.Joints.getD ((a1).toNat) default).Offset.2.2), pz ((a0.Joints.getD ((a1).toNat) default).Lo), pz ((a0.Joints.getD ((a1).toNat) default).Hi), pz ((a0.Joints.getD ((a1).toNat) default).Weight), pz ((a0.Joints.getD ((a1).toNat) default).Speed), pz ((a0.Joints.getD ((a1).toNat) default).Accel), pz ((a0.Joints.getD ((a1).toNat) default).Torque)])], [], 1⟩)
 (.br (decide (((a0.Joints.getD ((a1).toNat) default).Kind) < 0))
 (.ret (.out true))
 (.ret (.out (decide (((a0.Joints.getD ((a1).toNat) default).Kind) > 6))))) fun y19 =>
 .br y19
 (.ret 803)
 (.cut 0 (fun (y20 : Bool) => ⟨[(5, .ptr 0 0), (34, .pure (.bool y20))], [(0, .box [.pure (.str ((a0.Joints.getD ((a1).toNat) default).Name)), pz ((a0.Joints.getD ((a1).toNat) default).Kind), pz ((a0.Joints.getD ((a1).toNat) default).Parent), pz ((a0.Joints.getD ((a1).toNat) default).Offset.1), pz ((a0.Joints.getD ((a1).toNat) default).Offset.2.1), pz ((a0.Joints.getD ((a1).toNat) default).Offset.2.2), pz ((a0.Joints.getD ((a1).toNat) default).Lo), pz ((a0.Joints.getD ((a1).toNat) default).Hi), pz ((a0.Joints.getD ((a1).toNat) default).Weight), pz ((a0.Joints.getD ((a1).toNat) default).Speed), pz ((a0.Joints.getD ((a1).toNat) default).Accel), pz ((a0.Joints.getD ((a1).toNat) default).Torque)])], [], 1⟩)
 (.br (decide (((a0.Joints.getD ((a1).toNat) default).Parent) < (-1)))
 (.ret (.out true))
 (.ret (.out (decide (((a0.Joints.getD ((a1).toNat) default).Parent) ≥ a1))))) fun y20 =>
 .br y20
 (.ret 804)
 (.call (robot_beyond_C ((a0.Joints.getD ((a1).toNat) default).Offset)) [] fun y22 =>
 .br y22
 (.ret 805)
 (.call (robot_limit_C ((a0.Joints.getD ((a1).toNat) default).Kind)) [] fun y24 =>
 .cut 1 (fun (y26 : Bool) => ⟨[(5, .ptr 0 0), (68, .pure (.bool y26))], [(0, .box [.pure (.str ((a0.Joints.getD ((a1).toNat) default).Name)), pz ((a0.Joints.getD ((a1).toNat) default).Kind), pz ((a0.Joints.getD ((a1).toNat) default).Parent), pz ((a0.Joints.getD ((a1).toNat) default).Offset.1), pz ((a0.Joints.getD ((a1).toNat) default).Offset.2.1), pz ((a0.Joints.getD ((a1).toNat) default).Offset.2.2), pz ((a0.Joints.getD ((a1).toNat) default).Lo), pz ((a0.Joints.getD ((a1).toNat) default).Hi), pz ((a0.Joints.getD ((a1).toNat) default).Weight), pz ((a0.Joints.getD ((a1).toNat) default).Speed), pz ((a0.Joints.getD ((a1).toNat) default).Accel), pz ((a0.Joints.getD ((a1).toNat) default).Torque)])], [], 1⟩)
 (.br (decide (((a0.Joints.getD ((a1).toNat) default).Lo) > ((a0.Joints.getD ((a1).toNat) default).Hi)))
 (.ret (.out true))
 (.br (decide (((a0.Joints.getD ((a1).toNat) default).Lo) < (IntKind.i64.wrap (0 - y24))))
 (.ret (.out true))
 (.ret (.out (decide (((a0.Joints.getD ((a1).toNat) default).Hi) > y24)))))) fun y26 =>
 .br y26
 (.ret 806)
 (.cut 1 (fun (y48 : Bool) => ⟨[(90, .pure (.bool y48))], [], [], 0⟩)
 (.call (robot_from1_C ((a0.Joints.getD ((a1).toNat) default).Weight) 1024) [] fun y49 =>
 .br (!y49)
 (.ret (.out true))
 (.call (robot_from1_C ((a0.Joints.getD ((a1).toNat) default).Speed) 1048576) [] fun y50 =>
 .br (!y50)
 (.ret (.out true))
 (.call (robot_from1_C ((a0.Joints.getD ((a1).toNat) default).Accel) 1048576) [] fun y51 =>
 .br (!y51)
 (.ret (.out true))
 (.call (robot_from1_C ((a0.Joints.getD ((a1).toNat) default).Torque) 1099511627776) [] fun y52 =>
 .ret (.out (!y52)))))) fun y48 =>
 .br y48
 (.ret 807)
 (.ret 0))))))
noncomputable def robot_checkJoint_C (a0 : S_Robot) (a1 : Int) : CallS Int :=
  mkC [] hd Tryz.func161 (by kernel_rfl) (robot_checkJoint_T a0 a1) 0 [.pure (enc_Robot a0), pz a1] [] (fun r => pz r) (fun _ => []) (by kernel_rfl)
noncomputable def robot_validMass_T (a0 : S_Robot) (a1 : S_Mass) : T Bool :=
 .br (decide (0 ≤ a1.Link))
 (.br (decide (a1.Link < ((a0.Joints.length : Nat) : Int)))
 (.call (robot_from1_C a1.Mass 65536) [] fun y1 =>
 .br y1
 (.call (robot_beyond_C a1.Point) [] fun y2 =>
 .ret (!y2))
 (.ret false))
 (.ret false))
 (.ret false)
noncomputable def robot_validMass_C (a0 : S_Robot) (a1 : S_Mass) : CallS Bool :=
  mkC [] hd Tryz.func164 (by kernel_rfl) (robot_validMass_T a0 a1) 0 [.pure (enc_Robot a0), .pure (enc_Mass a1)] [] (fun r => .pure (.bool r)) (fun _ => []) (by kernel_rfl)
noncomputable def robot_Check_1_T (a0 : S_Mass) (a1 : (List S_Joint)) (a2 : (List S_Mass)) : T (Bool × (List S_Joint) × (List S_Mass)) :=
 .call (robot_validMass_C (⟨a1, a2⟩ : S_Robot) (⟨a0.Link, a0.Mass, a0.Point⟩ : S_Mass)) [] fun y1 =>
 .ret ((!y1), a1, a2)
noncomputable def robot_Check_1_C (a0 : S_Mass) (a1 : (List S_Joint)) (a2 : (List S_Mass)) : CallS (Bool × (List S_Joint) × (List S_Mass)) :=
  mkC [] hd Tryz.func163 (by kernel_rfl) (robot_Check_1_T a0 a1 a2) 1 [.pure (enc_Mass a0), .ptr 0 0] [(0, .box [.pure (encL 12 enc_Joint a1), .pure (encL 5 enc_Mass a2)])] (fun r => .pure (.bool r.1)) (fun r => [(0, .box [.pure (encL 12 enc_Joint r.2.1), .pure (encL 5 enc_Mass r.2.2)])]) (by kernel_rfl)
noncomputable def slices_IndexFunc_api_Mass_api_Mass_T (a0 : (List S_Mass)) (a1 : (List S_Joint)) (a2 : (List S_Mass)) : T (Int × (List S_Joint) × (List S_Mass)) :=
 .loop (fun (x21 : ((List S_Joint) × (List S_Mass) × Int)) => ⟨[(0, .pure (encL 5 enc_Mass a0)), (1, .func 163 [] [.ptr 0 0]), (7, pz ((a0.length : Nat) : Int)), (8, pz x21.2.2)], [(0, .box [.pure (encL 12 enc_Joint x21.1), .pure (encL 5 enc_Mass x21.2.1)])], [], 1⟩)
 (.exit 0) (fun (y26 : ((List S_Joint) × (List S_Mass))) => ⟨[], [(0, .box [.pure (encL 12 enc_Joint y26.1), .pure (encL 5 enc_Mass y26.2)])], [], 1⟩)
 (fun x21 => .br (decide (x21.2.2 < ((a0.length : Nat) : Int)))
 (.grd (0 ≤ x21.2.2 ∧ x21.2.2 < ((a0.length : Nat) : Int)) <|
 .call (robot_Check_1_C (a0.getD ((x21.2.2).toNat) default) x21.1 x21.2.1) [(0, 0)] fun y30 =>
 .br y30.1
 (.ret (.fin (x21.2.2, y30.2.1, y30.2.2)))
 (.ret (.next (y30.2.1, y30.2.2, (IntKind.i64.wrap (x21.2.2 + 1))))))
 (.ret (.out (x21.1, x21.2.1))))
 (a1, a2, 0) [] fun y26 =>
 .ret ((-1), y26.1, y26.2)
noncomputable def slices_IndexFunc_api_Mass_api_Mass_C (a0 : (List S_Mass)) (a1 : (List S_Joint)) (a2 : (List S_Mass)) : CallS (Int × (List S_Joint) × (List S_Mass)) :=
  mkC [] hd Tryz.func212 (by kernel_rfl) (slices_IndexFunc_api_Mass_api_Mass_T a0 a1 a2) 1 [.pure (encL 5 enc_Mass a0), .func 163 [] [.ptr 0 0]] [(0, .box [.pure (encL 12 enc_Joint a1), .pure (encL 5 enc_Mass a2)])] (fun r => pz r.1) (fun r => [(0, .box [.pure (encL 12 enc_Joint r.2.1), .pure (encL 5 enc_Mass r.2.2)])]) (by kernel_rfl)
noncomputable def slices_ContainsFunc_api_Mass_api_Mass_T (a0 : (List S_Mass)) (a1 : (List S_Joint)) (a2 : (List S_Mass)) : T (Bool × (List S_Joint) × (List S_Mass)) :=
 .call (slices_IndexFunc_api_Mass_api_Mass_C a0 a1 a2) [(0, 0)] fun y1 =>
 .ret ((decide (y1.1 ≥ 0)), y1.2.1, y1.2.2)
noncomputable def slices_ContainsFunc_api_Mass_api_Mass_C (a0 : (List S_Mass)) (a1 : (List S_Joint)) (a2 : (List S_Mass)) : CallS (Bool × (List S_Joint) × (List S_Mass)) :=
  mkC [] hd Tryz.func162 (by kernel_rfl) (slices_ContainsFunc_api_Mass_api_Mass_T a0 a1 a2) 1 [.pure (encL 5 enc_Mass a0), .func 163 [] [.ptr 0 0]] [(0, .box [.pure (encL 12 enc_Joint a1), .pure (encL 5 enc_Mass a2)])] (fun r => .pure (.bool r.1)) (fun r => [(0, .box [.pure (encL 12 enc_Joint r.2.1), .pure (encL 5 enc_Mass r.2.2)])]) (by kernel_rfl)
noncomputable def robot_Check_T (a0 : S_Robot) : T Int :=
 .cut 2 (fun (y2 : Bool) => ⟨[(1, .ptr 0 0), (14, .pure (.bool y2))], [(0, .box [.pure (encL 12 enc_Joint a0.Joints), .pure (encL 5 enc_Mass a0.Masses)])], [], 1⟩)
 (.br (((a0.Joints.length : Nat) : Int) == 0)
 (.ret (.out true))
 (.ret (.out (decide (((a0.Joints.length : Nat) : Int) > 10))))) fun y2 =>
 .br y2
 (.ret 801)
 (.loop (fun (x23 : Int) => ⟨[(1, .ptr 0 0), (17, pz ((a0.Joints.length : Nat) : Int)), (18, pz x23)], [(0, .box [.pure (encL 12 enc_Joint a0.Joints), .pure (encL 5 enc_Mass a0.Masses)])], [], 1⟩)
 (.exit 0) (fun (_ : U0) => ⟨[(1, .ptr 0 0)], [(0, .box [.pure (encL 12 enc_Joint a0.Joints), .pure (encL 5 enc_Mass a0.Masses)])], [], 1⟩)
 (fun x23 => .br (decide (x23 < ((a0.Joints.length : Nat) : Int)))
 (.call (robot_checkJoint_C (⟨a0.Joints, a0.Masses⟩ : S_Robot) x23) [] fun y32 =>
 .br (y32 != 0)
 (.ret (.fin y32))
 (.ret (.next (IntKind.i64.wrap (x23 + 1)))))
 (.ret (.out .u)))
 0 [] fun _ =>
 .cut 1 (fun (y39 : Bool) => ⟨[(37, .pure (.bool y39))], [], [], 0⟩)
 (.br (decide (((a0.Masses.length : Nat) : Int) > 32))
 (.ret (.out true))
 (.call (slices_ContainsFunc_api_Mass_api_Mass_C a0.Masses a0.Joints a0.Masses) [(0, 0)] fun y40 =>
 .ret (.out y40.1))) fun y39 =>
 .br y39
 (.ret 808)
 (.ret 0))
noncomputable def robot_Check_C (a0 : S_Robot) : CallS Int :=
  mkC [] hd Tryz.func114 (by kernel_rfl) (robot_Check_T a0) 0 [.pure (enc_Robot a0)] [] (fun r => pz r) (fun _ => []) (by kernel_rfl)
noncomputable def scene_isLink_T (a0 : S_Scene) (a1 : Int) : T Bool :=
 .br (decide ((-1) ≤ a1))
 (.ret (decide (a1 < ((a0.Robot.Joints.length : Nat) : Int))))
 (.ret false)
noncomputable def scene_isLink_C (a0 : S_Scene) (a1 : Int) : CallS Bool :=
  mkC [] hd Tryz.func116 (by kernel_rfl) (scene_isLink_T a0 a1) 0 [.pure (enc_Scene a0), pz a1] [] (fun r => .pure (.bool r)) (fun _ => []) (by kernel_rfl)
noncomputable def scene_checkShape_T (a0 : S_Scene) (a1 : S_Shape) : T Int :=
 .cut 3 (fun (y269 : Bool) => ⟨[(3, .ptr 0 0), (35, .pure (.bool y269))], [(0, .box [pz a1.Link, pz a1.Radius, .pure (encL 3 enc_arr_3_int64 a1.Points)])], [], 1⟩)
 (.call (scene_isLink_C a0 a1.Link) [] fun y270 =>
 .br (!y270)
 (.ret (.out true))
 (.br (decide (a1.Radius < 1))
 (.ret (.out true))
 (.br (decide (a1.Radius > 1048576))
 (.ret (.out true))
 (.br (decide (((a1.Points.length : Nat) : Int) < 1))
 (.ret (.out true))
 (.ret (.out (decide (((a1.Points.length : Nat) : Int) > 8)))))))) fun y269 =>
 .br y269
 (.ret 902)
 (.loop (fun (x443 : Int) => ⟨[(37, .pure (encL 3 enc_arr_3_int64 a1.Points)), (38, pz ((a1.Points.length : Nat) : Int)), (39, pz x443)], [], [], 0⟩)
 (.exit 0) (fun (_ : U0) => ⟨[], [], [], 0⟩)
 (fun x443 => .br (decide (x443 < ((a1.Points.length : Nat) : Int)))
 (.grd (0 ≤ x443 ∧ x443 < ((a1.Points.length : Nat) : Int)) <|
 .loop (fun (x515 : Int) => ⟨[(37, .pure (encL 3 enc_arr_3_int64 a1.Points)), (38, pz ((a1.Points.length : Nat) : Int)), (39, pz x443), (43, .pure (enc_arr_3_int64 (a1.Points.getD ((x443).toNat) default))), (44, pz x515)], [], [], 0⟩)
 (.exit 2) (fun (_ : U0) => ⟨[(37, .pure (encL 3 enc_arr_3_int64 a1.Points)), (38, pz ((a1.Points.length : Nat) : Int)), (39, pz x443)], [], [], 0⟩)
 (fun x515 => .br (decide (x515 < 3))
 (.grd (0 ≤ x515 ∧ x515 < ((3 : Nat) : Int)) <|
 .name 9000 ((([(a1.Points.getD ((x443).toNat) default).1, (a1.Points.getD ((x443).toNat) default).2.1, (a1.Points.getD ((x443).toNat) default).2.2] : List Int).getD (x515).toNat 0)) fun z527 =>
 .cut 0 (fun (y528 : Bool) => ⟨[(37, .pure (encL 3 enc_arr_3_int64 a1.Points)), (38, pz ((a1.Points.length : Nat) : Int)), (39, pz x443), (43, .pure (enc_arr_3_int64 (a1.Points.getD ((x443).toNat) default))), (44, pz x515), (52, .pure (.bool y528))], [], [], 0⟩)
 (.br (decide (z527 < (-4194304)))
 (.ret (.out true))
 (.ret (.out (decide (z527 > 4194304))))) fun y528 =>
 .br y528
 (.ret (.fin (.fin 805)))
 (.ret (.next (IntKind.i64.wrap (x515 + 1)))))
 (.ret (.out .u)))
 0 [] fun _ =>
 .ret (.next (IntKind.i64.wrap (x443 + 1))))
 (.ret (.out .u)))
 0 [] fun _ =>
 .ret 0)
noncomputable def scene_checkShape_C (a0 : S_Scene) (a1 : S_Shape) : CallS Int :=
  mkC [] hd Tryz.func115 (by kernel_rfl) (scene_checkShape_T a0 a1) 0 [.pure (enc_Scene a0), .pure (enc_Shape a1)] [] (fun r => pz r) (fun _ => []) (by kernel_rfl)
noncomputable def scene_Check_T (a0 : S_Scene) : T Int :=
 .call (robot_Check_C a0.Robot) [] fun y4 =>
 .br (y4 != 0)
 (.ret y4)
 (.br (decide (((a0.Shapes.length : Nat) : Int) > 24))
 (.ret 901)
 (.loop (fun (x25 : Int) => ⟨[(1, .ptr 0 0), (20, .pure (encL 3 enc_Shape a0.Shapes)), (21, pz ((a0.Shapes.length : Nat) : Int)), (22, pz x25)], [(0, .box [.pure (encL 12 enc_Joint a0.Robot.Joints), .pure (encL 5 enc_Mass a0.Robot.Masses), .pure (encL 3 enc_Shape a0.Shapes), .pure (encL 2 enc_Skip a0.Skips)])], [], 1⟩)
 (.exit 0) (fun (_ : U0) => ⟨[(1, .ptr 0 0)], [(0, .box [.pure (encL 12 enc_Joint a0.Robot.Joints), .pure (encL 5 enc_Mass a0.Robot.Masses), .pure (encL 3 enc_Shape a0.Shapes), .pure (encL 2 enc_Skip a0.Skips)])], [], 1⟩)
 (fun x25 => .br (decide (x25 < ((a0.Shapes.length : Nat) : Int)))
 (.grd (0 ≤ x25 ∧ x25 < ((a0.Shapes.length : Nat) : Int)) <|
 .call (scene_checkShape_C a0 (a0.Shapes.getD ((x25).toNat) default)) [] fun y34 =>
 .br (y34 != 0)
 (.ret (.fin y34))
 (.ret (.next (IntKind.i64.wrap (x25 + 1)))))
 (.ret (.out .u)))
 0 [] fun _ =>
 .br (decide (((a0.Skips.length : Nat) : Int) > 64))
 (.ret 903)
 (.loop (fun (x95 : Int) => ⟨[(1, .ptr 0 0), (38, .pure (encL 2 enc_Skip a0.Skips)), (39, pz ((a0.Skips.length : Nat) : Int)), (40, pz x95)], [(0, .box [.pure (encL 12 enc_Joint a0.Robot.Joints), .pure (encL 5 enc_Mass a0.Robot.Masses), .pure (encL 3 enc_Shape a0.Shapes), .pure (encL 2 enc_Skip a0.Skips)])], [], 1⟩)
 (.exit 2) (fun (_ : U0) => ⟨[], [], [], 0⟩)
 (fun x95 => .br (decide (x95 < ((a0.Skips.length : Nat) : Int)))
 (.grd (0 ≤ x95 ∧ x95 < ((a0.Skips.length : Nat) : Int)) <|
 .cut 0 (fun (y122 : Bool) => ⟨[(1, .ptr 0 0), (38, .pure (encL 2 enc_Skip a0.Skips)), (39, pz ((a0.Skips.length : Nat) : Int)), (40, pz x95), (55, .pure (.bool y122))], [(0, .box [.pure (encL 12 enc_Joint a0.Robot.Joints), .pure (encL 5 enc_Mass a0.Robot.Masses), .pure (encL 3 enc_Shape a0.Shapes), .pure (encL 2 enc_Skip a0.Skips)])], [], 1⟩)
 (.call (scene_isLink_C a0 ((a0.Skips.getD ((x95).toNat) default).A)) [] fun y123 =>
 .br (!y123)
 (.ret (.out true))
 (.call (scene_isLink_C a0 ((a0.Skips.getD ((x95).toNat) default).B)) [] fun y124 =>
 .ret (.out (!y124)))) fun y122 =>
 .br y122
 (.ret (.fin 903))
 (.ret (.next (IntKind.i64.wrap (x95 + 1)))))
 (.ret (.out .u)))
 0 [] fun _ =>
 .ret 0)))
noncomputable def scene_Check_C (a0 : S_Scene) : CallS Int :=
  mkC [] hd Tryz.func49 (by kernel_rfl) (scene_Check_T a0) 0 [.pure (enc_Scene a0)] [] (fun r => pz r) (fun _ => []) (by kernel_rfl)
noncomputable def config_Inside_1_T (a0 : S_Joint) (a1 : Int) : T Bool :=
 .br (decide (a0.Lo ≤ a1))
 (.ret (decide (a1 ≤ a0.Hi)))
 (.ret false)
noncomputable def config_Inside_1_C (a0 : S_Joint) (a1 : Int) : CallS Bool :=
  mkC [] hd Tryz.func118 (by kernel_rfl) (config_Inside_1_T a0 a1) 0 [.pure (enc_Joint a0), pz a1] [] (fun r => .pure (.bool r)) (fun _ => []) (by kernel_rfl)
noncomputable def config_every_api_Joint_int64_T (a0 : (List S_Joint)) (a1 : (List Int)) : T Bool :=
 .br (((a0.length : Nat) : Int) != ((a1.length : Nat) : Int))
 (.ret false)
 (.loop (fun (x21 : Int) => ⟨[(1, .pure (encL 1 encI_i64 a1)), (2, .func 118 [] []), (14, .pure (encL 12 enc_Joint a0)), (15, pz ((a0.length : Nat) : Int)), (16, pz x21)], [], [], 0⟩)
 (.exit 0) (fun (_ : U0) => ⟨[], [], [], 0⟩)
 (fun x21 => .br (decide (x21 < ((a0.length : Nat) : Int)))
 (.grd (0 ≤ x21 ∧ x21 < ((a0.length : Nat) : Int)) <|
 .grd (0 ≤ x21 ∧ x21 < ((a1.length : Nat) : Int)) <|
 .call (config_Inside_1_C (a0.getD ((x21).toNat) default) (a1.getD ((x21).toNat) default)) [] fun y30 =>
 .br (!y30)
 (.ret (.fin false))
 (.ret (.next (IntKind.i64.wrap (x21 + 1)))))
 (.ret (.out .u)))
 0 [] fun _ =>
 .ret true)
noncomputable def config_every_api_Joint_int64_C (a0 : (List S_Joint)) (a1 : (List Int)) : CallS Bool :=
  mkC [] hd Tryz.func117 (by kernel_rfl) (config_every_api_Joint_int64_T a0 a1) 0 [.pure (encL 12 enc_Joint a0), .pure (encL 1 encI_i64 a1), .func 118 [] []] [] (fun r => .pure (.bool r)) (fun _ => []) (by kernel_rfl)
noncomputable def config_Inside_T (a0 : S_Robot) (a1 : (List Int)) : T Bool :=
 .call (robot_Check_C a0) [] fun y1 =>
 .br (y1 == 0)
 (.call (config_every_api_Joint_int64_C a0.Joints a1) [] fun y2 =>
 .ret y2)
 (.ret false)
noncomputable def config_Inside_C (a0 : S_Robot) (a1 : (List Int)) : CallS Bool :=
  mkC [] hd Tryz.func50 (by kernel_rfl) (config_Inside_T a0 a1) 0 [.pure (enc_Robot a0), .pure (encL 1 encI_i64 a1)] [] (fun r => .pure (.bool r)) (fun _ => []) (by kernel_rfl)
noncomputable def config_small_1_T (a0 : Int) : T Bool :=
 .br (decide (a0 < (-2147483648)))
 (.ret true)
 (.ret (decide (a0 > 2147483648)))
noncomputable def config_small_1_C (a0 : Int) : CallS Bool :=
  mkC [] hd Tryz.func194 (by kernel_rfl) (config_small_1_T a0) 0 [pz a0] [] (fun r => .pure (.bool r)) (fun _ => []) (by kernel_rfl)
noncomputable def slices_IndexFunc_int64_int64_T (a0 : (List Int)) : T Int :=
 .loop (fun (x21 : Int) => ⟨[(0, .pure (encL 1 encI_i64 a0)), (1, .func 194 [] []), (7, pz ((a0.length : Nat) : Int)), (8, pz x21)], [], [], 0⟩)
 (.exit 0) (fun (_ : U0) => ⟨[], [], [], 0⟩)
 (fun x21 => .br (decide (x21 < ((a0.length : Nat) : Int)))
 (.grd (0 ≤ x21 ∧ x21 < ((a0.length : Nat) : Int)) <|
 .call (config_small_1_C (a0.getD ((x21).toNat) default)) [] fun y30 =>
 .br y30
 (.ret (.fin x21))
 (.ret (.next (IntKind.i64.wrap (x21 + 1)))))
 (.ret (.out .u)))
 0 [] fun _ =>
 .ret (-1)
noncomputable def slices_IndexFunc_int64_int64_C (a0 : (List Int)) : CallS Int :=
  mkC [] hd Tryz.func230 (by kernel_rfl) (slices_IndexFunc_int64_int64_T a0) 0 [.pure (encL 1 encI_i64 a0), .func 194 [] []] [] (fun r => pz r) (fun _ => []) (by kernel_rfl)
noncomputable def slices_ContainsFunc_int64_int64_T (a0 : (List Int)) : T Bool :=
 .call (slices_IndexFunc_int64_int64_C a0) [] fun y1 =>
 .ret (decide (y1 ≥ 0))
noncomputable def slices_ContainsFunc_int64_int64_C (a0 : (List Int)) : CallS Bool :=
  mkC [] hd Tryz.func193 (by kernel_rfl) (slices_ContainsFunc_int64_int64_T a0) 0 [.pure (encL 1 encI_i64 a0), .func 194 [] []] [] (fun r => .pure (.bool r)) (fun _ => []) (by kernel_rfl)
noncomputable def config_small_T (a0 : (List Int)) : T Bool :=
 .call (slices_ContainsFunc_int64_int64_C a0) [] fun y1 =>
 .ret (!y1)
noncomputable def config_small_C (a0 : (List Int)) : CallS Bool :=
  mkC [] hd Tryz.func145 (by kernel_rfl) (config_small_T a0) 0 [.pure (encL 1 encI_i64 a0)] [] (fun r => .pure (.bool r)) (fun _ => []) (by kernel_rfl)
noncomputable def config_isMotion_T (a0 : (List Int)) (a1 : (List Int)) (a2 : Int) : T Bool :=
 .br (((a0.length : Nat) : Int) == ((a1.length : Nat) : Int))
 (.call (config_small_C a0) [] fun y1 =>
 .br y1
 (.call (config_small_C a1) [] fun y2 =>
 .br y2
 (.br (decide (0 ≤ a2))
 (.ret (decide (a2 ≤ 20)))
 (.ret false))
 (.ret false))
 (.ret false))
 (.ret false)
noncomputable def config_isMotion_C (a0 : (List Int)) (a1 : (List Int)) (a2 : Int) : CallS Bool :=
  mkC [] hd Tryz.func119 (by kernel_rfl) (config_isMotion_T a0 a1 a2) 0 [.pure (encL 1 encI_i64 a0), .pure (encL 1 encI_i64 a1), pz a2] [] (fun r => .pure (.bool r)) (fun _ => []) (by kernel_rfl)
noncomputable def config_down_T (a0 : Int) (a1 : Int) : T Int :=
 .grd (0 ≤ a1) <|
 .ret (a0.fdiv (2 ^ (min (a1).toNat 64)))
noncomputable def config_down_C (a0 : Int) (a1 : Int) : CallS Int :=
  mkC [] hd Tryz.func122 (by kernel_rfl) (config_down_T a0 a1) 0 [pz a0, pz a1] [] (fun r => pz r) (fun _ => []) (by kernel_rfl)
noncomputable def config_Piece_1_T (a0 : Int) (a1 : Int) (a2 : Int) (a3 : Int) : T (S_Interval × Int × Int) :=
 .name 2003 ((min (IntKind.i64.wrap (a2 * (IntKind.i64.wrap (a1 - a0)))) (IntKind.i64.wrap ((IntKind.i64.wrap (a2 + 1)) * (IntKind.i64.wrap (a1 - a0)))))) fun z5 =>
 .call (config_down_C z5 a3) [] fun y6 =>
 .name 2010 ((max (IntKind.i64.wrap (a2 * (IntKind.i64.wrap (a1 - a0)))) (IntKind.i64.wrap ((IntKind.i64.wrap (a2 + 1)) * (IntKind.i64.wrap (a1 - a0)))))) fun z7 =>
 .call (config_down_C (IntKind.i64.wrap (0 - z7)) a3) [] fun y8 =>
 .ret ((⟨(IntKind.i64.wrap (a0 + y6)), (IntKind.i64.wrap (a0 - y8))⟩ : S_Interval), a2, a3)
noncomputable def config_Piece_1_C (a0 : Int) (a1 : Int) (a2 : Int) (a3 : Int) : CallS (S_Interval × Int × Int) :=
  mkC [] hd Tryz.func121 (by kernel_rfl) (config_Piece_1_T a0 a1 a2 a3) 2 [pz a0, pz a1, .ptr 0 0, .ptr 1 0] [(0, .box [pz a2]), (1, .box [pz a3])] (fun r => .pure (enc_Interval r.1)) (fun r => [(0, .box [pz r.2.1]), (1, .box [pz r.2.2])]) (by kernel_rfl)
noncomputable def config_joined_int64_int64_api_Interval_T (a0 : (List Int)) (a1 : (List Int)) (a2 : Int) (a3 : Int) : T ((List S_Interval) × Int × Int) :=
 .conv 1002 (cvRep 2 enc_Interval 149 (((a0.length : Nat) : Int)).toNat (⟨0, 0⟩ : S_Interval)) <|
 .grd (0 ≤ ((a0.length : Nat) : Int) ∧ ((a0.length : Nat) : Int) ≤ ((a0.length : Nat) : Int) ∧ ((a0.length : Nat) : Int) ≤ 9223372036854775807 ∧ ((a0.length : Nat) : Int) * 16 ≤ 140737488355328) <|
 .loop (fun (x13 : (Int × Int × (List S_Interval) × Int)) => ⟨[(1, .pure (encL 1 encI_i64 a1)), (2, .func 121 [] [.ptr 0 0, .ptr 1 0]), (7, .vec 2), (13, .pure (encL 1 encI_i64 a0)), (14, pz ((a0.length : Nat) : Int)), (15, pz x13.2.2.2)], [(0, .box [pz x13.1]), (1, .box [pz x13.2.1]), (2, vecO 2 enc_Interval x13.2.2.1 149)], [], 3⟩)
 (.exit 0) (fun (y16 : (Int × Int × (List S_Interval))) => ⟨[(7, .vec 2)], [(0, .box [pz y16.1]), (1, .box [pz y16.2.1]), (2, vecO 2 enc_Interval y16.2.2 149)], [], 3⟩)
 (fun x13 => .br (decide (x13.2.2.2 < ((a0.length : Nat) : Int)))
 (.grd (0 ≤ x13.2.2.2 ∧ x13.2.2.2 < ((a0.length : Nat) : Int)) <|
 .grd (0 ≤ x13.2.2.2 ∧ x13.2.2.2 < ((a1.length : Nat) : Int)) <|
 .call (config_Piece_1_C (a0.getD ((x13.2.2.2).toNat) default) (a1.getD ((x13.2.2.2).toNat) default) x13.1 x13.2.1) [(0, 0), (1, 1)] fun y18 =>
 .grd (0 ≤ x13.2.2.2 ∧ x13.2.2.2 < ((x13.2.2.1.length : Nat) : Int)) <|
 .conv 5010 (cvSet 2 enc_Interval x13.2.2.1 149 ((x13.2.2.2).toNat) y18.1) <|
 .grd ((x13.2.2.2).toNat < x13.2.2.1.length ∧ 0 ≤ (x13.2.2.2).toNat) <|
 .ret (.next (y18.2.1, y18.2.2, (x13.2.2.1.set ((x13.2.2.2).toNat) y18.1), (IntKind.i64.wrap (x13.2.2.2 + 1)))))
 (.ret (.out (x13.1, x13.2.1, x13.2.2.1))))
 (a2, a3, (List.replicate (((a0.length : Nat) : Int)).toNat ((⟨0, 0⟩ : S_Interval) : S_Interval)), 0) [] fun y16 =>
 .ret (y16.2.2, y16.1, y16.2.1)
noncomputable def config_joined_int64_int64_api_Interval_C (a0 : (List Int)) (a1 : (List Int)) (a2 : Int) (a3 : Int) : CallS ((List S_Interval) × Int × Int) :=
  mkC [] hd Tryz.func120 (by kernel_rfl) (config_joined_int64_int64_api_Interval_T a0 a1 a2 a3) 2 [.pure (encL 1 encI_i64 a0), .pure (encL 1 encI_i64 a1), .func 121 [] [.ptr 0 0, .ptr 1 0]] [(0, .box [pz a2]), (1, .box [pz a3])] (fun r => .pure (encL 2 enc_Interval r.1)) (fun r => [(0, .box [pz r.2.1]), (1, .box [pz r.2.2])]) (by kernel_rfl)
noncomputable def config_Piece_T (a0 : (List Int)) (a1 : (List Int)) (a2 : Int) (a3 : Int) : T ((List S_Interval) × Bool) :=
 .cut 2 (fun (y7 : Bool) => ⟨[(0, .pure (encL 1 encI_i64 a0)), (1, .pure (encL 1 encI_i64 a1)), (6, .ptr 0 0), (7, .ptr 1 0), (24, .pure (.bool y7))], [(0, .box [pz a2]), (1, .box [pz a3])], [], 2⟩)
 (.call (config_isMotion_C a0 a1 a2) [] fun y8 =>
 .br (!y8)
 (.ret (.out true))
 (.br (decide (a3 < 0))
 (.ret (.out true))
 (.grd (0 ≤ a2) <|
 .ret (.out (decide (a3 ≥ (IntKind.i64.wrap (1 * 2 ^ (min (a2).toNat 64))))))))) fun y7 =>
 .br y7
 (.ret (nl, false))
 (.call (config_joined_int64_int64_api_Interval_C a0 a1 a3 a2) [(0, 1), (1, 0)] fun y9 =>
 .ret (y9.1, true))
noncomputable def config_Piece_C (a0 : (List Int)) (a1 : (List Int)) (a2 : Int) (a3 : Int) : CallS ((List S_Interval) × Bool) :=
  mkC [] hd Tryz.func52 (by kernel_rfl) (config_Piece_T a0 a1 a2 a3) 0 [.pure (encL 1 encI_i64 a0), .pure (encL 1 encI_i64 a1), pz a2, pz a3] [] (fun r => .tup [.pure (encL 2 enc_Interval r.1), .pure (.bool r.2)]) (fun _ => []) (by kernel_rfl)
noncomputable def interval_Valid_T (a0 : S_Interval) : T Bool :=
 .br (decide ((-2147483648) ≤ a0.Lo))
 (.br (decide (a0.Lo ≤ a0.Hi))
 (.ret (decide (a0.Hi ≤ 2147483648)))
 (.ret false))
 (.ret false)
noncomputable def interval_Valid_C (a0 : S_Interval) : CallS Bool :=
  mkC [] hd Tryz.func132 (by kernel_rfl) (interval_Valid_T a0) 0 [.pure (enc_Interval a0)] [] (fun r => .pure (.bool r)) (fun _ => []) (by kernel_rfl)
noncomputable def scene_carriers_T (a0 : S_Robot) : T (List Int) :=
 .conv 1004 (cvRep 1 encI_i64 3 ((IntKind.i64.wrap (((a0.Joints.length : Nat) : Int) + 1))).toNat 0) <|
 .grd (0 ≤ (IntKind.i64.wrap (((a0.Joints.length : Nat) : Int) + 1)) ∧ (IntKind.i64.wrap (((a0.Joints.length : Nat) : Int) + 1)) ≤ (IntKind.i64.wrap (((a0.Joints.length : Nat) : Int) + 1)) ∧ (IntKind.i64.wrap (((a0.Joints.length : Nat) : Int) + 1)) ≤ 9223372036854775807 ∧ (IntKind.i64.wrap (((a0.Joints.length : Nat) : Int) + 1)) * 8 ≤ 140737488355328) <|
 .grd (0 ≤ (0 : Int) ∧ (0 : Int) < (((List.replicate ((IntKind.i64.wrap (((a0.Joints.length : Nat) : Int) + 1))).toNat (0 : Int)).length : Nat) : Int)) <|
 .conv 2002 (cvSet 1 encI_i64 (List.replicate ((IntKind.i64.wrap (((a0.Joints.length : Nat) : Int) + 1))).toNat (0 : Int)) 3 ((0 : Int).toNat) (-1)) <|
 .grd ((0 : Int).toNat < (List.replicate ((IntKind.i64.wrap (((a0.Joints.length : Nat) : Int) + 1))).toNat (0 : Int)).length ∧ 0 ≤ (0 : Int).toNat) <|
 .loop (fun (x51 : ((List Int) × Int)) => ⟨[(3, .vec 0), (14, .pure (encL 12 enc_Joint a0.Joints)), (15, pz ((a0.Joints.length : Nat) : Int)), (16, pz x51.2)], [(0, vecO 1 encI_i64 x51.1 3)], [], 1⟩)
 (.exit 0) (fun (y56 : (List Int)) => ⟨[(3, .vec 0)], [(0, vecO 1 encI_i64 y56 3)], [], 1⟩)
 (fun x51 => .br (decide (x51.2 < ((a0.Joints.length : Nat) : Int)))
 (.cut 0 (fun (y59 : (List Int)) => ⟨[(3, .vec 0), (14, .pure (encL 12 enc_Joint a0.Joints)), (15, pz ((a0.Joints.length : Nat) : Int)), (16, pz x51.2)], [(0, vecO 1 encI_i64 y59 3)], [], 1⟩)
 (.grd (0 ≤ x51.2 ∧ x51.2 < ((a0.Joints.length : Nat) : Int)) <|
 .grd (0 ≤ (IntKind.i64.wrap (x51.2 + 1)) ∧ (IntKind.i64.wrap (x51.2 + 1)) < ((x51.1.length : Nat) : Int)) <|
 .conv 6005 (cvSet 1 encI_i64 x51.1 3 (((IntKind.i64.wrap (x51.2 + 1))).toNat) x51.2) <|
 .grd (((IntKind.i64.wrap (x51.2 + 1))).toNat < x51.1.length ∧ 0 ≤ ((IntKind.i64.wrap (x51.2 + 1))).toNat) <|
 .br (((a0.Joints.getD ((x51.2).toNat) default).Lo) == ((a0.Joints.getD ((x51.2).toNat) default).Hi))
 (.grd (0 ≤ (IntKind.i64.wrap (((a0.Joints.getD ((x51.2).toNat) default).Parent) + 1)) ∧ (IntKind.i64.wrap (((a0.Joints.getD ((x51.2).toNat) default).Parent) + 1)) < (((x51.1.set (((IntKind.i64.wrap (x51.2 + 1))).toNat) x51.2).length : Nat) : Int)) <|
 .grd (((IntKind.i64.wrap (((a0.Joints.getD ((x51.2).toNat) default).Parent) + 1))).toNat < (x51.1.set (((IntKind.i64.wrap (x51.2 + 1))).toNat) x51.2).length) <|
 .name 8008 (((x51.1.set (((IntKind.i64.wrap (x51.2 + 1))).toNat) x51.2).getD (((IntKind.i64.wrap (((a0.Joints.getD ((x51.2).toNat) default).Parent) + 1))).toNat) default)) fun z60 =>
 .grd (0 ≤ (IntKind.i64.wrap (x51.2 + 1)) ∧ (IntKind.i64.wrap (x51.2 + 1)) < (((x51.1.set (((IntKind.i64.wrap (x51.2 + 1))).toNat) x51.2).length : Nat) : Int)) <|
 .conv 8010 (cvSet 1 encI_i64 (x51.1.set (((IntKind.i64.wrap (x51.2 + 1))).toNat) x51.2) 3 (((IntKind.i64.wrap (x51.2 + 1))).toNat) z60) <|
 .grd (((IntKind.i64.wrap (x51.2 + 1))).toNat < (x51.1.set (((IntKind.i64.wrap (x51.2 + 1))).toNat) x51.2).length ∧ 0 ≤ ((IntKind.i64.wrap (x51.2 + 1))).toNat) <|
 .ret (.out ((x51.1.set (((IntKind.i64.wrap (x51.2 + 1))).toNat) x51.2).set (((IntKind.i64.wrap (x51.2 + 1))).toNat) z60)))
 (.ret (.out (x51.1.set (((IntKind.i64.wrap (x51.2 + 1))).toNat) x51.2)))) fun y59 =>
 .ret (.next (y59, (IntKind.i64.wrap (x51.2 + 1)))))
 (.ret (.out x51.1)))
 (((List.replicate ((IntKind.i64.wrap (((a0.Joints.length : Nat) : Int) + 1))).toNat (0 : Int)).set ((0 : Int).toNat) (-1)), 0) [] fun y56 =>
 .ret y56
noncomputable def scene_carriers_C (a0 : S_Robot) : CallS (List Int) :=
  mkC [] hd Tryz.func166 (by kernel_rfl) (scene_carriers_T a0) 0 [.pure (enc_Robot a0)] [] (fun r => .pure (encL 1 encI_i64 r)) (fun _ => []) (by kernel_rfl)
noncomputable def scene_Skipped_T (a0 : S_Scene) (a1 : Int) (a2 : Int) : T Bool :=
 .loop (fun (x13 : Int) => ⟨[(1, pz a1), (2, pz a2), (10, .pure (encL 2 enc_Skip a0.Skips)), (11, pz ((a0.Skips.length : Nat) : Int)), (12, pz x13)], [], [], 0⟩)
 (.exit 0) (fun (_ : U0) => ⟨[], [], [], 0⟩)
 (fun x13 => .br (decide (x13 < ((a0.Skips.length : Nat) : Int)))
 (.grd (0 ≤ x13 ∧ x13 < ((a0.Skips.length : Nat) : Int)) <|
 .cut 0 (fun (y18 : Bool) => ⟨[(1, pz a1), (2, pz a2), (10, .pure (encL 2 enc_Skip a0.Skips)), (11, pz ((a0.Skips.length : Nat) : Int)), (12, pz x13), (27, .pure (.bool y18))], [], [], 0⟩)
 (.br ((((a0.Skips.getD ((x13).toNat) default).A) == a1) && ((((a0.Skips.getD ((x13).toNat) default).B) == a2) && true))
 (.ret (.out true))
 (.ret (.out ((((a0.Skips.getD ((x13).toNat) default).A) == a2) && ((((a0.Skips.getD ((x13).toNat) default).B) == a1) && true))))) fun y18 =>
 .br y18
 (.ret (.fin true))
 (.ret (.next (IntKind.i64.wrap (x13 + 1)))))
 (.ret (.out .u)))
 0 [] fun _ =>
 .ret false
noncomputable def scene_Skipped_C (a0 : S_Scene) (a1 : Int) (a2 : Int) : CallS Bool :=
  mkC [] hd Tryz.func167 (by kernel_rfl) (scene_Skipped_T a0 a1 a2) 0 [.pure (enc_Scene a0), pz a1, pz a2] [] (fun r => .pure (.bool r)) (fun _ => []) (by kernel_rfl)
noncomputable def scene_Pairs_T (a0 : S_Scene) : T (List S_Pair) :=
 .call (scene_Check_C a0) [] fun y700 =>
 .br (y700 != 0)
 (.ret nl)
 (.call (scene_carriers_C a0.Robot) [] fun y702 =>
 .loop (fun (x1187 : ((List S_Pair) × Int)) => ⟨[(1, .ptr 0 0), (3, .pure (encL 1 encI_i64 y702)), (4, .vec 1), (17, .pure (encL 3 enc_Shape a0.Shapes)), (18, pz ((a0.Shapes.length : Nat) : Int)), (19, pz x1187.2)], [(0, .box [.pure (encL 12 enc_Joint a0.Robot.Joints), .pure (encL 5 enc_Mass a0.Robot.Masses), .pure (encL 3 enc_Shape a0.Shapes), .pure (encL 2 enc_Skip a0.Skips)]), (1, vecO 2 enc_Pair x1187.1 192)], [], 2⟩)
 (.exit 0) (fun (y1308 : (List S_Pair)) => ⟨[(4, .vec 0)], [(0, vecO 2 enc_Pair y1308 192)], [], 1⟩)
 (fun x1187 => .br (decide (x1187.2 < ((a0.Shapes.length : Nat) : Int)))
 (.grd (0 ≤ x1187.2 ∧ x1187.2 < ((a0.Shapes.length : Nat) : Int)) <|
 .loop (fun (x1389 : ((List S_Pair) × Int)) => ⟨[(1, .ptr 0 0), (3, .pure (encL 1 encI_i64 y702)), (4, .vec 1), (5, pz x1187.2), (6, .ptr 2 0), (7, pz x1389.2), (17, .pure (encL 3 enc_Shape a0.Shapes)), (18, pz ((a0.Shapes.length : Nat) : Int)), (19, pz x1187.2)], [(0, .box [.pure (encL 12 enc_Joint a0.Robot.Joints), .pure (encL 5 enc_Mass a0.Robot.Masses), .pure (encL 3 enc_Shape a0.Shapes), .pure (encL 2 enc_Skip a0.Skips)]), (1, vecO 2 enc_Pair x1389.1 192), (2, .box [pz ((a0.Shapes.getD ((x1187.2).toNat) default).Link), pz ((a0.Shapes.getD ((x1187.2).toNat) default).Radius), .pure (encL 3 enc_arr_3_int64 ((a0.Shapes.getD ((x1187.2).toNat) default).Points))])], [], 3⟩)
 (.exit 2) (fun (y1409 : (List S_Pair)) => ⟨[(1, .ptr 0 0), (3, .pure (encL 1 encI_i64 y702)), (4, .vec 1), (17, .pure (encL 3 enc_Shape a0.Shapes)), (18, pz ((a0.Shapes.length : Nat) : Int)), (19, pz x1187.2)], [(0, .box [.pure (encL 12 enc_Joint a0.Robot.Joints), .pure (encL 5 enc_Mass a0.Robot.Masses), .pure (encL 3 enc_Shape a0.Shapes), .pure (encL 2 enc_Skip a0.Skips)]), (1, vecO 2 enc_Pair y1409 192)], [], 2⟩)
 (fun x1389 => .br (decide (x1389.2 < ((a0.Shapes.length : Nat) : Int)))
 (.cut 0 (fun (y1422 : (List S_Pair)) => ⟨[(1, .ptr 0 0), (3, .pure (encL 1 encI_i64 y702)), (4, .vec 1), (5, pz x1187.2), (6, .ptr 2 0), (7, pz x1389.2), (17, .pure (encL 3 enc_Shape a0.Shapes)), (18, pz ((a0.Shapes.length : Nat) : Int)), (19, pz x1187.2)], [(0, .box [.pure (encL 12 enc_Joint a0.Robot.Joints), .pure (encL 5 enc_Mass a0.Robot.Masses), .pure (encL 3 enc_Shape a0.Shapes), .pure (encL 2 enc_Skip a0.Skips)]), (1, vecO 2 enc_Pair y1422 192), (2, .box [pz ((a0.Shapes.getD ((x1187.2).toNat) default).Link), pz ((a0.Shapes.getD ((x1187.2).toNat) default).Radius), .pure (encL 3 enc_arr_3_int64 ((a0.Shapes.getD ((x1187.2).toNat) default).Points))])], [], 3⟩)
 (.grd (0 ≤ x1389.2 ∧ x1389.2 < ((a0.Shapes.length : Nat) : Int)) <|
 .grd (0 ≤ (IntKind.i64.wrap (((a0.Shapes.getD ((x1187.2).toNat) default).Link) + 1)) ∧ (IntKind.i64.wrap (((a0.Shapes.getD ((x1187.2).toNat) default).Link) + 1)) < ((y702.length : Nat) : Int)) <|
 .grd (0 ≤ (IntKind.i64.wrap (((a0.Shapes.getD ((x1389.2).toNat) default).Link) + 1)) ∧ (IntKind.i64.wrap (((a0.Shapes.getD ((x1389.2).toNat) default).Link) + 1)) < ((y702.length : Nat) : Int)) <|
 .name 12011 ((y702.getD (((IntKind.i64.wrap (((a0.Shapes.getD ((x1389.2).toNat) default).Link) + 1))).toNat) default)) fun z1424 =>
 .cut 0 (fun (y1427 : Bool) => ⟨[(1, .ptr 0 0), (3, .pure (encL 1 encI_i64 y702)), (4, .vec 1), (5, pz x1187.2), (6, .ptr 2 0), (7, pz x1389.2), (17, .pure (encL 3 enc_Shape a0.Shapes)), (18, pz ((a0.Shapes.length : Nat) : Int)), (19, pz x1187.2), (61, .pure (.bool y1427))], [(0, .box [.pure (encL 12 enc_Joint a0.Robot.Joints), .pure (encL 5 enc_Mass a0.Robot.Masses), .pure (encL 3 enc_Shape a0.Shapes), .pure (encL 2 enc_Skip a0.Skips)]), (1, vecO 2 enc_Pair x1389.1 192), (2, .box [pz ((a0.Shapes.getD ((x1187.2).toNat) default).Link), pz ((a0.Shapes.getD ((x1187.2).toNat) default).Radius), .pure (encL 3 enc_arr_3_int64 ((a0.Shapes.getD ((x1187.2).toNat) default).Points))])], [], 3⟩)
 (.br (!((y702.getD (((IntKind.i64.wrap (((a0.Shapes.getD ((x1187.2).toNat) default).Link) + 1))).toNat) default) == z1424))
 (.call (scene_Skipped_C a0 ((a0.Shapes.getD ((x1187.2).toNat) default).Link) ((a0.Shapes.getD ((x1389.2).toNat) default).Link)) [] fun y1428 =>
 .ret (.out (!y1428)))
 (.ret (.out false))) fun y1427 =>
 .br y1427
 (.conv 14004 (cvLit 2 enc_Pair ([(⟨x1187.2, x1389.2⟩ : S_Pair)] : (List S_Pair)) 192) <|
 .conv 14005 (cvApp 2 enc_Pair x1389.1 ([(⟨x1187.2, x1389.2⟩ : S_Pair)] : (List S_Pair)) 192) <|
 .grd ((x1389.1.length + ([(⟨x1187.2, x1389.2⟩ : S_Pair)] : (List S_Pair)).length) * 16 ≤ 140737488355328 ∧ (x1389.1.length + ([(⟨x1187.2, x1389.2⟩ : S_Pair)] : (List S_Pair)).length) ≤ maxLen) <|
 .ret (.out (x1389.1 ++ ([(⟨x1187.2, x1389.2⟩ : S_Pair)] : (List S_Pair)))))
 (.ret (.out x1389.1))) fun y1422 =>
 .ret (.next (y1422, (IntKind.i64.wrap (x1389.2 + 1)))))
 (.ret (.out x1389.1)))
 (x1187.1, (IntKind.i64.wrap (x1187.2 + 1))) [] fun y1409 =>
 .ret (.next (y1409, (IntKind.i64.wrap (x1187.2 + 1)))))
 (.ret (.out x1187.1)))
 (nl, 0) [] fun y1308 =>
 .ret y1308)
noncomputable def scene_Pairs_C (a0 : S_Scene) : CallS (List S_Pair) :=
  mkC [] hd Tryz.func133 (by kernel_rfl) (scene_Pairs_T a0) 0 [.pure (enc_Scene a0)] [] (fun r => .pure (encL 2 enc_Pair r)) (fun _ => []) (by kernel_rfl)
noncomputable def kinematics_isBox_1_T (a0 : S_Interval) : T Bool :=
 .call (interval_Valid_C a0) [] fun y1 =>
 .ret (!y1)
noncomputable def kinematics_isBox_1_C (a0 : S_Interval) : CallS Bool :=
  mkC [] hd Tryz.func215 (by kernel_rfl) (kinematics_isBox_1_T a0) 0 [.pure (enc_Interval a0)] [] (fun r => .pure (.bool r)) (fun _ => []) (by kernel_rfl)
noncomputable def slices_IndexFunc_api_Interval_api_Interval_T (a0 : (List S_Interval)) : T Int :=
 .loop (fun (x21 : Int) => ⟨[(0, .pure (encL 2 enc_Interval a0)), (1, .func 215 [] []), (7, pz ((a0.length : Nat) : Int)), (8, pz x21)], [], [], 0⟩)
 (.exit 0) (fun (_ : U0) => ⟨[], [], [], 0⟩)
 (fun x21 => .br (decide (x21 < ((a0.length : Nat) : Int)))
 (.grd (0 ≤ x21 ∧ x21 < ((a0.length : Nat) : Int)) <|
 .call (kinematics_isBox_1_C (a0.getD ((x21).toNat) default)) [] fun y30 =>
 .br y30
 (.ret (.fin x21))
 (.ret (.next (IntKind.i64.wrap (x21 + 1)))))
 (.ret (.out .u)))
 0 [] fun _ =>
 .ret (-1)
noncomputable def slices_IndexFunc_api_Interval_api_Interval_C (a0 : (List S_Interval)) : CallS Int :=
  mkC [] hd Tryz.func241 (by kernel_rfl) (slices_IndexFunc_api_Interval_api_Interval_T a0) 0 [.pure (encL 2 enc_Interval a0), .func 215 [] []] [] (fun r => pz r) (fun _ => []) (by kernel_rfl)
noncomputable def slices_ContainsFunc_api_Interval_api_Interval_T (a0 : (List S_Interval)) : T Bool :=
 .call (slices_IndexFunc_api_Interval_api_Interval_C a0) [] fun y1 =>
 .ret (decide (y1 ≥ 0))
noncomputable def slices_ContainsFunc_api_Interval_api_Interval_C (a0 : (List S_Interval)) : CallS Bool :=
  mkC [] hd Tryz.func214 (by kernel_rfl) (slices_ContainsFunc_api_Interval_api_Interval_T a0) 0 [.pure (encL 2 enc_Interval a0), .func 215 [] []] [] (fun r => .pure (.bool r)) (fun _ => []) (by kernel_rfl)
noncomputable def kinematics_isBox_T (a0 : S_Robot) (a1 : (List S_Interval)) : T Bool :=
 .br (((a1.length : Nat) : Int) == ((a0.Joints.length : Nat) : Int))
 (.call (slices_ContainsFunc_api_Interval_api_Interval_C a1) [] fun y1 =>
 .ret (!y1))
 (.ret false)
noncomputable def kinematics_isBox_C (a0 : S_Robot) (a1 : (List S_Interval)) : CallS Bool :=
  mkC [] hd Tryz.func168 (by kernel_rfl) (kinematics_isBox_T a0 a1) 0 [.pure (enc_Robot a0), .pure (encL 2 enc_Interval a1)] [] (fun r => .pure (.bool r)) (fun _ => []) (by kernel_rfl)
noncomputable def fixed_Clamp_T (a0 : Int) : T Int :=
 .ret (min (max a0 (-2147483648)) 2147483648)
noncomputable def fixed_Clamp_C (a0 : Int) : CallS Int :=
  mkC [] hd Tryz.func302 (by kernel_rfl) (fixed_Clamp_T a0) 0 [pz a0] [] (fun r => pz r) (fun _ => []) (by kernel_rfl)
noncomputable def interval_limited_T (a0 : Int) (a1 : Int) : T S_Interval :=
 .call (fixed_Clamp_C a0) [] fun y1 =>
 .call (fixed_Clamp_C a1) [] fun y2 =>
 .ret (⟨y1, y2⟩ : S_Interval)
noncomputable def interval_limited_C (a0 : Int) (a1 : Int) : CallS S_Interval :=
  mkC [] hd Tryz.func278 (by kernel_rfl) (interval_limited_T a0 a1) 0 [pz a0, pz a1] [] (fun r => .pure (enc_Interval r)) (fun _ => []) (by kernel_rfl)
noncomputable def interval_Of_T (a0 : Int) : T S_Interval :=
 .call (interval_limited_C a0 a0) [] fun y1 =>
 .ret y1
noncomputable def interval_Of_C (a0 : Int) : CallS S_Interval :=
  mkC [] hd Tryz.func246 (by kernel_rfl) (interval_Of_T a0) 0 [pz a0] [] (fun r => .pure (enc_Interval r)) (fun _ => []) (by kernel_rfl)
noncomputable def matrix_Point_T (a0 : (Int × Int × Int)) : T (S_Interval × S_Interval × S_Interval) :=
 .unroll 4 <|
 .known true <|
 .ix 0 3 rfl <|
 .call (interval_Of_C a0.1) [] fun y16 =>
 .ix 0 3 rfl <|
 .lit 6000 (1) <|
 .known true <|
 .ix 1 3 rfl <|
 .call (interval_Of_C a0.2.1) [] fun y18 =>
 .ix 1 3 rfl <|
 .lit 6000 (2) <|
 .known true <|
 .ix 2 3 rfl <|
 .call (interval_Of_C a0.2.2) [] fun y20 =>
 .ix 2 3 rfl <|
 .lit 6000 (3) <|
 .known false <|
 .ret (y16, y18, y20)
noncomputable def matrix_Point_C (a0 : (Int × Int × Int)) : CallS (S_Interval × S_Interval × S_Interval) :=
  mkC [] hd Tryz.func222 (by kernel_rfl) (matrix_Point_T a0) 0 [.pure (enc_arr_3_int64 a0)] [] (fun r => .pure (enc_arr_3_Interval r)) (fun _ => []) (by kernel_rfl)
noncomputable def matrix_Identity_T : T ((S_Interval × S_Interval × S_Interval) × (S_Interval × S_Interval × S_Interval) × (S_Interval × S_Interval × S_Interval)) :=
 .unroll 4 <|
 .known true <|
 .call (interval_Of_C 65536) [] fun y18 =>
 .ix 0 3 rfl <|
 .ix 0 3 rfl <|
 .lit 6000 (1) <|
 .known true <|
 .call (interval_Of_C 65536) [] fun y20 =>
 .ix 1 3 rfl <|
 .ix 1 3 rfl <|
 .lit 6000 (2) <|
 .known true <|
 .call (interval_Of_C 65536) [] fun y22 =>
 .ix 2 3 rfl <|
 .ix 2 3 rfl <|
 .lit 6000 (3) <|
 .known false <|
 .ret ((y18, (⟨0, 0⟩ : S_Interval), (⟨0, 0⟩ : S_Interval)), ((⟨0, 0⟩ : S_Interval), y20, (⟨0, 0⟩ : S_Interval)), ((⟨0, 0⟩ : S_Interval), (⟨0, 0⟩ : S_Interval), y22))
noncomputable def matrix_Identity_C : CallS ((S_Interval × S_Interval × S_Interval) × (S_Interval × S_Interval × S_Interval) × (S_Interval × S_Interval × S_Interval)) :=
  mkC [] hd Tryz.func245 (by kernel_rfl) (matrix_Identity_T) 0 [] [] (fun r => .pure (enc_arr_3_3_Interval r)) (fun _ => []) (by kernel_rfl)
noncomputable def pose_Shift_T (a0 : (S_Interval × S_Interval × S_Interval)) : T S_Pose :=
 .call (matrix_Identity_C) [] fun y1 =>
 .ret (⟨y1, a0⟩ : S_Pose)
noncomputable def pose_Shift_C (a0 : (S_Interval × S_Interval × S_Interval)) : CallS S_Pose :=
  mkC [] hd Tryz.func218 (by kernel_rfl) (pose_Shift_T a0) 0 [.pure (enc_arr_3_Interval a0)] [] (fun r => .pure (enc_Pose r)) (fun _ => []) (by kernel_rfl)
noncomputable def kinematics_motionOf_v0_T (a0 : Int) : T Int :=
 .cut 3 (fun (y3 : Bool) => ⟨[(0, pz a0), (2, .ptr 0 0), (3, pz a0), (4, .pure (.bool y3))], [(0, .box [.any])], [], 1⟩)
 (.br (a0 == 1)
 (.ret (.out (a0 == 1)))
 (.br (a0 == 2)
 (.ret (.out (a0 == 2)))
 (.ret (.out (a0 == 3))))) fun y3 =>
 .br y3
 (.ret (IntKind.i64.wrap (a0 - 1)))
 (.cut 0 (fun (y4 : Bool) => ⟨[(0, pz a0), (2, .ptr 0 0), (12, .pure (.bool y4))], [(0, .box [.any])], [], 1⟩)
 (.br (a0 == 4)
 (.ret (.out (a0 == 4)))
 (.br (a0 == 5)
 (.ret (.out (a0 == 5)))
 (.ret (.out (a0 == 6))))) fun y4 =>
 .br y4
 (.stop)
 (.stop))
noncomputable def kinematics_motionOf_v0_C (a0 : Int) : CallS Int :=
  mkC [] hd Tryz.func242 (by kernel_rfl) (kinematics_motionOf_v0_T a0) 0 [pz a0] [] (fun r => .agg [.func 269 [pz r] []]) (fun _ => []) (by kernel_rfl)
noncomputable def kinematics_motionOf_v1_T (a0 : Int) : T Int :=
 .cut 3 (fun (y3 : Bool) => ⟨[(0, pz a0), (2, .ptr 0 0), (3, pz a0), (4, .pure (.bool y3))], [(0, .box [.any])], [], 1⟩)
 (.br (a0 == 1)
 (.ret (.out (a0 == 1)))
 (.br (a0 == 2)
 (.ret (.out (a0 == 2)))
 (.ret (.out (a0 == 3))))) fun y3 =>
 .br y3
 (.stop)
 (.cut 0 (fun (y4 : Bool) => ⟨[(0, pz a0), (2, .ptr 0 0), (12, .pure (.bool y4))], [(0, .box [.any])], [], 1⟩)
 (.br (a0 == 4)
 (.ret (.out (a0 == 4)))
 (.br (a0 == 5)
 (.ret (.out (a0 == 5)))
 (.ret (.out (a0 == 6))))) fun y4 =>
 .br y4
 (.ret (IntKind.i64.wrap (a0 - 4)))
 (.stop))
noncomputable def kinematics_motionOf_v1_C (a0 : Int) : CallS Int :=
  mkC [] hd Tryz.func242 (by kernel_rfl) (kinematics_motionOf_v1_T a0) 0 [pz a0] [] (fun r => .agg [.func 270 [pz r] []]) (fun _ => []) (by kernel_rfl)
noncomputable def kinematics_motionOf_v2_T (a0 : Int) : T Int :=
 .cut 3 (fun (y3 : Bool) => ⟨[(0, pz a0), (2, .ptr 0 0), (3, pz a0), (4, .pure (.bool y3))], [(0, .box [.any])], [], 1⟩)
 (.br (a0 == 1)
 (.ret (.out (a0 == 1)))
 (.br (a0 == 2)
 (.ret (.out (a0 == 2)))
 (.ret (.out (a0 == 3))))) fun y3 =>
 .br y3
 (.stop)
 (.cut 0 (fun (y4 : Bool) => ⟨[(0, pz a0), (2, .ptr 0 0), (12, .pure (.bool y4))], [(0, .box [.any])], [], 1⟩)
 (.br (a0 == 4)
 (.ret (.out (a0 == 4)))
 (.br (a0 == 5)
 (.ret (.out (a0 == 5)))
 (.ret (.out (a0 == 6))))) fun y4 =>
 .br y4
 (.stop)
 (.ret 0))
noncomputable def kinematics_motionOf_v2_C (a0 : Int) : CallS Int :=
  mkC [] hd Tryz.func242 (by kernel_rfl) (kinematics_motionOf_v2_T a0) 0 [pz a0] [] (fun r => .agg [.func 271 [pz r] []]) (fun _ => []) (by kernel_rfl)
noncomputable def pose_still_T : T (S_Interval × S_Interval × S_Interval) :=
 .call (matrix_Point_C (0, 0, 0)) [] fun y1 =>
 .ret y1
noncomputable def pose_still_C : CallS (S_Interval × S_Interval × S_Interval) :=
  mkC [] hd Tryz.func219 (by kernel_rfl) (pose_still_T) 0 [] [] (fun r => .pure (enc_arr_3_Interval r)) (fun _ => []) (by kernel_rfl)
noncomputable def pose_Identity_T : T S_Pose :=
 .call (pose_still_C) [] fun y1 =>
 .call (pose_Shift_C y1) [] fun y2 =>
 .ret y2
noncomputable def pose_Identity_C : CallS S_Pose :=
  mkC [] hd Tryz.func170 (by kernel_rfl) (pose_Identity_T) 0 [] [] (fun r => .pure (enc_Pose r)) (fun _ => []) (by kernel_rfl)
noncomputable def axis_rest_T (_a0 : Int) (_a1 : S_Interval) : T S_Pose :=
 .call (pose_Identity_C) [] fun y1 =>
 .ret y1
noncomputable def axis_rest_C (a0 : Int) (a1 : S_Interval) : CallS S_Pose :=
  mkC [] hd Tryz.func271 (by kernel_rfl) (axis_rest_T a0 a1) 0 [pz a0, .pure (enc_Interval a1)] [] (fun r => .pure (enc_Pose r)) (fun _ => []) (by kernel_rfl)
noncomputable def pose_mover_T (a0 : S_Pose) : T (Int × Int × Int × Int × Int × Int × Int × Int × Int × Int × Int × Int × Int × Int × Int × Int × Int × Int × Int × Int × Int × Int × Int × Int) :=
 .ret (a0.R.1.1.Lo, a0.R.1.1.Hi, a0.R.1.2.1.Lo, a0.R.1.2.1.Hi, a0.R.1.2.2.Lo, a0.R.1.2.2.Hi, a0.R.2.1.1.Lo, a0.R.2.1.1.Hi, a0.R.2.1.2.1.Lo, a0.R.2.1.2.1.Hi, a0.R.2.1.2.2.Lo, a0.R.2.1.2.2.Hi, a0.R.2.2.1.Lo, a0.R.2.2.1.Hi, a0.R.2.2.2.1.Lo, a0.R.2.2.2.1.Hi, a0.R.2.2.2.2.Lo, a0.R.2.2.2.2.Hi, a0.T.1.Lo, a0.T.1.Hi, a0.T.2.1.Lo, a0.T.2.1.Hi, a0.T.2.2.Lo, a0.T.2.2.Hi)
noncomputable def pose_mover_C (a0 : S_Pose) : CallS (Int × Int × Int × Int × Int × Int × Int × Int × Int × Int × Int × Int × Int × Int × Int × Int × Int × Int × Int × Int × Int × Int × Int × Int) :=
  mkC [] hd Tryz.func243 (by kernel_rfl) (pose_mover_T a0) 0 [.pure (enc_Pose a0)] [] (fun _ => .func 272 [] [.ptr 0 0]) (fun r => [(0, .box [pz r.1, pz r.2.1, pz r.2.2.1, pz r.2.2.2.1, pz r.2.2.2.2.1, pz r.2.2.2.2.2.1, pz r.2.2.2.2.2.2.1, pz r.2.2.2.2.2.2.2.1, pz r.2.2.2.2.2.2.2.2.1, pz r.2.2.2.2.2.2.2.2.2.1, pz r.2.2.2.2.2.2.2.2.2.2.1, pz r.2.2.2.2.2.2.2.2.2.2.2.1, pz r.2.2.2.2.2.2.2.2.2.2.2.2.1, pz r.2.2.2.2.2.2.2.2.2.2.2.2.2.1, pz r.2.2.2.2.2.2.2.2.2.2.2.2.2.2.1, pz r.2.2.2.2.2.2.2.2.2.2.2.2.2.2.2.1, pz r.2.2.2.2.2.2.2.2.2.2.2.2.2.2.2.2.1, pz r.2.2.2.2.2.2.2.2.2.2.2.2.2.2.2.2.2.1, pz r.2.2.2.2.2.2.2.2.2.2.2.2.2.2.2.2.2.2.1, pz r.2.2.2.2.2.2.2.2.2.2.2.2.2.2.2.2.2.2.2.1, pz r.2.2.2.2.2.2.2.2.2.2.2.2.2.2.2.2.2.2.2.2.1, pz r.2.2.2.2.2.2.2.2.2.2.2.2.2.2.2.2.2.2.2.2.2.1, pz r.2.2.2.2.2.2.2.2.2.2.2.2.2.2.2.2.2.2.2.2.2.2.1, pz r.2.2.2.2.2.2.2.2.2.2.2.2.2.2.2.2.2.2.2.2.2.2.2])]) (by kernel_rfl)
noncomputable def interval_valid_T (a0 : S_Interval) (a1 : S_Interval) : T Bool :=
 .call (interval_Valid_C a0) [] fun y1 =>
 .br y1
 (.call (interval_Valid_C a1) [] fun y2 =>
 .ret y2)
 (.ret false)
noncomputable def interval_valid_C (a0 : S_Interval) (a1 : S_Interval) : CallS Bool :=
  mkC [] hd Tryz.func300 (by kernel_rfl) (interval_valid_T a0 a1) 0 [.pure (enc_Interval a0), .pure (enc_Interval a1)] [] (fun r => .pure (.bool r)) (fun _ => []) (by kernel_rfl)
noncomputable def fixed_ShiftDown_T (a0 : Int) (a1 : Int) : T Int :=
 .br (decide (a1 < 0))
 (.ret a0)
 (.grd (0 ≤ a1) <|
 .ret (a0.fdiv (2 ^ (min (a1).toNat 64))))
noncomputable def fixed_ShiftDown_C (a0 : Int) (a1 : Int) : CallS Int :=
  mkC [] hd Tryz.func188 (by kernel_rfl) (fixed_ShiftDown_T a0 a1) 0 [pz a0, pz a1] [] (fun r => pz r) (fun _ => []) (by kernel_rfl)
noncomputable def fixed_ShiftUp_T (a0 : Int) (a1 : Int) : T Int :=
 .br (decide (a1 < 0))
 (.ret a0)
 (.grd (0 ≤ a1) <|
 .cut 0 (fun (y1 : Int) => ⟨[(5, pz y1)], [], [], 0⟩)
 (.grd (0 ≤ a1) <|
 .br ((IntKind.i64.wrap ((a0.fdiv (2 ^ (min (a1).toNat 64))) * 2 ^ (min (a1).toNat 64))) != a0)
 (.ret (.out (IntKind.i64.wrap ((a0.fdiv (2 ^ (min (a1).toNat 64))) + 1))))
 (.ret (.out (a0.fdiv (2 ^ (min (a1).toNat 64)))))) fun y1 =>
 .ret y1)
noncomputable def fixed_ShiftUp_C (a0 : Int) (a1 : Int) : CallS Int :=
  mkC [] hd Tryz.func227 (by kernel_rfl) (fixed_ShiftUp_T a0 a1) 0 [pz a0, pz a1] [] (fun r => pz r) (fun _ => []) (by kernel_rfl)
noncomputable def interval_scaled_T (a0 : Int) (a1 : Int) : T S_Interval :=
 .call (fixed_ShiftDown_C a0 16) [] fun y1 =>
 .call (fixed_ShiftUp_C a1 16) [] fun y2 =>
 .call (interval_limited_C y1 y2) [] fun y3 =>
 .ret y3
noncomputable def interval_scaled_C (a0 : Int) (a1 : Int) : CallS S_Interval :=
  mkC [] hd Tryz.func301 (by kernel_rfl) (interval_scaled_T a0 a1) 0 [pz a0, pz a1] [] (fun r => .pure (enc_Interval r)) (fun _ => []) (by kernel_rfl)
noncomputable def interval_Mul_T (a0 : S_Interval) (a1 : S_Interval) : T S_Interval :=
 .call (interval_valid_C (⟨a0.Lo, a0.Hi⟩ : S_Interval) (⟨a1.Lo, a1.Hi⟩ : S_Interval)) [] fun y35 =>
 .br (!y35)
 (.ret (⟨0, 0⟩ : S_Interval))
 (.ix 0 4 rfl <|
 .ix 0 4 rfl <|
 .loop (fun (x56 : (Int × Int × Int)) => ⟨[(4, .ptr 0 0), (6, pz x56.1), (7, pz x56.2.1), (40, .pure (enc_arr_4_int64 ((IntKind.i64.wrap (a0.Lo * a1.Lo)), (IntKind.i64.wrap (a0.Lo * a1.Hi)), (IntKind.i64.wrap (a0.Hi * a1.Lo)), (IntKind.i64.wrap (a0.Hi * a1.Hi))))), (41, pz x56.2.2)], [(0, .box [pz 0, pz 0])], [], 1⟩)
 (.exit 0) (fun (y61 : (Int × Int)) => ⟨[(4, .ptr 0 0), (6, pz y61.1), (7, pz y61.2)], [(0, .box [pz 0, pz 0])], [], 1⟩)
 (fun x56 => .br (decide (x56.2.2 < 4))
 (.grd (0 ≤ x56.2.2 ∧ x56.2.2 < ((4 : Nat) : Int)) <|
 .name 7000 ((([(IntKind.i64.wrap (a0.Lo * a1.Lo)), (IntKind.i64.wrap (a0.Lo * a1.Hi)), (IntKind.i64.wrap (a0.Hi * a1.Lo)), (IntKind.i64.wrap (a0.Hi * a1.Hi))] : List Int).getD (x56.2.2).toNat 0)) fun z65 =>
 .ret (.next ((min x56.1 z65), (max x56.2.1 z65), (IntKind.i64.wrap (x56.2.2 + 1)))))
 (.ret (.out (x56.1, x56.2.1))))
 ((IntKind.i64.wrap (a0.Lo * a1.Lo)), (IntKind.i64.wrap (a0.Lo * a1.Lo)), 0) [] fun y61 =>
 .call (interval_scaled_C y61.1 y61.2) [] fun y66 =>
 .ret y66)
noncomputable def interval_Mul_C (a0 : S_Interval) (a1 : S_Interval) : CallS S_Interval :=
  mkC [] hd Tryz.func276 (by kernel_rfl) (interval_Mul_T a0 a1) 0 [.pure (enc_Interval a0), .pure (enc_Interval a1)] [] (fun r => .pure (enc_Interval r)) (fun _ => []) (by kernel_rfl)
noncomputable def interval_Add_T (a0 : S_Interval) (a1 : S_Interval) : T S_Interval :=
 .call (interval_valid_C a0 a1) [] fun y4 =>
 .br (!y4)
 (.ret (⟨0, 0⟩ : S_Interval))
 (.call (interval_limited_C (IntKind.i64.wrap (a0.Lo + a1.Lo)) (IntKind.i64.wrap (a0.Hi + a1.Hi))) [] fun y5 =>
 .ret y5)
noncomputable def interval_Add_C (a0 : S_Interval) (a1 : S_Interval) : CallS S_Interval :=
  mkC [] hd Tryz.func275 (by kernel_rfl) (interval_Add_T a0 a1) 0 [.pure (enc_Interval a0), .pure (enc_Interval a1)] [] (fun r => .pure (enc_Interval r)) (fun _ => []) (by kernel_rfl)
noncomputable def matrix_limited_T (a0 : Int) : T Int :=
 .ret (min (max a0 (-65536)) 65536)
noncomputable def matrix_limited_C (a0 : Int) : CallS Int :=
  mkC [] hd Tryz.func277 (by kernel_rfl) (matrix_limited_T a0) 0 [pz a0] [] (fun r => pz r) (fun _ => []) (by kernel_rfl)
set_option maxHeartbeats 8000000 in
set_option maxRecDepth 20000 in
noncomputable def matrix_Compose_T (a0 : ((S_Interval × S_Interval × S_Interval) × (S_Interval × S_Interval × S_Interval) × (S_Interval × S_Interval × S_Interval))) (a1 : ((S_Interval × S_Interval × S_Interval) × (S_Interval × S_Interval × S_Interval) × (S_Interval × S_Interval × S_Interval))) : T ((S_Interval × S_Interval × S_Interval) × (S_Interval × S_Interval × S_Interval) × (S_Interval × S_Interval × S_Interval)) :=
 .unroll 4 <|
 .known true <|
 .unroll 4 <|
 .known true <|
 .unroll 4 <|
 .known true <|
 .ix 0 3 rfl <|
 .ix 0 3 rfl <|
 .ix 0 3 rfl <|
 .ix 0 3 rfl <|
 .call (interval_Mul_C a0.1.1 a1.1.1) [] fun y3531 =>
 .call (interval_Add_C (⟨0, 0⟩ : S_Interval) y3531) [] fun y3532 =>
 .lit 13000 (1) <|
 .known true <|
 .ix 0 3 rfl <|
 .ix 1 3 rfl <|
 .ix 1 3 rfl <|
 .ix 0 3 rfl <|
 .call (interval_Mul_C a0.1.2.1 a1.2.1.1) [] fun y3535 =>
 .call (interval_Add_C y3532 y3535) [] fun y3536 =>
 .lit 13000 (2) <|
 .known true <|
 .ix 0 3 rfl <|
 .ix 2 3 rfl <|
 .ix 2 3 rfl <|
 .ix 0 3 rfl <|
 .call (interval_Mul_C a0.1.2.2 a1.2.2.1) [] fun y3539 =>
 .call (interval_Add_C y3536 y3539) [] fun y3540 =>
 .lit 13000 (3) <|
 .known false <|
 .call (matrix_limited_C y3540.Lo) [] fun y3541 =>
 .call (matrix_limited_C y3540.Hi) [] fun y3542 =>
 .ix 0 3 rfl <|
 .ix 0 3 rfl <|
 .lit 15000 (1) <|
 .known true <|
 .unroll 4 <|
 .known true <|
 .ix 0 3 rfl <|
 .ix 0 3 rfl <|
 .ix 0 3 rfl <|
 .ix 1 3 rfl <|
 .call (interval_Mul_C a0.1.1 a1.1.2.1) [] fun y3607 =>
 .call (interval_Add_C (⟨0, 0⟩ : S_Interval) y3607) [] fun y3608 =>
 .lit 13000 (1) <|
 .known true <|
 .ix 0 3 rfl <|
 .ix 1 3 rfl <|
 .ix 1 3 rfl <|
 .ix 1 3 rfl <|
 .call (interval_Mul_C a0.1.2.1 a1.2.1.2.1) [] fun y3611 =>
 .call (interval_Add_C y3608 y3611) [] fun y3612 =>
 .lit 13000 (2) <|
 .known true <|
 .ix 0 3 rfl <|
 .ix 2 3 rfl <|
 .ix 2 3 rfl <|
 .ix 1 3 rfl <|
 .call (interval_Mul_C a0.1.2.2 a1.2.2.2.1) [] fun y3615 =>
 .call (interval_Add_C y3612 y3615) [] fun y3616 =>
 .lit 13000 (3) <|
 .known false <|
 .call (matrix_limited_C y3616.Lo) [] fun y3617 =>
 .call (matrix_limited_C y3616.Hi) [] fun y3618 =>
 .ix 0 3 rfl <|
 .ix 1 3 rfl <|
 .lit 15000 (2) <|
 .known true <|
 .unroll 4 <|
 .known true <|
 .ix 0 3 rfl <|
 .ix 0 3 rfl <|
 .ix 0 3 rfl <|
 .ix 2 3 rfl <|
 .call (interval_Mul_C a0.1.1 a1.1.2.2) [] fun y3683 =>
 .call (interval_Add_C (⟨0, 0⟩ : S_Interval) y3683) [] fun y3684 =>
 .lit 13000 (1) <|
 .known true <|
 .ix 0 3 rfl <|
 .ix 1 3 rfl <|
 .ix 1 3 rfl <|
 .ix 2 3 rfl <|
 .call (interval_Mul_C a0.1.2.1 a1.2.1.2.2) [] fun y3687 =>
 .call (interval_Add_C y3684 y3687) [] fun y3688 =>
 .lit 13000 (2) <|
 .known true <|
 .ix 0 3 rfl <|
 .ix 2 3 rfl <|
 .ix 2 3 rfl <|
 .ix 2 3 rfl <|
 .call (interval_Mul_C a0.1.2.2 a1.2.2.2.2) [] fun y3691 =>
 .call (interval_Add_C y3688 y3691) [] fun y3692 =>
 .lit 13000 (3) <|
 .known false <|
 .call (matrix_limited_C y3692.Lo) [] fun y3693 =>
 .call (matrix_limited_C y3692.Hi) [] fun y3694 =>
 .ix 0 3 rfl <|
 .ix 2 3 rfl <|
 .lit 15000 (3) <|
 .known false <|
 .lit 16000 (1) <|
 .known true <|
 .unroll 4 <|
 .known true <|
 .unroll 4 <|
 .known true <|
 .ix 1 3 rfl <|
 .ix 0 3 rfl <|
 .ix 0 3 rfl <|
 .ix 0 3 rfl <|
 .call (interval_Mul_C a0.2.1.1 a1.1.1) [] fun y4145 =>
 .call (interval_Add_C (⟨0, 0⟩ : S_Interval) y4145) [] fun y4146 =>
 .lit 13000 (1) <|
 .known true <|
 .ix 1 3 rfl <|
 .ix 1 3 rfl <|
 .ix 1 3 rfl <|
 .ix 0 3 rfl <|
 .call (interval_Mul_C a0.2.1.2.1 a1.2.1.1) [] fun y4149 =>
 .call (interval_Add_C y4146 y4149) [] fun y4150 =>
 .lit 13000 (2) <|
 .known true <|
 .ix 1 3 rfl <|
 .ix 2 3 rfl <|
 .ix 2 3 rfl <|
 .ix 0 3 rfl <|
 .call (interval_Mul_C a0.2.1.2.2 a1.2.2.1) [] fun y4153 =>
 .call (interval_Add_C y4150 y4153) [] fun y4154 =>
 .lit 13000 (3) <|
 .known false <|
 .call (matrix_limited_C y4154.Lo) [] fun y4155 =>
 .call (matrix_limited_C y4154.Hi) [] fun y4156 =>
 .ix 1 3 rfl <|
 .ix 0 3 rfl <|
 .lit 15000 (1) <|
 .known true <|
 .unroll 4 <|
 .known true <|
 .ix 1 3 rfl <|
 .ix 0 3 rfl <|
 .ix 0 3 rfl <|
 .ix 1 3 rfl <|
 .call (interval_Mul_C a0.2.1.1 a1.1.2.1) [] fun y4221 =>
 .call (interval_Add_C (⟨0, 0⟩ : S_Interval) y4221) [] fun y4222 =>
 .lit 13000 (1) <|
 .known true <|
 .ix 1 3 rfl <|
 .ix 1 3 rfl <|
 .ix 1 3 rfl <|
 .ix 1 3 rfl <|
 .call (interval_Mul_C a0.2.1.2.1 a1.2.1.2.1) [] fun y4225 =>
 .call (interval_Add_C y4222 y4225) [] fun y4226 =>
 .lit 13000 (2) <|
 .known true <|
 .ix 1 3 rfl <|
 .ix 2 3 rfl <|
 .ix 2 3 rfl <|
 .ix 1 3 rfl <|
 .call (interval_Mul_C a0.2.1.2.2 a1.2.2.2.1) [] fun y4229 =>
 .call (interval_Add_C y4226 y4229) [] fun y4230 =>
 .lit 13000 (3) <|
 .known false <|
 .call (matrix_limited_C y4230.Lo) [] fun y4231 =>
 .call (matrix_limited_C y4230.Hi) [] fun y4232 =>
 .ix 1 3 rfl <|
 .ix 1 3 rfl <|
 .lit 15000 (2) <|
 .known true <|
 .unroll 4 <|
 .known true <|
 .ix 1 3 rfl <|
 .ix 0 3 rfl <|
 .ix 0 3 rfl <|
 .ix 2 3 rfl <|
 .call (interval_Mul_C a0.2.1.1 a1.1.2.2) [] fun y4297 =>
 .call (interval_Add_C (⟨0, 0⟩ : S_Interval) y4297) [] fun y4298 =>
 .lit 13000 (1) <|
 .known true <|
 .ix 1 3 rfl <|
 .ix 1 3 rfl <|
 .ix 1 3 rfl <|
 .ix 2 3 rfl <|
 .call (interval_Mul_C a0.2.1.2.1 a1.2.1.2.2) [] fun y4301 =>
 .call (interval_Add_C y4298 y4301) [] fun y4302 =>
 .lit 13000 (2) <|
 .known true <|
 .ix 1 3 rfl <|
 .ix 2 3 rfl <|
 .ix 2 3 rfl <|
 .ix 2 3 rfl <|
 .call (interval_Mul_C a0.2.1.2.2 a1.2.2.2.2) [] fun y4305 =>
 .call (interval_Add_C y4302 y4305) [] fun y4306 =>
 .lit 13000 (3) <|
 .known false <|
 .call (matrix_limited_C y4306.Lo) [] fun y4307 =>
 .call (matrix_limited_C y4306.Hi) [] fun y4308 =>
 .ix 1 3 rfl <|
 .ix 2 3 rfl <|
 .lit 15000 (3) <|
 .known false <|
 .lit 16000 (2) <|
 .known true <|
 .unroll 4 <|
 .known true <|
 .unroll 4 <|
 .known true <|
 .ix 2 3 rfl <|
 .ix 0 3 rfl <|
 .ix 0 3 rfl <|
 .ix 0 3 rfl <|
 .call (interval_Mul_C a0.2.2.1 a1.1.1) [] fun y4759 =>
 .call (interval_Add_C (⟨0, 0⟩ : S_Interval) y4759) [] fun y4760 =>
 .lit 13000 (1) <|
 .known true <|
 .ix 2 3 rfl <|
 .ix 1 3 rfl <|
 .ix 1 3 rfl <|
 .ix 0 3 rfl <|
 .call (interval_Mul_C a0.2.2.2.1 a1.2.1.1) [] fun y4763 =>
 .call (interval_Add_C y4760 y4763) [] fun y4764 =>
 .lit 13000 (2) <|
 .known true <|
 .ix 2 3 rfl <|
 .ix 2 3 rfl <|
 .ix 2 3 rfl <|
 .ix 0 3 rfl <|
 .call (interval_Mul_C a0.2.2.2.2 a1.2.2.1) [] fun y4767 =>
 .call (interval_Add_C y4764 y4767) [] fun y4768 =>
 .lit 13000 (3) <|
 .known false <|
 .call (matrix_limited_C y4768.Lo) [] fun y4769 =>
 .call (matrix_limited_C y4768.Hi) [] fun y4770 =>
 .ix 2 3 rfl <|
 .ix 0 3 rfl <|
 .lit 15000 (1) <|
 .known true <|
 .unroll 4 <|
 .known true <|
 .ix 2 3 rfl <|
 .ix 0 3 rfl <|
 .ix 0 3 rfl <|
 .ix 1 3 rfl <|
 .call (interval_Mul_C a0.2.2.1 a1.1.2.1) [] fun y4835 =>
 .call (interval_Add_C (⟨0, 0⟩ : S_Interval) y4835) [] fun y4836 =>
 .lit 13000 (1) <|
 .known true <|
 .ix 2 3 rfl <|
 .ix 1 3 rfl <|
 .ix 1 3 rfl <|
 .ix 1 3 rfl <|
 .call (interval_Mul_C a0.2.2.2.1 a1.2.1.2.1) [] fun y4839 =>
 .call (interval_Add_C y4836 y4839) [] fun y4840 =>
 .lit 13000 (2) <|
 .known true <|
 .ix 2 3 rfl <|
 .ix 2 3 rfl <|
 .ix 2 3 rfl <|
 .ix 1 3 rfl <|
 .call (interval_Mul_C a0.2.2.2.2 a1.2.2.2.1) [] fun y4843 =>
 .call (interval_Add_C y4840 y4843) [] fun y4844 =>
 .lit 13000 (3) <|
 .known false <|
 .call (matrix_limited_C y4844.Lo) [] fun y4845 =>
 .call (matrix_limited_C y4844.Hi) [] fun y4846 =>
 .ix 2 3 rfl <|
 .ix 1 3 rfl <|
 .lit 15000 (2) <|
 .known true <|
 .unroll 4 <|
 .known true <|
 .ix 2 3 rfl <|
 .ix 0 3 rfl <|
 .ix 0 3 rfl <|
 .ix 2 3 rfl <|
 .call (interval_Mul_C a0.2.2.1 a1.1.2.2) [] fun y4911 =>
 .call (interval_Add_C (⟨0, 0⟩ : S_Interval) y4911) [] fun y4912 =>
 .lit 13000 (1) <|
 .known true <|
 .ix 2 3 rfl <|
 .ix 1 3 rfl <|
 .ix 1 3 rfl <|
 .ix 2 3 rfl <|
 .call (interval_Mul_C a0.2.2.2.1 a1.2.1.2.2) [] fun y4915 =>
 .call (interval_Add_C y4912 y4915) [] fun y4916 =>
 .lit 13000 (2) <|
 .known true <|
 .ix 2 3 rfl <|
 .ix 2 3 rfl <|
 .ix 2 3 rfl <|
 .ix 2 3 rfl <|
 .call (interval_Mul_C a0.2.2.2.2 a1.2.2.2.2) [] fun y4919 =>
 .call (interval_Add_C y4916 y4919) [] fun y4920 =>
 .lit 13000 (3) <|
 .known false <|
 .call (matrix_limited_C y4920.Lo) [] fun y4921 =>
 .call (matrix_limited_C y4920.Hi) [] fun y4922 =>
 .ix 2 3 rfl <|
 .ix 2 3 rfl <|
 .lit 15000 (3) <|
 .known false <|
 .lit 16000 (3) <|
 .known false <|
 .ret (((⟨y3541, y3542⟩ : S_Interval), (⟨y3617, y3618⟩ : S_Interval), (⟨y3693, y3694⟩ : S_Interval)), ((⟨y4155, y4156⟩ : S_Interval), (⟨y4231, y4232⟩ : S_Interval), (⟨y4307, y4308⟩ : S_Interval)), ((⟨y4769, y4770⟩ : S_Interval), (⟨y4845, y4846⟩ : S_Interval), (⟨y4921, y4922⟩ : S_Interval)))
noncomputable def matrix_Compose_C (a0 : ((S_Interval × S_Interval × S_Interval) × (S_Interval × S_Interval × S_Interval) × (S_Interval × S_Interval × S_Interval))) (a1 : ((S_Interval × S_Interval × S_Interval) × (S_Interval × S_Interval × S_Interval) × (S_Interval × S_Interval × S_Interval))) : CallS ((S_Interval × S_Interval × S_Interval) × (S_Interval × S_Interval × S_Interval) × (S_Interval × S_Interval × S_Interval)) :=
  mkC [] hd Tryz.func244 (by kernel_rfl) (matrix_Compose_T a0 a1) 0 [.pure (enc_arr_3_3_Interval a0), .pure (enc_arr_3_3_Interval a1)] [] (fun r => .pure (enc_arr_3_3_Interval r)) (fun _ => []) (by kernel_rfl)
noncomputable def matrix_Apply_T (a0 : ((S_Interval × S_Interval × S_Interval) × (S_Interval × S_Interval × S_Interval) × (S_Interval × S_Interval × S_Interval))) (a1 : (S_Interval × S_Interval × S_Interval)) : T (S_Interval × S_Interval × S_Interval) :=
 .unroll 4 <|
 .known true <|
 .unroll 4 <|
 .known true <|
 .ix 0 3 rfl <|
 .ix 0 3 rfl <|
 .ix 0 3 rfl <|
 .ix 0 3 rfl <|
 .call (interval_Mul_C a0.1.1 a1.1) [] fun y213 =>
 .call (interval_Add_C (⟨0, 0⟩ : S_Interval) y213) [] fun y214 =>
 .ix 0 3 rfl <|
 .lit 9000 (1) <|
 .known true <|
 .ix 0 3 rfl <|
 .ix 0 3 rfl <|
 .ix 1 3 rfl <|
 .ix 1 3 rfl <|
 .call (interval_Mul_C a0.1.2.1 a1.2.1) [] fun y217 =>
 .call (interval_Add_C y214 y217) [] fun y218 =>
 .ix 0 3 rfl <|
 .lit 9000 (2) <|
 .known true <|
 .ix 0 3 rfl <|
 .ix 0 3 rfl <|
 .ix 2 3 rfl <|
 .ix 2 3 rfl <|
 .call (interval_Mul_C a0.1.2.2 a1.2.2) [] fun y221 =>
 .call (interval_Add_C y218 y221) [] fun y222 =>
 .ix 0 3 rfl <|
 .lit 9000 (3) <|
 .known false <|
 .lit 10000 (1) <|
 .known true <|
 .unroll 4 <|
 .known true <|
 .ix 1 3 rfl <|
 .ix 1 3 rfl <|
 .ix 0 3 rfl <|
 .ix 0 3 rfl <|
 .call (interval_Mul_C a0.2.1.1 a1.1) [] fun y249 =>
 .call (interval_Add_C (⟨0, 0⟩ : S_Interval) y249) [] fun y250 =>
 .ix 1 3 rfl <|
 .lit 9000 (1) <|
 .known true <|
 .ix 1 3 rfl <|
 .ix 1 3 rfl <|
 .ix 1 3 rfl <|
 .ix 1 3 rfl <|
 .call (interval_Mul_C a0.2.1.2.1 a1.2.1) [] fun y253 =>
 .call (interval_Add_C y250 y253) [] fun y254 =>
 .ix 1 3 rfl <|
 .lit 9000 (2) <|
 .known true <|
 .ix 1 3 rfl <|
 .ix 1 3 rfl <|
 .ix 2 3 rfl <|
 .ix 2 3 rfl <|
 .call (interval_Mul_C a0.2.1.2.2 a1.2.2) [] fun y257 =>
 .call (interval_Add_C y254 y257) [] fun y258 =>
 .ix 1 3 rfl <|
 .lit 9000 (3) <|
 .known false <|
 .lit 10000 (2) <|
 .known true <|
 .unroll 4 <|
 .known true <|
 .ix 2 3 rfl <|
 .ix 2 3 rfl <|
 .ix 0 3 rfl <|
 .ix 0 3 rfl <|
 .call (interval_Mul_C a0.2.2.1 a1.1) [] fun y285 =>
 .call (interval_Add_C (⟨0, 0⟩ : S_Interval) y285) [] fun y286 =>
 .ix 2 3 rfl <|
 .lit 9000 (1) <|
 .known true <|
 .ix 2 3 rfl <|
 .ix 2 3 rfl <|
 .ix 1 3 rfl <|
 .ix 1 3 rfl <|
 .call (interval_Mul_C a0.2.2.2.1 a1.2.1) [] fun y289 =>
 .call (interval_Add_C y286 y289) [] fun y290 =>
 .ix 2 3 rfl <|
 .lit 9000 (2) <|
 .known true <|
 .ix 2 3 rfl <|
 .ix 2 3 rfl <|
 .ix 2 3 rfl <|
 .ix 2 3 rfl <|
 .call (interval_Mul_C a0.2.2.2.2 a1.2.2) [] fun y293 =>
 .call (interval_Add_C y290 y293) [] fun y294 =>
 .ix 2 3 rfl <|
 .lit 9000 (3) <|
 .known false <|
 .lit 10000 (3) <|
 .known false <|
 .ret (y222, y258, y294)
noncomputable def matrix_Apply_C (a0 : ((S_Interval × S_Interval × S_Interval) × (S_Interval × S_Interval × S_Interval) × (S_Interval × S_Interval × S_Interval))) (a1 : (S_Interval × S_Interval × S_Interval)) : CallS (S_Interval × S_Interval × S_Interval) :=
  mkC [] hd Tryz.func274 (by kernel_rfl) (matrix_Apply_T a0 a1) 0 [.pure (enc_arr_3_3_Interval a0), .pure (enc_arr_3_Interval a1)] [] (fun r => .pure (enc_arr_3_Interval r)) (fun _ => []) (by kernel_rfl)
end Go.Abs
