/-
  F3: what functions of the program compute, as trees, with their specifications (printed by a program of ours).
-/
import Derived.Test.YtnehaejghnoigaaGreatF2
namespace Go.Abs
open Go.Proofs
set_option maxHeartbeats 8000000 in
set_option maxRecDepth 20000 in
noncomputable def law20_pieces_T (a0 : (List S_Piece)) (a1 : Int) (a2 : Int) (a3 : Int) : T (List S_Piece) :=
  .grd (a0.length * 40 ≤ 140737488355328 ∧ a0.length ≤ maxLen) <|
  .br (((a0.length : Nat) : Int) == 0)
   (.call (make_Round_C a3 3) [] fun y3 =>
   .call (make_Round_C a2 3) [] fun y4 =>
   .conv 3005 (cvLitP 3 enc_Piece ([(⟨y3, y4, nl⟩ : S_Piece)] : (List S_Piece)) 37 [.agg [.int .i64 y3, .int .i64 y4, .lst 0 0 fun _ => .unk]] (by kernel_rfl)) <|
   .ret ([(⟨y3, y4, nl⟩ : S_Piece)] : (List S_Piece)))
   (.call (make_Round_C a2 ((a0.length : Nat) : Int)) [] fun y6 =>
   .cut 0 (fun (y21 : (List S_Piece)) => ⟨[(9, .vec 0)], [(0, vecO 3 enc_Piece y21 37)], [], 1⟩)
    (.call (make_Round_C a1 7) [] fun y23 =>
    .br (y23 == 0)
     (.grd (0 ≤ y6 ∧ y6 < ((a0.length : Nat) : Int)) <|
     .grd ((y6).toNat < a0.length) <|
     .call (make_Round_C a3 5) [] fun y24 =>
     .grd (0 ≤ y6 ∧ y6 < ((a0.length : Nat) : Int)) <|
     .conv 9011 (cvSet 3 enc_Piece a0 37 ((y6).toNat) (⟨(IntKind.i64.wrap (((a0.getD ((y6).toNat) default).Depth) + (IntKind.i64.wrap (y24 - 2)))), (a0.getD ((y6).toNat) default).Index, (a0.getD ((y6).toNat) default).Normals⟩ : S_Piece)) <|
     .grd ((y6).toNat < a0.length ∧ 0 ≤ (y6).toNat) <|
     .ret (.out (a0.set ((y6).toNat) (⟨(IntKind.i64.wrap (((a0.getD ((y6).toNat) default).Depth) + (IntKind.i64.wrap (y24 - 2)))), (a0.getD ((y6).toNat) default).Index, (a0.getD ((y6).toNat) default).Normals⟩ : S_Piece))))
     (.br (y23 == 1)
      (.grd (0 ≤ y6 ∧ y6 < ((a0.length : Nat) : Int)) <|
      .grd ((y6).toNat < a0.length) <|
      .call (make_Round_C a3 5) [] fun y25 =>
      .grd (0 ≤ y6 ∧ y6 < ((a0.length : Nat) : Int)) <|
      .conv 11011 (cvSet 3 enc_Piece a0 37 ((y6).toNat) (⟨(a0.getD ((y6).toNat) default).Depth, (IntKind.i64.wrap (((a0.getD ((y6).toNat) default).Index) + (IntKind.i64.wrap (y25 - 2)))), (a0.getD ((y6).toNat) default).Normals⟩ : S_Piece)) <|
      .grd ((y6).toNat < a0.length ∧ 0 ≤ (y6).toNat) <|
      .ret (.out (a0.set ((y6).toNat) (⟨(a0.getD ((y6).toNat) default).Depth, (IntKind.i64.wrap (((a0.getD ((y6).toNat) default).Index) + (IntKind.i64.wrap (y25 - 2)))), (a0.getD ((y6).toNat) default).Normals⟩ : S_Piece))))
      (.br (y23 == 2)
       (.unroll 2 <|
       .grd (0 ≤ (0 : Int) ∧ (0 : Int) ≤ y6 ∧ y6 ≤ ((a0.length : Nat) : Int)) <|
       .unroll 2 <|
       .grd (0 ≤ (IntKind.i64.wrap (y6 + 1)) ∧ (IntKind.i64.wrap (y6 + 1)) ≤ ((a0.length : Nat) : Int) ∧ ((a0.length : Nat) : Int) ≤ ((a0.length : Nat) : Int)) <|
       .conv 13007 (cvCut 3 enc_Piece a0 37 ((y6).toNat - (0 : Int).toNat) ((((a0.length : Nat) : Int)).toNat - ((IntKind.i64.wrap (y6 + 1))).toNat) ((IntKind.i64.wrap (y6 + 1))).toNat 40) <|
       .grd ((((y6).toNat - (0 : Int).toNat) + ((((a0.length : Nat) : Int)).toNat - ((IntKind.i64.wrap (y6 + 1))).toNat)) * 40 ≤ 140737488355328 ∧ (((y6).toNat - (0 : Int).toNat) + ((((a0.length : Nat) : Int)).toNat - ((IntKind.i64.wrap (y6 + 1))).toNat)) ≤ maxLen ∧ ((y6).toNat - (0 : Int).toNat) ≤ a0.length ∧ ((IntKind.i64.wrap (y6 + 1))).toNat + ((((a0.length : Nat) : Int)).toNat - ((IntKind.i64.wrap (y6 + 1))).toNat) ≤ a0.length) <|
       .ret (.out (a0.take ((y6).toNat - (0 : Int).toNat) ++ ((a0.drop ((IntKind.i64.wrap (y6 + 1))).toNat).take ((((a0.length : Nat) : Int)).toNat - ((IntKind.i64.wrap (y6 + 1))).toNat)))))
       (.br (y23 == 3)
        (.grd (0 ≤ y6 ∧ y6 < ((a0.length : Nat) : Int)) <|
        .grd ((y6).toNat < a0.length) <|
        .conv 15005 (cvLit 3 enc_Piece ([(a0.getD ((y6).toNat) default)] : (List S_Piece)) 37) <|
        .conv 15006 (cvApp 3 enc_Piece a0 ([(a0.getD ((y6).toNat) default)] : (List S_Piece)) 37) <|
        .grd ((a0.length + ([(a0.getD ((y6).toNat) default)] : (List S_Piece)).length) * 40 ≤ 140737488355328 ∧ (a0.length + ([(a0.getD ((y6).toNat) default)] : (List S_Piece)).length) ≤ maxLen) <|
        .ret (.out (a0 ++ ([(a0.getD ((y6).toNat) default)] : (List S_Piece)))))
        (.br (y23 == 4)
         (.grd (0 ≤ y6 ∧ y6 < ((a0.length : Nat) : Int)) <|
         .grd ((y6).toNat < a0.length) <|
         .grd ((a0.getD ((y6).toNat) default).Normals.length * 24 ≤ 140737488355328 ∧ (a0.getD ((y6).toNat) default).Normals.length ≤ maxLen) <|
         .grd (0 ≤ y6 ∧ y6 < ((a0.length : Nat) : Int)) <|
         .grd ((y6).toNat < a0.length) <|
         .grd (0 ≤ y6 ∧ y6 < ((a0.length : Nat) : Int)) <|
         .grd ((y6).toNat = (y6).toNat) <|
         .br (decide ((((a0.getD ((y6).toNat) default).Normals.length : Nat) : Int) > 0))
          (.grd (0 ≤ y6 ∧ y6 < ((a0.length : Nat) : Int)) <|
          .grd ((y6).toNat = (y6).toNat) <|
          .call (make_Round_C a3 (((a0.getD ((y6).toNat) default).Normals.length : Nat) : Int)) [] fun y26 =>
          .call (make_Normal_C a3 a2 a1) [] fun y27 =>
          .grd (0 ≤ y26 ∧ y26 < (((a0.getD ((y6).toNat) default).Normals.length : Nat) : Int)) <|
          .conv 20013 (cvSet 3 enc_arr_3_int64 ((a0.getD ((y6).toNat) default).Normals) 49 ((y26).toNat) y27) <|
          .grd ((y26).toNat < (a0.getD ((y6).toNat) default).Normals.length ∧ 0 ≤ (y26).toNat) <|
          .clo 128 (cvSet 3 enc_Piece a0 37 ((y6).toNat) (⟨(a0.getD ((y6).toNat) default).Depth, (a0.getD ((y6).toNat) default).Index, (((a0.getD ((y6).toNat) default).Normals).set ((y26).toNat) y27)⟩ : S_Piece)) <|
          .ret (.out (a0.set ((y6).toNat) (⟨(a0.getD ((y6).toNat) default).Depth, (a0.getD ((y6).toNat) default).Index, (((a0.getD ((y6).toNat) default).Normals).set ((y26).toNat) y27)⟩ : S_Piece))))
          (.clo 128 (cvSet 3 enc_Piece a0 37 ((y6).toNat) (a0.getD ((y6).toNat) default)) <|
          .ret (.out (a0.set ((y6).toNat) (a0.getD ((y6).toNat) default)))))
         (.br (y23 == 5)
          (.conv 22002 (cvLit 1 encI_i64 ([(-1), 20, 21] : (List Int)) 3) <|
          .call (make_Round_C a3 3) [] fun y28 =>
          .grd (0 ≤ y28 ∧ y28 < ((([(-1), 20, 21] : (List Int)).length : Nat) : Int)) <|
          .grd ((y28).toNat < ([(-1), 20, 21] : (List Int)).length) <|
          .grd (0 ≤ y6 ∧ y6 < ((a0.length : Nat) : Int)) <|
          .conv 22009 (cvSet 3 enc_Piece a0 37 ((y6).toNat) (⟨(([(-1), 20, 21] : (List Int)).getD ((y28).toNat) default), (a0.getD ((y6).toNat) default).Index, (a0.getD ((y6).toNat) default).Normals⟩ : S_Piece)) <|
          .grd ((y6).toNat < a0.length ∧ 0 ≤ (y6).toNat) <|
          .ret (.out (a0.set ((y6).toNat) (⟨(([(-1), 20, 21] : (List Int)).getD ((y28).toNat) default), (a0.getD ((y6).toNat) default).Index, (a0.getD ((y6).toNat) default).Normals⟩ : S_Piece))))
          (.grd (0 ≤ y6 ∧ y6 < ((a0.length : Nat) : Int)) <|
          .grd ((y6).toNat < a0.length) <|
          .unroll 2 <|
          .grd (0 ≤ (0 : Int) ∧ (0 : Int) ≤ y6 ∧ y6 ≤ ((a0.length : Nat) : Int)) <|
          .conv 7003 (cvSubN 3 enc_Piece a0 37 ((y6).toNat - (0 : Int).toNat) (0 : Int).toNat 40) <|
          .grd (((y6).toNat - (0 : Int).toNat) * 40 ≤ 140737488355328 ∧ ((y6).toNat - (0 : Int).toNat) ≤ maxLen ∧ (0 : Int).toNat + ((y6).toNat - (0 : Int).toNat) ≤ a0.length) <|
          .conv 7023 (cvLit 3 enc_Piece ([(⟨(IntKind.i64.wrap (((a0.getD ((y6).toNat) default).Depth) + 1)), (IntKind.i64.wrap (2 * ((a0.getD ((y6).toNat) default).Index))), (a0.getD ((y6).toNat) default).Normals⟩ : S_Piece), (⟨(IntKind.i64.wrap (((a0.getD ((y6).toNat) default).Depth) + 1)), (IntKind.i64.wrap ((IntKind.i64.wrap (2 * ((a0.getD ((y6).toNat) default).Index))) + 1)), (a0.getD ((y6).toNat) default).Normals⟩ : S_Piece)] : (List S_Piece)) 37) <|
          .conv 7024 (cvApp 3 enc_Piece ((a0.drop (0 : Int).toNat).take ((y6).toNat - (0 : Int).toNat)) ([(⟨(IntKind.i64.wrap (((a0.getD ((y6).toNat) default).Depth) + 1)), (IntKind.i64.wrap (2 * ((a0.getD ((y6).toNat) default).Index))), (a0.getD ((y6).toNat) default).Normals⟩ : S_Piece), (⟨(IntKind.i64.wrap (((a0.getD ((y6).toNat) default).Depth) + 1)), (IntKind.i64.wrap ((IntKind.i64.wrap (2 * ((a0.getD ((y6).toNat) default).Index))) + 1)), (a0.getD ((y6).toNat) default).Normals⟩ : S_Piece)] : (List S_Piece)) 37) <|
          .grd ((((a0.drop (0 : Int).toNat).take ((y6).toNat - (0 : Int).toNat)).length + ([(⟨(IntKind.i64.wrap (((a0.getD ((y6).toNat) default).Depth) + 1)), (IntKind.i64.wrap (2 * ((a0.getD ((y6).toNat) default).Index))), (a0.getD ((y6).toNat) default).Normals⟩ : S_Piece), (⟨(IntKind.i64.wrap (((a0.getD ((y6).toNat) default).Depth) + 1)), (IntKind.i64.wrap ((IntKind.i64.wrap (2 * ((a0.getD ((y6).toNat) default).Index))) + 1)), (a0.getD ((y6).toNat) default).Normals⟩ : S_Piece)] : (List S_Piece)).length) * 40 ≤ 140737488355328 ∧ (((a0.drop (0 : Int).toNat).take ((y6).toNat - (0 : Int).toNat)).length + ([(⟨(IntKind.i64.wrap (((a0.getD ((y6).toNat) default).Depth) + 1)), (IntKind.i64.wrap (2 * ((a0.getD ((y6).toNat) default).Index))), (a0.getD ((y6).toNat) default).Normals⟩ : S_Piece), (⟨(IntKind.i64.wrap (((a0.getD ((y6).toNat) default).Depth) + 1)), (IntKind.i64.wrap ((IntKind.i64.wrap (2 * ((a0.getD ((y6).toNat) default).Index))) + 1)), (a0.getD ((y6).toNat) default).Normals⟩ : S_Piece)] : (List S_Piece)).length) ≤ maxLen) <|
          .unroll 2 <|
          .grd (0 ≤ (IntKind.i64.wrap (y6 + 1)) ∧ (IntKind.i64.wrap (y6 + 1)) ≤ ((a0.length : Nat) : Int) ∧ ((a0.length : Nat) : Int) ≤ ((a0.length : Nat) : Int)) <|
          .conv 7029 (cvAppVw 3 enc_Piece a0 (((a0.drop (0 : Int).toNat).take ((y6).toNat - (0 : Int).toNat)) ++ ([(⟨(IntKind.i64.wrap (((a0.getD ((y6).toNat) default).Depth) + 1)), (IntKind.i64.wrap (2 * ((a0.getD ((y6).toNat) default).Index))), (a0.getD ((y6).toNat) default).Normals⟩ : S_Piece), (⟨(IntKind.i64.wrap (((a0.getD ((y6).toNat) default).Depth) + 1)), (IntKind.i64.wrap ((IntKind.i64.wrap (2 * ((a0.getD ((y6).toNat) default).Index))) + 1)), (a0.getD ((y6).toNat) default).Normals⟩ : S_Piece)] : (List S_Piece))) 37 ((((a0.length : Nat) : Int)).toNat - ((IntKind.i64.wrap (y6 + 1))).toNat) ((IntKind.i64.wrap (y6 + 1))).toNat 40) <|
          .grd (((((a0.drop (0 : Int).toNat).take ((y6).toNat - (0 : Int).toNat)) ++ ([(⟨(IntKind.i64.wrap (((a0.getD ((y6).toNat) default).Depth) + 1)), (IntKind.i64.wrap (2 * ((a0.getD ((y6).toNat) default).Index))), (a0.getD ((y6).toNat) default).Normals⟩ : S_Piece), (⟨(IntKind.i64.wrap (((a0.getD ((y6).toNat) default).Depth) + 1)), (IntKind.i64.wrap ((IntKind.i64.wrap (2 * ((a0.getD ((y6).toNat) default).Index))) + 1)), (a0.getD ((y6).toNat) default).Normals⟩ : S_Piece)] : (List S_Piece))).length + ((((a0.length : Nat) : Int)).toNat - ((IntKind.i64.wrap (y6 + 1))).toNat)) * 40 ≤ 140737488355328 ∧ ((((a0.drop (0 : Int).toNat).take ((y6).toNat - (0 : Int).toNat)) ++ ([(⟨(IntKind.i64.wrap (((a0.getD ((y6).toNat) default).Depth) + 1)), (IntKind.i64.wrap (2 * ((a0.getD ((y6).toNat) default).Index))), (a0.getD ((y6).toNat) default).Normals⟩ : S_Piece), (⟨(IntKind.i64.wrap (((a0.getD ((y6).toNat) default).Depth) + 1)), (IntKind.i64.wrap ((IntKind.i64.wrap (2 * ((a0.getD ((y6).toNat) default).Index))) + 1)), (a0.getD ((y6).toNat) default).Normals⟩ : S_Piece)] : (List S_Piece))).length + ((((a0.length : Nat) : Int)).toNat - ((IntKind.i64.wrap (y6 + 1))).toNat)) ≤ maxLen ∧ ((IntKind.i64.wrap (y6 + 1))).toNat + ((((a0.length : Nat) : Int)).toNat - ((IntKind.i64.wrap (y6 + 1))).toNat) ≤ a0.length) <|
          .ret (.out ((((a0.drop (0 : Int).toNat).take ((y6).toNat - (0 : Int).toNat)) ++ ([(⟨(IntKind.i64.wrap (((a0.getD ((y6).toNat) default).Depth) + 1)), (IntKind.i64.wrap (2 * ((a0.getD ((y6).toNat) default).Index))), (a0.getD ((y6).toNat) default).Normals⟩ : S_Piece), (⟨(IntKind.i64.wrap (((a0.getD ((y6).toNat) default).Depth) + 1)), (IntKind.i64.wrap ((IntKind.i64.wrap (2 * ((a0.getD ((y6).toNat) default).Index))) + 1)), (a0.getD ((y6).toNat) default).Normals⟩ : S_Piece)] : (List S_Piece))) ++ ((a0.drop ((IntKind.i64.wrap (y6 + 1))).toNat).take ((((a0.length : Nat) : Int)).toNat - ((IntKind.i64.wrap (y6 + 1))).toNat))))))))))) fun y21 =>
   .ret y21)
noncomputable def law20_pieces_C (a0 : (List S_Piece)) (a1 : Int) (a2 : Int) (a3 : Int) : CallS (List S_Piece) :=
  mkC [] hd Tryz.func17 (by kernel_rfl) (law20_pieces_T a0 a1 a2 a3) 0 [.pure (encL 3 enc_Piece a0), .pure (.int .i64 a1), .pure (.int .i64 a2), .pure (.int .i64 a3)] [] (fun r => .pure (encL 3 enc_Piece r)) (fun _ => []) (by kernel_rfl)

noncomputable def law20_one_T : T S_Scene :=
  .conv 1001 (cvLit 12 enc_Joint ([(⟨(⟨#[97]⟩ : ByteArray), 4, (-1), (0, 0, 0), 0, 90000, 1, 1, 1, 1⟩ : S_Joint)] : (List S_Joint)) 147) <|
  .conv 2002 (cvLit 3 enc_arr_3_int64 ([(0, 0, 0)] : (List (Int × Int × Int))) 49) <|
  .conv 2005 (cvLit 3 enc_arr_3_int64 ([(50000, 0, 0)] : (List (Int × Int × Int))) 49) <|
  .conv 2007 (cvLit 3 enc_Shape ([(⟨0, 9, ([(0, 0, 0)] : (List (Int × Int × Int)))⟩ : S_Shape), (⟨(-1), 9, ([(50000, 0, 0)] : (List (Int × Int × Int)))⟩ : S_Shape)] : (List S_Shape)) 108) <|
  .ret (⟨(⟨([(⟨(⟨#[97]⟩ : ByteArray), 4, (-1), (0, 0, 0), 0, 90000, 1, 1, 1, 1⟩ : S_Joint)] : (List S_Joint)), nl⟩ : S_Robot), ([(⟨0, 9, ([(0, 0, 0)] : (List (Int × Int × Int)))⟩ : S_Shape), (⟨(-1), 9, ([(50000, 0, 0)] : (List (Int × Int × Int)))⟩ : S_Shape)] : (List S_Shape)), nl⟩ : S_Scene)
noncomputable def law20_one_C : CallS S_Scene :=
  mkC [] hd Tryz.func49 (by kernel_rfl) (law20_one_T) 0 [] [] (fun r => .pure (enc_Scene r)) (fun _ => []) (by kernel_rfl)

noncomputable def token_isLetter_T (a0 : Int) : T Bool :=
  .br (decide (97 ≤ a0))
   (.ret (decide (a0 ≤ 122)))
   (.ret false)
noncomputable def token_isLetter_C (a0 : Int) : CallS Bool :=
  mkC [] hd Tryz.func248 (by kernel_rfl) (token_isLetter_T a0) 0 [.pure (.int .i32 a0)] [] (fun r => .pure (.bool r)) (fun _ => []) (by kernel_rfl)

noncomputable def token_isDigit_T (a0 : Int) : T Bool :=
  .br (decide (48 ≤ a0))
   (.ret (decide (a0 ≤ 57)))
   (.ret false)
noncomputable def token_isDigit_C (a0 : Int) : CallS Bool :=
  mkC [] hd Tryz.func249 (by kernel_rfl) (token_isDigit_T a0) 0 [.pure (.int .i32 a0)] [] (fun r => .pure (.bool r)) (fun _ => []) (by kernel_rfl)

noncomputable def token_Name_T (a0 : ByteArray) : T Bool :=
  .cut 2 (fun (y2 : Bool) => ⟨[(0, .pure (.str a0)), (16, .pure (.bool y2))], [], [], 0⟩)
   (.br (((a0.size : Nat) : Int) == 0)
    (.ret (.out true))
    (.br (decide (((a0.size : Nat) : Int) > 16))
     (.ret (.out true))
     (.ret (.out (a0 == (⟨#[119, 111, 114, 108, 100]⟩ : ByteArray)))))) fun y2 =>
  .br y2
   (.ret false)
   (.loop (fun (x35 : Nat) => ⟨[(18, .ptr 0 0)], [(0, .iter a0 x35)], [], 1⟩)
    (.exit 0) (fun (_ : U0) => ⟨[], [], [], 0⟩)
    (fun x35 => .brP (x35 < a0.size)
      (.cut 2 (fun (y48 : Bool) => ⟨[(18, .ptr 0 0), (38, .pure (.bool y48))], [(0, .iter a0 (x35 + (Utf8.decode a0 x35).2))], [], 1⟩)
       (.call (token_isLetter_C ((Utf8.decode a0 x35).1 : Int)) [] fun y49 =>
       .br (!y49)
        (.br (((x35 : Nat) : Int) == 0)
         (.ret (.out true))
         (.call (token_isDigit_C ((Utf8.decode a0 x35).1 : Int)) [] fun y50 =>
         .br (!y50)
          (.ret (.out (((Utf8.decode a0 x35).1 : Int) != 95)))
          (.ret (.out false))))
        (.ret (.out false))) fun y48 =>
      .br y48
       (.ret (.fin false))
       (.ret (.next (x35 + (Utf8.decode a0 x35).2))))
      (.ret (.out .u)))
    0 [] fun _ =>
   .ret true)
noncomputable def token_Name_C (a0 : ByteArray) : CallS Bool :=
  mkC [] hd Tryz.func215 (by kernel_rfl) (token_Name_T a0) 0 [.pure (.str a0)] [] (fun r => .pure (.bool r)) (fun _ => []) (by kernel_rfl)

noncomputable def robot_Find_T (a0 : S_Robot) (a1 : ByteArray) : T Int :=
  .loop (fun (x5 : Int) => ⟨[(1, .pure (.str a1)), (2, .ptr 0 0), (8, .pure (.int .i64 ((a0.Joints.length : Nat) : Int))), (9, .pure (.int .i64 x5))], [(0, .box [.pure (encL 12 enc_Joint a0.Joints), .pure (encL 5 enc_Mass a0.Masses)])], [], 1⟩)
   (.exit 0) (fun (_ : U0) => ⟨[], [], [], 0⟩)
   (fun x5 => .br (decide (x5 < ((a0.Joints.length : Nat) : Int)))
     (.grd (0 ≤ x5 ∧ x5 < ((a0.Joints.length : Nat) : Int)) <|
     .br (((a0.Joints.getD ((x5).toNat) default).Name) == a1)
      (.ret (.fin x5))
      (.ret (.next (IntKind.i64.wrap (x5 + 1)))))
     (.ret (.out .u)))
   0 [] fun _ =>
  .ret (-1)
noncomputable def robot_Find_C (a0 : S_Robot) (a1 : ByteArray) : CallS Int :=
  mkC [] hd Tryz.func216 (by kernel_rfl) (robot_Find_T a0 a1) 0 [.pure (enc_Robot a0), .pure (.str a1)] [] (fun r => .pure (.int .i64 r)) (fun _ => []) (by kernel_rfl)

noncomputable def robot_beyond_T (a0 : (Int × Int × Int)) : T Bool :=
  .loop (fun (x13 : Int) => ⟨[(5, .pure (enc_arr_3_int64 a0)), (6, .pure (.int .i64 x13))], [], [], 0⟩)
   (.exit 0) (fun (_ : U0) => ⟨[], [], [], 0⟩)
   (fun x13 => .br (decide (x13 < 3))
     (.grd (0 ≤ x13 ∧ x13 < ((3 : Nat) : Int)) <|
     .cut 0 (fun (y18 : Bool) => ⟨[(5, .pure (enc_arr_3_int64 a0)), (6, .pure (.int .i64 x13)), (14, .pure (.bool y18))], [], [], 0⟩)
      (.br (decide ((([a0.1, a0.2.1, a0.2.2] : List Int).getD (x13).toNat 0) < (-4194304)))
       (.ret (.out true))
       (.ret (.out (decide ((([a0.1, a0.2.1, a0.2.2] : List Int).getD (x13).toNat 0) > 4194304))))) fun y18 =>
     .br y18
      (.ret (.fin true))
      (.ret (.next (IntKind.i64.wrap (x13 + 1)))))
     (.ret (.out .u)))
   0 [] fun _ =>
  .ret false
noncomputable def robot_beyond_C (a0 : (Int × Int × Int)) : CallS Bool :=
  mkC [] hd Tryz.func217 (by kernel_rfl) (robot_beyond_T a0) 0 [.pure (enc_arr_3_int64 a0)] [] (fun r => .pure (.bool r)) (fun _ => []) (by kernel_rfl)

noncomputable def robot_limit_T (a0 : Int) : T Int :=
  .cut 3 (fun (y3 : Bool) => ⟨[(3, .pure (.int .i64 a0)), (4, .pure (.bool y3))], [], [], 0⟩)
   (.br (a0 == 1)
    (.ret (.out (a0 == 1)))
    (.br (a0 == 2)
     (.ret (.out (a0 == 2)))
     (.ret (.out (a0 == 3))))) fun y3 =>
  .br y3
   (.ret 524288)
   (.cut 0 (fun (y4 : Bool) => ⟨[(8, .pure (.bool y4))], [], [], 0⟩)
    (.br (a0 == 4)
     (.ret (.out (a0 == 4)))
     (.br (a0 == 5)
      (.ret (.out (a0 == 5)))
      (.ret (.out (a0 == 6))))) fun y4 =>
   .br y4
    (.ret 4194304)
    (.ret 0))
noncomputable def robot_limit_C (a0 : Int) : CallS Int :=
  mkC [] hd Tryz.func218 (by kernel_rfl) (robot_limit_T a0) 0 [.pure (.int .i64 a0)] [] (fun r => .pure (.int .i64 r)) (fun _ => []) (by kernel_rfl)

noncomputable def robot_from1_T (a0 : Int) (a1 : Int) : T Bool :=
  .br (decide (1 ≤ a0))
   (.ret (decide (a0 ≤ a1)))
   (.ret false)
noncomputable def robot_from1_C (a0 : Int) (a1 : Int) : CallS Bool :=
  mkC [] hd Tryz.func219 (by kernel_rfl) (robot_from1_T a0 a1) 0 [.pure (.int .i64 a0), .pure (.int .i64 a1)] [] (fun r => .pure (.bool r)) (fun _ => []) (by kernel_rfl)

noncomputable def robot_checkJoint_T (a0 : S_Robot) (a1 : Int) : T Int :=
  .grd (0 ≤ a1 ∧ a1 < ((a0.Joints.length : Nat) : Int)) <|
  .cut 1 (fun (y16 : Bool) => ⟨[(1, .pure (.int .i64 a1)), (5, .ptr 0 0), (12, .pure (.bool y16))], [(0, .box [.pure (.str ((a0.Joints.getD ((a1).toNat) default).Name)), .pure (.int .i64 ((a0.Joints.getD ((a1).toNat) default).Kind)), .pure (.int .i64 ((a0.Joints.getD ((a1).toNat) default).Parent)), .pure (.int .i64 ((a0.Joints.getD ((a1).toNat) default).Offset.1)), .pure (.int .i64 ((a0.Joints.getD ((a1).toNat) default).Offset.2.1)), .pure (.int .i64 ((a0.Joints.getD ((a1).toNat) default).Offset.2.2)), .pure (.int .i64 ((a0.Joints.getD ((a1).toNat) default).Lo)), .pure (.int .i64 ((a0.Joints.getD ((a1).toNat) default).Hi)), .pure (.int .i64 ((a0.Joints.getD ((a1).toNat) default).Weight)), .pure (.int .i64 ((a0.Joints.getD ((a1).toNat) default).Speed)), .pure (.int .i64 ((a0.Joints.getD ((a1).toNat) default).Accel)), .pure (.int .i64 ((a0.Joints.getD ((a1).toNat) default).Torque))])], [], 1⟩)
   (.call (token_Name_C ((a0.Joints.getD ((a1).toNat) default).Name)) [] fun y17 =>
   .br (!y17)
    (.ret (.out true))
    (.call (robot_Find_C (⟨a0.Joints, a0.Masses⟩ : S_Robot) ((a0.Joints.getD ((a1).toNat) default).Name)) [] fun y18 =>
    .ret (.out (y18 != a1)))) fun y16 =>
  .br y16
   (.ret 802)
   (.cut 0 (fun (y19 : Bool) => ⟨[(1, .pure (.int .i64 a1)), (5, .ptr 0 0), (25, .pure (.bool y19))], [(0, .box [.pure (.str ((a0.Joints.getD ((a1).toNat) default).Name)), .pure (.int .i64 ((a0.Joints.getD ((a1).toNat) default).Kind)), .pure (.int .i64 ((a0.Joints.getD ((a1).toNat) default).Parent)), .pure (.int .i64 ((a0.Joints.getD ((a1).toNat) default).Offset.1)), .pure (.int .i64 ((a0.Joints.getD ((a1).toNat) default).Offset.2.1)), .pure (.int .i64 ((a0.Joints.getD ((a1).toNat) default).Offset.2.2)), .pure (.int .i64 ((a0.Joints.getD ((a1).toNat) default).Lo)), .pure (.int .i64 ((a0.Joints.getD ((a1).toNat) default).Hi)), .pure (.int .i64 ((a0.Joints.getD ((a1).toNat) default).Weight)), .pure (.int .i64 ((a0.Joints.getD ((a1).toNat) default).Speed)), .pure (.int .i64 ((a0.Joints.getD ((a1).toNat) default).Accel)), .pure (.int .i64 ((a0.Joints.getD ((a1).toNat) default).Torque))])], [], 1⟩)
    (.br (decide (((a0.Joints.getD ((a1).toNat) default).Kind) < 0))
     (.ret (.out true))
     (.ret (.out (decide (((a0.Joints.getD ((a1).toNat) default).Kind) > 6))))) fun y19 =>
   .br y19
    (.ret 803)
    (.cut 0 (fun (y20 : Bool) => ⟨[(5, .ptr 0 0), (34, .pure (.bool y20))], [(0, .box [.pure (.str ((a0.Joints.getD ((a1).toNat) default).Name)), .pure (.int .i64 ((a0.Joints.getD ((a1).toNat) default).Kind)), .pure (.int .i64 ((a0.Joints.getD ((a1).toNat) default).Parent)), .pure (.int .i64 ((a0.Joints.getD ((a1).toNat) default).Offset.1)), .pure (.int .i64 ((a0.Joints.getD ((a1).toNat) default).Offset.2.1)), .pure (.int .i64 ((a0.Joints.getD ((a1).toNat) default).Offset.2.2)), .pure (.int .i64 ((a0.Joints.getD ((a1).toNat) default).Lo)), .pure (.int .i64 ((a0.Joints.getD ((a1).toNat) default).Hi)), .pure (.int .i64 ((a0.Joints.getD ((a1).toNat) default).Weight)), .pure (.int .i64 ((a0.Joints.getD ((a1).toNat) default).Speed)), .pure (.int .i64 ((a0.Joints.getD ((a1).toNat) default).Accel)), .pure (.int .i64 ((a0.Joints.getD ((a1).toNat) default).Torque))])], [], 1⟩)
     (.br (decide (((a0.Joints.getD ((a1).toNat) default).Parent) < (-1)))
      (.ret (.out true))
      (.ret (.out (decide (((a0.Joints.getD ((a1).toNat) default).Parent) ≥ a1))))) fun y20 =>
    .br y20
     (.ret 804)
     (.call (robot_beyond_C ((a0.Joints.getD ((a1).toNat) default).Offset)) [] fun y22 =>
     .br y22
      (.ret 805)
      (.call (robot_limit_C ((a0.Joints.getD ((a1).toNat) default).Kind)) [] fun y24 =>
      .cut 1 (fun (y26 : Bool) => ⟨[(5, .ptr 0 0), (68, .pure (.bool y26))], [(0, .box [.pure (.str ((a0.Joints.getD ((a1).toNat) default).Name)), .pure (.int .i64 ((a0.Joints.getD ((a1).toNat) default).Kind)), .pure (.int .i64 ((a0.Joints.getD ((a1).toNat) default).Parent)), .pure (.int .i64 ((a0.Joints.getD ((a1).toNat) default).Offset.1)), .pure (.int .i64 ((a0.Joints.getD ((a1).toNat) default).Offset.2.1)), .pure (.int .i64 ((a0.Joints.getD ((a1).toNat) default).Offset.2.2)), .pure (.int .i64 ((a0.Joints.getD ((a1).toNat) default).Lo)), .pure (.int .i64 ((a0.Joints.getD ((a1).toNat) default).Hi)), .pure (.int .i64 ((a0.Joints.getD ((a1).toNat) default).Weight)), .pure (.int .i64 ((a0.Joints.getD ((a1).toNat) default).Speed)), .pure (.int .i64 ((a0.Joints.getD ((a1).toNat) default).Accel)), .pure (.int .i64 ((a0.Joints.getD ((a1).toNat) default).Torque))])], [], 1⟩)
       (.br (decide (((a0.Joints.getD ((a1).toNat) default).Lo) > ((a0.Joints.getD ((a1).toNat) default).Hi)))
        (.ret (.out true))
        (.br (decide (((a0.Joints.getD ((a1).toNat) default).Lo) < (IntKind.i64.wrap (0 - y24))))
         (.ret (.out true))
         (.ret (.out (decide (((a0.Joints.getD ((a1).toNat) default).Hi) > y24)))))) fun y26 =>
      .br y26
       (.ret 806)
       (.cut 1 (fun (y48 : Bool) => ⟨[(90, .pure (.bool y48))], [], [], 0⟩)
        (.call (robot_from1_C ((a0.Joints.getD ((a1).toNat) default).Weight) 1024) [] fun y49 =>
        .br (!y49)
         (.ret (.out true))
         (.call (robot_from1_C ((a0.Joints.getD ((a1).toNat) default).Speed) 1048576) [] fun y50 =>
         .br (!y50)
          (.ret (.out true))
          (.call (robot_from1_C ((a0.Joints.getD ((a1).toNat) default).Accel) 1048576) [] fun y51 =>
          .br (!y51)
           (.ret (.out true))
           (.call (robot_from1_C ((a0.Joints.getD ((a1).toNat) default).Torque) 1099511627776) [] fun y52 =>
           .ret (.out (!y52)))))) fun y48 =>
       .br y48
        (.ret 807)
        (.ret 0))))))
noncomputable def robot_checkJoint_C (a0 : S_Robot) (a1 : Int) : CallS Int :=
  mkC [] hd Tryz.func165 (by kernel_rfl) (robot_checkJoint_T a0 a1) 0 [.pure (enc_Robot a0), .pure (.int .i64 a1)] [] (fun r => .pure (.int .i64 r)) (fun _ => []) (by kernel_rfl)

noncomputable def robot_validMass_T (a0 : S_Robot) (a1 : S_Mass) : T Bool :=
  .br (decide (0 ≤ a1.Link))
   (.br (decide (a1.Link < ((a0.Joints.length : Nat) : Int)))
    (.call (robot_from1_C a1.Mass 65536) [] fun y1 =>
    .br y1
     (.call (robot_beyond_C a1.Point) [] fun y2 =>
     .ret (!y2))
     (.ret false))
    (.ret false))
   (.ret false)
noncomputable def robot_validMass_C (a0 : S_Robot) (a1 : S_Mass) : CallS Bool :=
  mkC [] hd Tryz.func168 (by kernel_rfl) (robot_validMass_T a0 a1) 0 [.pure (enc_Robot a0), .pure (enc_Mass a1)] [] (fun r => .pure (.bool r)) (fun _ => []) (by kernel_rfl)

noncomputable def robot_Check_1_T (a0 : S_Mass) (a1 : (List S_Joint)) (a2 : (List S_Mass)) : T (Bool × (List S_Joint) × (List S_Mass)) :=
  .call (robot_validMass_C (⟨a1, a2⟩ : S_Robot) (⟨a0.Link, a0.Mass, a0.Point⟩ : S_Mass)) [] fun y1 =>
  .ret ((!y1), a1, a2)
noncomputable def robot_Check_1_C (a0 : S_Mass) (a1 : (List S_Joint)) (a2 : (List S_Mass)) : CallS (Bool × (List S_Joint) × (List S_Mass)) :=
  mkC [] hd Tryz.func167 (by kernel_rfl) (robot_Check_1_T a0 a1 a2) 1 [.pure (enc_Mass a0), .ptr 0 0] [(0, .box [.pure (encL 12 enc_Joint a1), .pure (encL 5 enc_Mass a2)])] (fun r => .pure (.bool r.1)) (fun r => [(0, .box [.pure (encL 12 enc_Joint r.2.1), .pure (encL 5 enc_Mass r.2.2)])]) (by kernel_rfl)

noncomputable def slices_IndexFunc_api_Mass_api_Mass_T (a0 : (List S_Mass)) (a1 : (List S_Joint)) (a2 : (List S_Mass)) : T (Int × (List S_Joint) × (List S_Mass)) :=
  .loop (fun (x21 : ((List S_Joint) × (List S_Mass) × Int)) => ⟨[(0, .pure (encL 5 enc_Mass a0)), (1, .func 167 [] [.ptr 0 0]), (7, .pure (.int .i64 ((a0.length : Nat) : Int))), (8, .pure (.int .i64 x21.2.2))], [(0, .box [.pure (encL 12 enc_Joint x21.1), .pure (encL 5 enc_Mass x21.2.1)])], [], 1⟩)
   (.exit 0) (fun (y26 : ((List S_Joint) × (List S_Mass))) => ⟨[], [(0, .box [.pure (encL 12 enc_Joint y26.1), .pure (encL 5 enc_Mass y26.2)])], [], 1⟩)
   (fun x21 => .br (decide (x21.2.2 < ((a0.length : Nat) : Int)))
     (.grd (0 ≤ x21.2.2 ∧ x21.2.2 < ((a0.length : Nat) : Int)) <|
     .call (robot_Check_1_C (a0.getD ((x21.2.2).toNat) default) x21.1 x21.2.1) [(0, 0)] fun y30 =>
     .br y30.1
      (.ret (.fin (x21.2.2, y30.2.1, y30.2.2)))
      (.ret (.next (y30.2.1, y30.2.2, (IntKind.i64.wrap (x21.2.2 + 1))))))
     (.ret (.out (x21.1, x21.2.1))))
   (a1, a2, 0) [] fun y26 =>
  .ret ((-1), y26.1, y26.2)
noncomputable def slices_IndexFunc_api_Mass_api_Mass_C (a0 : (List S_Mass)) (a1 : (List S_Joint)) (a2 : (List S_Mass)) : CallS (Int × (List S_Joint) × (List S_Mass)) :=
  mkC [] hd Tryz.func220 (by kernel_rfl) (slices_IndexFunc_api_Mass_api_Mass_T a0 a1 a2) 1 [.pure (encL 5 enc_Mass a0), .func 167 [] [.ptr 0 0]] [(0, .box [.pure (encL 12 enc_Joint a1), .pure (encL 5 enc_Mass a2)])] (fun r => .pure (.int .i64 r.1)) (fun r => [(0, .box [.pure (encL 12 enc_Joint r.2.1), .pure (encL 5 enc_Mass r.2.2)])]) (by kernel_rfl)

noncomputable def slices_ContainsFunc_api_Mass_api_Mass_T (a0 : (List S_Mass)) (a1 : (List S_Joint)) (a2 : (List S_Mass)) : T (Bool × (List S_Joint) × (List S_Mass)) :=
  .call (slices_IndexFunc_api_Mass_api_Mass_C a0 a1 a2) [(0, 0)] fun y1 =>
  .ret ((decide (y1.1 ≥ 0)), y1.2.1, y1.2.2)
noncomputable def slices_ContainsFunc_api_Mass_api_Mass_C (a0 : (List S_Mass)) (a1 : (List S_Joint)) (a2 : (List S_Mass)) : CallS (Bool × (List S_Joint) × (List S_Mass)) :=
  mkC [] hd Tryz.func166 (by kernel_rfl) (slices_ContainsFunc_api_Mass_api_Mass_T a0 a1 a2) 1 [.pure (encL 5 enc_Mass a0), .func 167 [] [.ptr 0 0]] [(0, .box [.pure (encL 12 enc_Joint a1), .pure (encL 5 enc_Mass a2)])] (fun r => .pure (.bool r.1)) (fun r => [(0, .box [.pure (encL 12 enc_Joint r.2.1), .pure (encL 5 enc_Mass r.2.2)])]) (by kernel_rfl)

noncomputable def robot_Check_T (a0 : S_Robot) : T Int :=
  .cut 2 (fun (y2 : Bool) => ⟨[(1, .ptr 0 0), (14, .pure (.bool y2))], [(0, .box [.pure (encL 12 enc_Joint a0.Joints), .pure (encL 5 enc_Mass a0.Masses)])], [], 1⟩)
   (.br (((a0.Joints.length : Nat) : Int) == 0)
    (.ret (.out true))
    (.ret (.out (decide (((a0.Joints.length : Nat) : Int) > 10))))) fun y2 =>
  .br y2
   (.ret 801)
   (.loop (fun (x23 : Int) => ⟨[(1, .ptr 0 0), (17, .pure (.int .i64 ((a0.Joints.length : Nat) : Int))), (18, .pure (.int .i64 x23))], [(0, .box [.pure (encL 12 enc_Joint a0.Joints), .pure (encL 5 enc_Mass a0.Masses)])], [], 1⟩)
    (.exit 0) (fun (_ : U0) => ⟨[(1, .ptr 0 0)], [(0, .box [.pure (encL 12 enc_Joint a0.Joints), .pure (encL 5 enc_Mass a0.Masses)])], [], 1⟩)
    (fun x23 => .br (decide (x23 < ((a0.Joints.length : Nat) : Int)))
      (.call (robot_checkJoint_C (⟨a0.Joints, a0.Masses⟩ : S_Robot) x23) [] fun y32 =>
      .br (y32 != 0)
       (.ret (.fin y32))
       (.ret (.next (IntKind.i64.wrap (x23 + 1)))))
      (.ret (.out .u)))
    0 [] fun _ =>
   .cut 1 (fun (y39 : Bool) => ⟨[(37, .pure (.bool y39))], [], [], 0⟩)
    (.br (decide (((a0.Masses.length : Nat) : Int) > 32))
     (.ret (.out true))
     (.call (slices_ContainsFunc_api_Mass_api_Mass_C a0.Masses a0.Joints a0.Masses) [(0, 0)] fun y40 =>
     .ret (.out y40.1))) fun y39 =>
   .br y39
    (.ret 808)
    (.ret 0))
noncomputable def robot_Check_C (a0 : S_Robot) : CallS Int :=
  mkC [] hd Tryz.func119 (by kernel_rfl) (robot_Check_T a0) 0 [.pure (enc_Robot a0)] [] (fun r => .pure (.int .i64 r)) (fun _ => []) (by kernel_rfl)

noncomputable def scene_isLink_T (a0 : S_Scene) (a1 : Int) : T Bool :=
  .br (decide ((-1) ≤ a1))
   (.ret (decide (a1 < ((a0.Robot.Joints.length : Nat) : Int))))
   (.ret false)
noncomputable def scene_isLink_C (a0 : S_Scene) (a1 : Int) : CallS Bool :=
  mkC [] hd Tryz.func121 (by kernel_rfl) (scene_isLink_T a0 a1) 0 [.pure (enc_Scene a0), .pure (.int .i64 a1)] [] (fun r => .pure (.bool r)) (fun _ => []) (by kernel_rfl)

noncomputable def scene_checkShape_T (a0 : S_Scene) (a1 : S_Shape) : T Int :=
  .cut 3 (fun (y269 : Bool) => ⟨[(3, .ptr 0 0), (35, .pure (.bool y269))], [(0, .box [.pure (.int .i64 a1.Link), .pure (.int .i64 a1.Radius), .pure (encL 3 enc_arr_3_int64 a1.Points)])], [], 1⟩)
   (.call (scene_isLink_C a0 a1.Link) [] fun y270 =>
   .br (!y270)
    (.ret (.out true))
    (.br (decide (a1.Radius < 1))
     (.ret (.out true))
     (.br (decide (a1.Radius > 1048576))
      (.ret (.out true))
      (.br (decide (((a1.Points.length : Nat) : Int) < 1))
       (.ret (.out true))
       (.ret (.out (decide (((a1.Points.length : Nat) : Int) > 8)))))))) fun y269 =>
  .br y269
   (.ret 902)
   (.loop (fun (x443 : Int) => ⟨[(37, .pure (encL 3 enc_arr_3_int64 a1.Points)), (38, .pure (.int .i64 ((a1.Points.length : Nat) : Int))), (39, .pure (.int .i64 x443))], [], [], 0⟩)
    (.exit 0) (fun (_ : U0) => ⟨[], [], [], 0⟩)
    (fun x443 => .br (decide (x443 < ((a1.Points.length : Nat) : Int)))
      (.grd (0 ≤ x443 ∧ x443 < ((a1.Points.length : Nat) : Int)) <|
      .loop (fun (x515 : Int) => ⟨[(37, .pure (encL 3 enc_arr_3_int64 a1.Points)), (38, .pure (.int .i64 ((a1.Points.length : Nat) : Int))), (39, .pure (.int .i64 x443)), (43, .pure (enc_arr_3_int64 (a1.Points.getD ((x443).toNat) default))), (44, .pure (.int .i64 x515))], [], [], 0⟩)
       (.exit 2) (fun (_ : U0) => ⟨[(37, .pure (encL 3 enc_arr_3_int64 a1.Points)), (38, .pure (.int .i64 ((a1.Points.length : Nat) : Int))), (39, .pure (.int .i64 x443))], [], [], 0⟩)
       (fun x515 => .br (decide (x515 < 3))
         (.grd (0 ≤ x515 ∧ x515 < ((3 : Nat) : Int)) <|
         .name 9000 ((([(a1.Points.getD ((x443).toNat) default).1, (a1.Points.getD ((x443).toNat) default).2.1, (a1.Points.getD ((x443).toNat) default).2.2] : List Int).getD (x515).toNat 0)) fun z527 =>
         .cut 0 (fun (y528 : Bool) => ⟨[(37, .pure (encL 3 enc_arr_3_int64 a1.Points)), (38, .pure (.int .i64 ((a1.Points.length : Nat) : Int))), (39, .pure (.int .i64 x443)), (43, .pure (enc_arr_3_int64 (a1.Points.getD ((x443).toNat) default))), (44, .pure (.int .i64 x515)), (52, .pure (.bool y528))], [], [], 0⟩)
          (.br (decide (z527 < (-4194304)))
           (.ret (.out true))
           (.ret (.out (decide (z527 > 4194304))))) fun y528 =>
         .br y528
          (.ret (.fin (.fin 805)))
          (.ret (.next (IntKind.i64.wrap (x515 + 1)))))
         (.ret (.out .u)))
       0 [] fun _ =>
      .ret (.next (IntKind.i64.wrap (x443 + 1))))
      (.ret (.out .u)))
    0 [] fun _ =>
   .ret 0)
noncomputable def scene_checkShape_C (a0 : S_Scene) (a1 : S_Shape) : CallS Int :=
  mkC [] hd Tryz.func120 (by kernel_rfl) (scene_checkShape_T a0 a1) 0 [.pure (enc_Scene a0), .pure (enc_Shape a1)] [] (fun r => .pure (.int .i64 r)) (fun _ => []) (by kernel_rfl)

noncomputable def scene_Check_T (a0 : S_Scene) : T Int :=
  .call (robot_Check_C a0.Robot) [] fun y4 =>
  .br (y4 != 0)
   (.ret y4)
   (.br (decide (((a0.Shapes.length : Nat) : Int) > 24))
    (.ret 901)
    (.loop (fun (x25 : Int) => ⟨[(1, .ptr 0 0), (20, .pure (encL 3 enc_Shape a0.Shapes)), (21, .pure (.int .i64 ((a0.Shapes.length : Nat) : Int))), (22, .pure (.int .i64 x25))], [(0, .box [.pure (encL 12 enc_Joint a0.Robot.Joints), .pure (encL 5 enc_Mass a0.Robot.Masses), .pure (encL 3 enc_Shape a0.Shapes), .pure (encL 2 enc_Skip a0.Skips)])], [], 1⟩)
     (.exit 0) (fun (_ : U0) => ⟨[(1, .ptr 0 0)], [(0, .box [.pure (encL 12 enc_Joint a0.Robot.Joints), .pure (encL 5 enc_Mass a0.Robot.Masses), .pure (encL 3 enc_Shape a0.Shapes), .pure (encL 2 enc_Skip a0.Skips)])], [], 1⟩)
     (fun x25 => .br (decide (x25 < ((a0.Shapes.length : Nat) : Int)))
       (.grd (0 ≤ x25 ∧ x25 < ((a0.Shapes.length : Nat) : Int)) <|
       .call (scene_checkShape_C a0 (a0.Shapes.getD ((x25).toNat) default)) [] fun y34 =>
       .br (y34 != 0)
        (.ret (.fin y34))
        (.ret (.next (IntKind.i64.wrap (x25 + 1)))))
       (.ret (.out .u)))
     0 [] fun _ =>
    .br (decide (((a0.Skips.length : Nat) : Int) > 64))
     (.ret 903)
     (.loop (fun (x95 : Int) => ⟨[(1, .ptr 0 0), (38, .pure (encL 2 enc_Skip a0.Skips)), (39, .pure (.int .i64 ((a0.Skips.length : Nat) : Int))), (40, .pure (.int .i64 x95))], [(0, .box [.pure (encL 12 enc_Joint a0.Robot.Joints), .pure (encL 5 enc_Mass a0.Robot.Masses), .pure (encL 3 enc_Shape a0.Shapes), .pure (encL 2 enc_Skip a0.Skips)])], [], 1⟩)
      (.exit 2) (fun (_ : U0) => ⟨[], [], [], 0⟩)
      (fun x95 => .br (decide (x95 < ((a0.Skips.length : Nat) : Int)))
        (.grd (0 ≤ x95 ∧ x95 < ((a0.Skips.length : Nat) : Int)) <|
        .cut 0 (fun (y122 : Bool) => ⟨[(1, .ptr 0 0), (38, .pure (encL 2 enc_Skip a0.Skips)), (39, .pure (.int .i64 ((a0.Skips.length : Nat) : Int))), (40, .pure (.int .i64 x95)), (55, .pure (.bool y122))], [(0, .box [.pure (encL 12 enc_Joint a0.Robot.Joints), .pure (encL 5 enc_Mass a0.Robot.Masses), .pure (encL 3 enc_Shape a0.Shapes), .pure (encL 2 enc_Skip a0.Skips)])], [], 1⟩)
         (.call (scene_isLink_C a0 ((a0.Skips.getD ((x95).toNat) default).A)) [] fun y123 =>
         .br (!y123)
          (.ret (.out true))
          (.call (scene_isLink_C a0 ((a0.Skips.getD ((x95).toNat) default).B)) [] fun y124 =>
          .ret (.out (!y124)))) fun y122 =>
        .br y122
         (.ret (.fin 903))
         (.ret (.next (IntKind.i64.wrap (x95 + 1)))))
        (.ret (.out .u)))
      0 [] fun _ =>
     .ret 0)))
noncomputable def scene_Check_C (a0 : S_Scene) : CallS Int :=
  mkC [] hd Tryz.func66 (by kernel_rfl) (scene_Check_T a0) 0 [.pure (enc_Scene a0)] [] (fun r => .pure (.int .i64 r)) (fun _ => []) (by kernel_rfl)

noncomputable def replay_valid_T (a0 : S_edgecheck_replay) : T (Int × Int) :=
  .call (scene_Check_C a0.scene) [] fun y4 =>
  .br (y4 != 0)
   (.ret (0, 904))
   (.ret (0, 0))
noncomputable def replay_valid_C (a0 : S_edgecheck_replay) : CallS (Int × Int) :=
  mkC [] hd Tryz.func89 (by kernel_rfl) (replay_valid_T a0) 0 [.pure (enc_edgecheck_replay a0)] [] (fun r => .tup [.pure (.int .i64 r.1), .pure (.int .i64 r.2)]) (fun _ => []) (by kernel_rfl)

noncomputable def config_Inside_1_T (a0 : S_Joint) (a1 : Int) : T Bool :=
  .br (decide (a0.Lo ≤ a1))
   (.ret (decide (a1 ≤ a0.Hi)))
   (.ret false)
noncomputable def config_Inside_1_C (a0 : S_Joint) (a1 : Int) : CallS Bool :=
  mkC [] hd Tryz.func123 (by kernel_rfl) (config_Inside_1_T a0 a1) 0 [.pure (enc_Joint a0), .pure (.int .i64 a1)] [] (fun r => .pure (.bool r)) (fun _ => []) (by kernel_rfl)

noncomputable def config_every_api_Joint_int64_T (a0 : (List S_Joint)) (a1 : (List Int)) : T Bool :=
  .br (((a0.length : Nat) : Int) != ((a1.length : Nat) : Int))
   (.ret false)
   (.loop (fun (x21 : Int) => ⟨[(1, .pure (encL 1 encI_i64 a1)), (2, .func 123 [] []), (14, .pure (encL 12 enc_Joint a0)), (15, .pure (.int .i64 ((a0.length : Nat) : Int))), (16, .pure (.int .i64 x21))], [], [], 0⟩)
    (.exit 0) (fun (_ : U0) => ⟨[], [], [], 0⟩)
    (fun x21 => .br (decide (x21 < ((a0.length : Nat) : Int)))
      (.grd (0 ≤ x21 ∧ x21 < ((a0.length : Nat) : Int)) <|
      .grd (0 ≤ x21 ∧ x21 < ((a1.length : Nat) : Int)) <|
      .call (config_Inside_1_C (a0.getD ((x21).toNat) default) (a1.getD ((x21).toNat) default)) [] fun y30 =>
      .br (!y30)
       (.ret (.fin false))
       (.ret (.next (IntKind.i64.wrap (x21 + 1)))))
      (.ret (.out .u)))
    0 [] fun _ =>
   .ret true)
noncomputable def config_every_api_Joint_int64_C (a0 : (List S_Joint)) (a1 : (List Int)) : CallS Bool :=
  mkC [] hd Tryz.func122 (by kernel_rfl) (config_every_api_Joint_int64_T a0 a1) 0 [.pure (encL 12 enc_Joint a0), .pure (encL 1 encI_i64 a1), .func 123 [] []] [] (fun r => .pure (.bool r)) (fun _ => []) (by kernel_rfl)

noncomputable def config_Inside_T (a0 : S_Robot) (a1 : (List Int)) : T Bool :=
  .call (robot_Check_C a0) [] fun y1 =>
  .br (y1 == 0)
   (.call (config_every_api_Joint_int64_C a0.Joints a1) [] fun y2 =>
   .ret y2)
   (.ret false)
noncomputable def config_Inside_C (a0 : S_Robot) (a1 : (List Int)) : CallS Bool :=
  mkC [] hd Tryz.func67 (by kernel_rfl) (config_Inside_T a0 a1) 0 [.pure (enc_Robot a0), .pure (encL 1 encI_i64 a1)] [] (fun r => .pure (.bool r)) (fun _ => []) (by kernel_rfl)

noncomputable def replay_inside_T (a0 : S_edgecheck_replay) : T (Int × Int) :=
  .cut 2 (fun (y12 : Bool) => ⟨[(19, .pure (.bool y12))], [], [], 0⟩)
   (.call (config_Inside_C a0.scene.Robot a0.p) [] fun y13 =>
   .br (!y13)
    (.ret (.out true))
    (.call (config_Inside_C a0.scene.Robot a0.q) [] fun y14 =>
    .ret (.out (!y14)))) fun y12 =>
  .br y12
   (.ret (0, 1201))
   (.ret (0, 0))
noncomputable def replay_inside_C (a0 : S_edgecheck_replay) : CallS (Int × Int) :=
  mkC [] hd Tryz.func90 (by kernel_rfl) (replay_inside_T a0) 0 [.pure (enc_edgecheck_replay a0)] [] (fun r => .tup [.pure (.int .i64 r.1), .pure (.int .i64 r.2)]) (fun _ => []) (by kernel_rfl)

noncomputable def replay_tiling_T (a0 : S_edgecheck_replay) : T (Int × Int) :=
  .loop (fun (x189 : (Int × Int)) => ⟨[(1, .ptr 0 0), (4, .pure (.int .i64 x189.1)), (9, .pure (encL 3 enc_Piece a0.pieces)), (10, .pure (.int .i64 ((a0.pieces.length : Nat) : Int))), (11, .pure (.int .i64 x189.2))], [(0, .box [.pure (encL 12 enc_Joint a0.scene.Robot.Joints), .pure (encL 5 enc_Mass a0.scene.Robot.Masses), .pure (encL 3 enc_Shape a0.scene.Shapes), .pure (encL 2 enc_Skip a0.scene.Skips), .pure (encL 1 encI_i64 a0.p), .pure (encL 1 encI_i64 a0.q), .pure (encL 3 enc_Piece a0.pieces)])], [], 1⟩)
   (.exit 0) (fun (y208 : Int) => ⟨[(1, .ptr 0 0), (4, .pure (.int .i64 y208))], [(0, .box [.pure (encL 12 enc_Joint a0.scene.Robot.Joints), .pure (encL 5 enc_Mass a0.scene.Robot.Masses), .pure (encL 3 enc_Shape a0.scene.Shapes), .pure (encL 2 enc_Skip a0.scene.Skips), .pure (encL 1 encI_i64 a0.p), .pure (encL 1 encI_i64 a0.q), .pure (encL 3 enc_Piece a0.pieces)])], [], 1⟩)
   (fun x189 => .br (decide (x189.2 < ((a0.pieces.length : Nat) : Int)))
     (.grd (0 ≤ x189.2 ∧ x189.2 < ((a0.pieces.length : Nat) : Int)) <|
     .cut 1 (fun (y219 : Bool) => ⟨[(1, .ptr 0 0), (4, .pure (.int .i64 x189.1)), (5, .pure (.int .i64 x189.2)), (6, .ptr 1 0), (9, .pure (encL 3 enc_Piece a0.pieces)), (10, .pure (.int .i64 ((a0.pieces.length : Nat) : Int))), (11, .pure (.int .i64 x189.2)), (27, .pure (.bool y219))], [(0, .box [.pure (encL 12 enc_Joint a0.scene.Robot.Joints), .pure (encL 5 enc_Mass a0.scene.Robot.Masses), .pure (encL 3 enc_Shape a0.scene.Shapes), .pure (encL 2 enc_Skip a0.scene.Skips), .pure (encL 1 encI_i64 a0.p), .pure (encL 1 encI_i64 a0.q), .pure (encL 3 enc_Piece a0.pieces)]), (1, .box [.pure (.int .i64 ((a0.pieces.getD ((x189.2).toNat) default).Depth)), .pure (.int .i64 ((a0.pieces.getD ((x189.2).toNat) default).Index)), .pure (encL 3 enc_arr_3_int64 ((a0.pieces.getD ((x189.2).toNat) default).Normals))])], [], 2⟩)
      (.br (x189.2 == 4096)
       (.ret (.out true))
       (.br (decide (((a0.pieces.getD ((x189.2).toNat) default).Depth) < 0))
        (.ret (.out true))
        (.ret (.out (decide (((a0.pieces.getD ((x189.2).toNat) default).Depth) > 20)))))) fun y219 =>
     .br y219
      (.ret (.fin (x189.2, 2001)))
      (.cut 1 (fun (y221 : Bool) => ⟨[(1, .ptr 0 0), (4, .pure (.int .i64 x189.1)), (5, .pure (.int .i64 x189.2)), (6, .ptr 1 0), (9, .pure (encL 3 enc_Piece a0.pieces)), (10, .pure (.int .i64 ((a0.pieces.length : Nat) : Int))), (11, .pure (.int .i64 x189.2)), (39, .pure (.bool y221))], [(0, .box [.pure (encL 12 enc_Joint a0.scene.Robot.Joints), .pure (encL 5 enc_Mass a0.scene.Robot.Masses), .pure (encL 3 enc_Shape a0.scene.Shapes), .pure (encL 2 enc_Skip a0.scene.Skips), .pure (encL 1 encI_i64 a0.p), .pure (encL 1 encI_i64 a0.q), .pure (encL 3 enc_Piece a0.pieces)]), (1, .box [.pure (.int .i64 ((a0.pieces.getD ((x189.2).toNat) default).Depth)), .pure (.int .i64 ((a0.pieces.getD ((x189.2).toNat) default).Index)), .pure (encL 3 enc_arr_3_int64 ((a0.pieces.getD ((x189.2).toNat) default).Normals))])], [], 2⟩)
       (.br (decide (((a0.pieces.getD ((x189.2).toNat) default).Index) < 0))
        (.ret (.out true))
        (.grd (0 ≤ ((a0.pieces.getD ((x189.2).toNat) default).Depth)) <|
        .ret (.out (decide (((a0.pieces.getD ((x189.2).toNat) default).Index) ≥ (IntKind.i64.wrap (1 * 2 ^ (min ((a0.pieces.getD ((x189.2).toNat) default).Depth).toNat 64)))))))) fun y221 =>
      .br y221
       (.ret (.fin (x189.2, 2001)))
       (.grd (0 ≤ ((a0.pieces.getD ((x189.2).toNat) default).Depth)) <|
       .name 10003 ((IntKind.i64.wrap (((a0.pieces.getD ((x189.2).toNat) default).Index) * ((1048576 : Int).fdiv (2 ^ (min ((a0.pieces.getD ((x189.2).toNat) default).Depth).toNat 64)))))) fun z225 =>
       .br (z225 != x189.1)
        (.ret (.fin (x189.2, 2001)))
        (.name 12002 ((IntKind.i64.wrap (x189.1 + ((1048576 : Int).fdiv (2 ^ (min ((a0.pieces.getD ((x189.2).toNat) default).Depth).toNat 64)))))) fun z226 =>
        .ret (.next (z226, (IntKind.i64.wrap (x189.2 + 1))))))))
     (.ret (.out x189.1)))
   (0, 0) [] fun y208 =>
  .br (y208 != 1048576)
   (.ret (((a0.pieces.length : Nat) : Int), 2001))
   (.ret (0, 0))
noncomputable def replay_tiling_C (a0 : S_edgecheck_replay) : CallS (Int × Int) :=
  mkC [] hd Tryz.func91 (by kernel_rfl) (replay_tiling_T a0) 0 [.pure (enc_edgecheck_replay a0)] [] (fun r => .tup [.pure (.int .i64 r.1), .pure (.int .i64 r.2)]) (fun _ => []) (by kernel_rfl)

noncomputable def config_small_1_T (a0 : Int) : T Bool :=
  .br (decide (a0 < (-2147483648)))
   (.ret true)
   (.ret (decide (a0 > 2147483648)))
noncomputable def config_small_1_C (a0 : Int) : CallS Bool :=
  mkC [] hd Tryz.func222 (by kernel_rfl) (config_small_1_T a0) 0 [.pure (.int .i64 a0)] [] (fun r => .pure (.bool r)) (fun _ => []) (by kernel_rfl)

noncomputable def slices_IndexFunc_int64_int64_T (a0 : (List Int)) : T Int :=
  .loop (fun (x21 : Int) => ⟨[(0, .pure (encL 1 encI_i64 a0)), (1, .func 222 [] []), (7, .pure (.int .i64 ((a0.length : Nat) : Int))), (8, .pure (.int .i64 x21))], [], [], 0⟩)
   (.exit 0) (fun (_ : U0) => ⟨[], [], [], 0⟩)
   (fun x21 => .br (decide (x21 < ((a0.length : Nat) : Int)))
     (.grd (0 ≤ x21 ∧ x21 < ((a0.length : Nat) : Int)) <|
     .call (config_small_1_C (a0.getD ((x21).toNat) default)) [] fun y30 =>
     .br y30
      (.ret (.fin x21))
      (.ret (.next (IntKind.i64.wrap (x21 + 1)))))
     (.ret (.out .u)))
   0 [] fun _ =>
  .ret (-1)
noncomputable def slices_IndexFunc_int64_int64_C (a0 : (List Int)) : CallS Int :=
  mkC [] hd Tryz.func250 (by kernel_rfl) (slices_IndexFunc_int64_int64_T a0) 0 [.pure (encL 1 encI_i64 a0), .func 222 [] []] [] (fun r => .pure (.int .i64 r)) (fun _ => []) (by kernel_rfl)

noncomputable def slices_ContainsFunc_int64_int64_T (a0 : (List Int)) : T Bool :=
  .call (slices_IndexFunc_int64_int64_C a0) [] fun y1 =>
  .ret (decide (y1 ≥ 0))
noncomputable def slices_ContainsFunc_int64_int64_C (a0 : (List Int)) : CallS Bool :=
  mkC [] hd Tryz.func221 (by kernel_rfl) (slices_ContainsFunc_int64_int64_T a0) 0 [.pure (encL 1 encI_i64 a0), .func 222 [] []] [] (fun r => .pure (.bool r)) (fun _ => []) (by kernel_rfl)

noncomputable def config_small_T (a0 : (List Int)) : T Bool :=
  .call (slices_ContainsFunc_int64_int64_C a0) [] fun y1 =>
  .ret (!y1)
noncomputable def config_small_C (a0 : (List Int)) : CallS Bool :=
  mkC [] hd Tryz.func169 (by kernel_rfl) (config_small_T a0) 0 [.pure (encL 1 encI_i64 a0)] [] (fun r => .pure (.bool r)) (fun _ => []) (by kernel_rfl)

noncomputable def config_isMotion_T (a0 : (List Int)) (a1 : (List Int)) (a2 : Int) : T Bool :=
  .br (((a0.length : Nat) : Int) == ((a1.length : Nat) : Int))
   (.call (config_small_C a0) [] fun y1 =>
   .br y1
    (.call (config_small_C a1) [] fun y2 =>
    .br y2
     (.br (decide (0 ≤ a2))
      (.ret (decide (a2 ≤ 20)))
      (.ret false))
     (.ret false))
    (.ret false))
   (.ret false)
noncomputable def config_isMotion_C (a0 : (List Int)) (a1 : (List Int)) (a2 : Int) : CallS Bool :=
  mkC [] hd Tryz.func124 (by kernel_rfl) (config_isMotion_T a0 a1 a2) 0 [.pure (encL 1 encI_i64 a0), .pure (encL 1 encI_i64 a1), .pure (.int .i64 a2)] [] (fun r => .pure (.bool r)) (fun _ => []) (by kernel_rfl)

noncomputable def config_down_T (a0 : Int) (a1 : Int) : T Int :=
  .grd (0 ≤ a1) <|
  .ret (a0.fdiv (2 ^ (min (a1).toNat 64)))
noncomputable def config_down_C (a0 : Int) (a1 : Int) : CallS Int :=
  mkC [] hd Tryz.func127 (by kernel_rfl) (config_down_T a0 a1) 0 [.pure (.int .i64 a0), .pure (.int .i64 a1)] [] (fun r => .pure (.int .i64 r)) (fun _ => []) (by kernel_rfl)

noncomputable def config_Piece_1_T (a0 : Int) (a1 : Int) (a2 : Int) (a3 : Int) : T (S_Interval × Int × Int) :=
  .name 2003 ((min (IntKind.i64.wrap (a2 * (IntKind.i64.wrap (a1 - a0)))) (IntKind.i64.wrap ((IntKind.i64.wrap (a2 + 1)) * (IntKind.i64.wrap (a1 - a0)))))) fun z5 =>
  .call (config_down_C z5 a3) [] fun y6 =>
  .name 2010 ((max (IntKind.i64.wrap (a2 * (IntKind.i64.wrap (a1 - a0)))) (IntKind.i64.wrap ((IntKind.i64.wrap (a2 + 1)) * (IntKind.i64.wrap (a1 - a0)))))) fun z7 =>
  .call (config_down_C (IntKind.i64.wrap (0 - z7)) a3) [] fun y8 =>
  .ret ((⟨(IntKind.i64.wrap (a0 + y6)), (IntKind.i64.wrap (a0 - y8))⟩ : S_Interval), a2, a3)
noncomputable def config_Piece_1_C (a0 : Int) (a1 : Int) (a2 : Int) (a3 : Int) : CallS (S_Interval × Int × Int) :=
  mkC [] hd Tryz.func126 (by kernel_rfl) (config_Piece_1_T a0 a1 a2 a3) 2 [.pure (.int .i64 a0), .pure (.int .i64 a1), .ptr 0 0, .ptr 1 0] [(0, .box [.pure (.int .i64 a2)]), (1, .box [.pure (.int .i64 a3)])] (fun r => .pure (enc_Interval r.1)) (fun r => [(0, .box [.pure (.int .i64 r.2.1)]), (1, .box [.pure (.int .i64 r.2.2)])]) (by kernel_rfl)

noncomputable def config_joined_int64_int64_api_Interval_T (a0 : (List Int)) (a1 : (List Int)) (a2 : Int) (a3 : Int) : T ((List S_Interval) × Int × Int) :=
  .conv 1002 (cvRep 2 enc_Interval 136 (((a0.length : Nat) : Int)).toNat (⟨0, 0⟩ : S_Interval)) <|
  .grd (0 ≤ ((a0.length : Nat) : Int) ∧ ((a0.length : Nat) : Int) ≤ ((a0.length : Nat) : Int) ∧ ((a0.length : Nat) : Int) ≤ 9223372036854775807 ∧ ((a0.length : Nat) : Int) * 16 ≤ 140737488355328) <|
  .loop (fun (x13 : (Int × Int × (List S_Interval) × Int)) => ⟨[(1, .pure (encL 1 encI_i64 a1)), (2, .func 126 [] [.ptr 0 0, .ptr 1 0]), (7, .vec 2), (13, .pure (encL 1 encI_i64 a0)), (14, .pure (.int .i64 ((a0.length : Nat) : Int))), (15, .pure (.int .i64 x13.2.2.2))], [(0, .box [.pure (.int .i64 x13.1)]), (1, .box [.pure (.int .i64 x13.2.1)]), (2, vecO 2 enc_Interval x13.2.2.1 136)], [], 3⟩)
   (.exit 0) (fun (y16 : (Int × Int × (List S_Interval))) => ⟨[(7, .vec 2)], [(0, .box [.pure (.int .i64 y16.1)]), (1, .box [.pure (.int .i64 y16.2.1)]), (2, vecO 2 enc_Interval y16.2.2 136)], [], 3⟩)
   (fun x13 => .br (decide (x13.2.2.2 < ((a0.length : Nat) : Int)))
     (.grd (0 ≤ x13.2.2.2 ∧ x13.2.2.2 < ((a0.length : Nat) : Int)) <|
     .grd (0 ≤ x13.2.2.2 ∧ x13.2.2.2 < ((a1.length : Nat) : Int)) <|
     .call (config_Piece_1_C (a0.getD ((x13.2.2.2).toNat) default) (a1.getD ((x13.2.2.2).toNat) default) x13.1 x13.2.1) [(0, 0), (1, 1)] fun y18 =>
     .grd (0 ≤ x13.2.2.2 ∧ x13.2.2.2 < ((x13.2.2.1.length : Nat) : Int)) <|
     .conv 5010 (cvSet 2 enc_Interval x13.2.2.1 136 ((x13.2.2.2).toNat) y18.1) <|
     .grd ((x13.2.2.2).toNat < x13.2.2.1.length ∧ 0 ≤ (x13.2.2.2).toNat) <|
     .ret (.next (y18.2.1, y18.2.2, (x13.2.2.1.set ((x13.2.2.2).toNat) y18.1), (IntKind.i64.wrap (x13.2.2.2 + 1)))))
     (.ret (.out (x13.1, x13.2.1, x13.2.2.1))))
   (a2, a3, (List.replicate (((a0.length : Nat) : Int)).toNat ((⟨0, 0⟩ : S_Interval) : S_Interval)), 0) [] fun y16 =>
  .ret (y16.2.2, y16.1, y16.2.1)
noncomputable def config_joined_int64_int64_api_Interval_C (a0 : (List Int)) (a1 : (List Int)) (a2 : Int) (a3 : Int) : CallS ((List S_Interval) × Int × Int) :=
  mkC [] hd Tryz.func125 (by kernel_rfl) (config_joined_int64_int64_api_Interval_T a0 a1 a2 a3) 2 [.pure (encL 1 encI_i64 a0), .pure (encL 1 encI_i64 a1), .func 126 [] [.ptr 0 0, .ptr 1 0]] [(0, .box [.pure (.int .i64 a2)]), (1, .box [.pure (.int .i64 a3)])] (fun r => .pure (encL 2 enc_Interval r.1)) (fun r => [(0, .box [.pure (.int .i64 r.2.1)]), (1, .box [.pure (.int .i64 r.2.2)])]) (by kernel_rfl)

noncomputable def config_Piece_T (a0 : (List Int)) (a1 : (List Int)) (a2 : Int) (a3 : Int) : T ((List S_Interval) × Bool) :=
  .cut 2 (fun (y7 : Bool) => ⟨[(0, .pure (encL 1 encI_i64 a0)), (1, .pure (encL 1 encI_i64 a1)), (6, .ptr 0 0), (7, .ptr 1 0), (24, .pure (.bool y7))], [(0, .box [.pure (.int .i64 a2)]), (1, .box [.pure (.int .i64 a3)])], [], 2⟩)
   (.call (config_isMotion_C a0 a1 a2) [] fun y8 =>
   .br (!y8)
    (.ret (.out true))
    (.br (decide (a3 < 0))
     (.ret (.out true))
     (.grd (0 ≤ a2) <|
     .ret (.out (decide (a3 ≥ (IntKind.i64.wrap (1 * 2 ^ (min (a2).toNat 64))))))))) fun y7 =>
  .br y7
   (.ret (nl, false))
   (.call (config_joined_int64_int64_api_Interval_C a0 a1 a3 a2) [(0, 1), (1, 0)] fun y9 =>
   .ret (y9.1, true))
noncomputable def config_Piece_C (a0 : (List Int)) (a1 : (List Int)) (a2 : Int) (a3 : Int) : CallS ((List S_Interval) × Bool) :=
  mkC [] hd Tryz.func69 (by kernel_rfl) (config_Piece_T a0 a1 a2 a3) 0 [.pure (encL 1 encI_i64 a0), .pure (encL 1 encI_i64 a1), .pure (.int .i64 a2), .pure (.int .i64 a3)] [] (fun r => .tup [.pure (encL 2 enc_Interval r.1), .pure (.bool r.2)]) (fun _ => []) (by kernel_rfl)

noncomputable def interval_Valid_T (a0 : S_Interval) : T Bool :=
  .br (decide ((-2147483648) ≤ a0.Lo))
   (.br (decide (a0.Lo ≤ a0.Hi))
    (.ret (decide (a0.Hi ≤ 2147483648)))
    (.ret false))
   (.ret false)
noncomputable def interval_Valid_C (a0 : S_Interval) : CallS Bool :=
  mkC [] hd Tryz.func132 (by kernel_rfl) (interval_Valid_T a0) 0 [.pure (enc_Interval a0)] [] (fun r => .pure (.bool r)) (fun _ => []) (by kernel_rfl)

noncomputable def scene_carriers_T (a0 : S_Robot) : T (List Int) :=
  .conv 1004 (cvRep 1 encI_i64 3 ((IntKind.i64.wrap (((a0.Joints.length : Nat) : Int) + 1))).toNat 0) <|
  .grd (0 ≤ (IntKind.i64.wrap (((a0.Joints.length : Nat) : Int) + 1)) ∧ (IntKind.i64.wrap (((a0.Joints.length : Nat) : Int) + 1)) ≤ (IntKind.i64.wrap (((a0.Joints.length : Nat) : Int) + 1)) ∧ (IntKind.i64.wrap (((a0.Joints.length : Nat) : Int) + 1)) ≤ 9223372036854775807 ∧ (IntKind.i64.wrap (((a0.Joints.length : Nat) : Int) + 1)) * 8 ≤ 140737488355328) <|
  .grd (0 ≤ (0 : Int) ∧ (0 : Int) < (((List.replicate ((IntKind.i64.wrap (((a0.Joints.length : Nat) : Int) + 1))).toNat (0 : Int)).length : Nat) : Int)) <|
  .conv 2002 (cvSet 1 encI_i64 (List.replicate ((IntKind.i64.wrap (((a0.Joints.length : Nat) : Int) + 1))).toNat (0 : Int)) 3 ((0 : Int).toNat) (-1)) <|
  .grd ((0 : Int).toNat < (List.replicate ((IntKind.i64.wrap (((a0.Joints.length : Nat) : Int) + 1))).toNat (0 : Int)).length ∧ 0 ≤ (0 : Int).toNat) <|
  .loop (fun (x51 : ((List Int) × Int)) => ⟨[(3, .vec 0), (14, .pure (encL 12 enc_Joint a0.Joints)), (15, .pure (.int .i64 ((a0.Joints.length : Nat) : Int))), (16, .pure (.int .i64 x51.2))], [(0, vecO 1 encI_i64 x51.1 3)], [], 1⟩)
   (.exit 0) (fun (y56 : (List Int)) => ⟨[(3, .vec 0)], [(0, vecO 1 encI_i64 y56 3)], [], 1⟩)
   (fun x51 => .br (decide (x51.2 < ((a0.Joints.length : Nat) : Int)))
     (.cut 0 (fun (y59 : (List Int)) => ⟨[(3, .vec 0), (14, .pure (encL 12 enc_Joint a0.Joints)), (15, .pure (.int .i64 ((a0.Joints.length : Nat) : Int))), (16, .pure (.int .i64 x51.2))], [(0, vecO 1 encI_i64 y59 3)], [], 1⟩)
      (.grd (0 ≤ x51.2 ∧ x51.2 < ((a0.Joints.length : Nat) : Int)) <|
      .grd (0 ≤ (IntKind.i64.wrap (x51.2 + 1)) ∧ (IntKind.i64.wrap (x51.2 + 1)) < ((x51.1.length : Nat) : Int)) <|
      .conv 6005 (cvSet 1 encI_i64 x51.1 3 (((IntKind.i64.wrap (x51.2 + 1))).toNat) x51.2) <|
      .grd (((IntKind.i64.wrap (x51.2 + 1))).toNat < x51.1.length ∧ 0 ≤ ((IntKind.i64.wrap (x51.2 + 1))).toNat) <|
      .br (((a0.Joints.getD ((x51.2).toNat) default).Lo) == ((a0.Joints.getD ((x51.2).toNat) default).Hi))
       (.grd (0 ≤ (IntKind.i64.wrap (((a0.Joints.getD ((x51.2).toNat) default).Parent) + 1)) ∧ (IntKind.i64.wrap (((a0.Joints.getD ((x51.2).toNat) default).Parent) + 1)) < (((x51.1.set (((IntKind.i64.wrap (x51.2 + 1))).toNat) x51.2).length : Nat) : Int)) <|
       .grd (((IntKind.i64.wrap (((a0.Joints.getD ((x51.2).toNat) default).Parent) + 1))).toNat < (x51.1.set (((IntKind.i64.wrap (x51.2 + 1))).toNat) x51.2).length) <|
       .name 8008 (((x51.1.set (((IntKind.i64.wrap (x51.2 + 1))).toNat) x51.2).getD (((IntKind.i64.wrap (((a0.Joints.getD ((x51.2).toNat) default).Parent) + 1))).toNat) default)) fun z60 =>
       .grd (0 ≤ (IntKind.i64.wrap (x51.2 + 1)) ∧ (IntKind.i64.wrap (x51.2 + 1)) < (((x51.1.set (((IntKind.i64.wrap (x51.2 + 1))).toNat) x51.2).length : Nat) : Int)) <|
       .conv 8010 (cvSet 1 encI_i64 (x51.1.set (((IntKind.i64.wrap (x51.2 + 1))).toNat) x51.2) 3 (((IntKind.i64.wrap (x51.2 + 1))).toNat) z60) <|
       .grd (((IntKind.i64.wrap (x51.2 + 1))).toNat < (x51.1.set (((IntKind.i64.wrap (x51.2 + 1))).toNat) x51.2).length ∧ 0 ≤ ((IntKind.i64.wrap (x51.2 + 1))).toNat) <|
       .ret (.out ((x51.1.set (((IntKind.i64.wrap (x51.2 + 1))).toNat) x51.2).set (((IntKind.i64.wrap (x51.2 + 1))).toNat) z60)))
       (.ret (.out (x51.1.set (((IntKind.i64.wrap (x51.2 + 1))).toNat) x51.2)))) fun y59 =>
     .ret (.next (y59, (IntKind.i64.wrap (x51.2 + 1)))))
     (.ret (.out x51.1)))
   (((List.replicate ((IntKind.i64.wrap (((a0.Joints.length : Nat) : Int) + 1))).toNat (0 : Int)).set ((0 : Int).toNat) (-1)), 0) [] fun y56 =>
  .ret y56
noncomputable def scene_carriers_C (a0 : S_Robot) : CallS (List Int) :=
  mkC [] hd Tryz.func172 (by kernel_rfl) (scene_carriers_T a0) 0 [.pure (enc_Robot a0)] [] (fun r => .pure (encL 1 encI_i64 r)) (fun _ => []) (by kernel_rfl)

noncomputable def scene_Skipped_T (a0 : S_Scene) (a1 : Int) (a2 : Int) : T Bool :=
  .loop (fun (x13 : Int) => ⟨[(1, .pure (.int .i64 a1)), (2, .pure (.int .i64 a2)), (10, .pure (encL 2 enc_Skip a0.Skips)), (11, .pure (.int .i64 ((a0.Skips.length : Nat) : Int))), (12, .pure (.int .i64 x13))], [], [], 0⟩)
   (.exit 0) (fun (_ : U0) => ⟨[], [], [], 0⟩)
   (fun x13 => .br (decide (x13 < ((a0.Skips.length : Nat) : Int)))
     (.grd (0 ≤ x13 ∧ x13 < ((a0.Skips.length : Nat) : Int)) <|
     .cut 0 (fun (y18 : Bool) => ⟨[(1, .pure (.int .i64 a1)), (2, .pure (.int .i64 a2)), (10, .pure (encL 2 enc_Skip a0.Skips)), (11, .pure (.int .i64 ((a0.Skips.length : Nat) : Int))), (12, .pure (.int .i64 x13)), (27, .pure (.bool y18))], [], [], 0⟩)
      (.br ((((a0.Skips.getD ((x13).toNat) default).A) == a1) && ((((a0.Skips.getD ((x13).toNat) default).B) == a2) && true))
       (.ret (.out true))
       (.ret (.out ((((a0.Skips.getD ((x13).toNat) default).A) == a2) && ((((a0.Skips.getD ((x13).toNat) default).B) == a1) && true))))) fun y18 =>
     .br y18
      (.ret (.fin true))
      (.ret (.next (IntKind.i64.wrap (x13 + 1)))))
     (.ret (.out .u)))
   0 [] fun _ =>
  .ret false
noncomputable def scene_Skipped_C (a0 : S_Scene) (a1 : Int) (a2 : Int) : CallS Bool :=
  mkC [] hd Tryz.func173 (by kernel_rfl) (scene_Skipped_T a0 a1 a2) 0 [.pure (enc_Scene a0), .pure (.int .i64 a1), .pure (.int .i64 a2)] [] (fun r => .pure (.bool r)) (fun _ => []) (by kernel_rfl)

noncomputable def scene_Pairs_T (a0 : S_Scene) : T (List S_Pair) :=
  .call (scene_Check_C a0) [] fun y700 =>
  .br (y700 != 0)
   (.ret nl)
   (.call (scene_carriers_C a0.Robot) [] fun y702 =>
   .loop (fun (x1187 : ((List S_Pair) × Int)) => ⟨[(1, .ptr 0 0), (3, .pure (encL 1 encI_i64 y702)), (4, .vec 1), (17, .pure (encL 3 enc_Shape a0.Shapes)), (18, .pure (.int .i64 ((a0.Shapes.length : Nat) : Int))), (19, .pure (.int .i64 x1187.2))], [(0, .box [.pure (encL 12 enc_Joint a0.Robot.Joints), .pure (encL 5 enc_Mass a0.Robot.Masses), .pure (encL 3 enc_Shape a0.Shapes), .pure (encL 2 enc_Skip a0.Skips)]), (1, vecO 2 enc_Pair x1187.1 112)], [], 2⟩)
    (.exit 0) (fun (y1308 : (List S_Pair)) => ⟨[(4, .vec 0)], [(0, vecO 2 enc_Pair y1308 112)], [], 1⟩)
    (fun x1187 => .br (decide (x1187.2 < ((a0.Shapes.length : Nat) : Int)))
      (.grd (0 ≤ x1187.2 ∧ x1187.2 < ((a0.Shapes.length : Nat) : Int)) <|
      .loop (fun (x1389 : ((List S_Pair) × Int)) => ⟨[(1, .ptr 0 0), (3, .pure (encL 1 encI_i64 y702)), (4, .vec 1), (5, .pure (.int .i64 x1187.2)), (6, .ptr 2 0), (7, .pure (.int .i64 x1389.2)), (17, .pure (encL 3 enc_Shape a0.Shapes)), (18, .pure (.int .i64 ((a0.Shapes.length : Nat) : Int))), (19, .pure (.int .i64 x1187.2))], [(0, .box [.pure (encL 12 enc_Joint a0.Robot.Joints), .pure (encL 5 enc_Mass a0.Robot.Masses), .pure (encL 3 enc_Shape a0.Shapes), .pure (encL 2 enc_Skip a0.Skips)]), (1, vecO 2 enc_Pair x1389.1 112), (2, .box [.pure (.int .i64 ((a0.Shapes.getD ((x1187.2).toNat) default).Link)), .pure (.int .i64 ((a0.Shapes.getD ((x1187.2).toNat) default).Radius)), .pure (encL 3 enc_arr_3_int64 ((a0.Shapes.getD ((x1187.2).toNat) default).Points))])], [], 3⟩)
       (.exit 2) (fun (y1409 : (List S_Pair)) => ⟨[(1, .ptr 0 0), (3, .pure (encL 1 encI_i64 y702)), (4, .vec 1), (17, .pure (encL 3 enc_Shape a0.Shapes)), (18, .pure (.int .i64 ((a0.Shapes.length : Nat) : Int))), (19, .pure (.int .i64 x1187.2))], [(0, .box [.pure (encL 12 enc_Joint a0.Robot.Joints), .pure (encL 5 enc_Mass a0.Robot.Masses), .pure (encL 3 enc_Shape a0.Shapes), .pure (encL 2 enc_Skip a0.Skips)]), (1, vecO 2 enc_Pair y1409 112)], [], 2⟩)
       (fun x1389 => .br (decide (x1389.2 < ((a0.Shapes.length : Nat) : Int)))
         (.cut 0 (fun (y1422 : (List S_Pair)) => ⟨[(1, .ptr 0 0), (3, .pure (encL 1 encI_i64 y702)), (4, .vec 1), (5, .pure (.int .i64 x1187.2)), (6, .ptr 2 0), (7, .pure (.int .i64 x1389.2)), (17, .pure (encL 3 enc_Shape a0.Shapes)), (18, .pure (.int .i64 ((a0.Shapes.length : Nat) : Int))), (19, .pure (.int .i64 x1187.2))], [(0, .box [.pure (encL 12 enc_Joint a0.Robot.Joints), .pure (encL 5 enc_Mass a0.Robot.Masses), .pure (encL 3 enc_Shape a0.Shapes), .pure (encL 2 enc_Skip a0.Skips)]), (1, vecO 2 enc_Pair y1422 112), (2, .box [.pure (.int .i64 ((a0.Shapes.getD ((x1187.2).toNat) default).Link)), .pure (.int .i64 ((a0.Shapes.getD ((x1187.2).toNat) default).Radius)), .pure (encL 3 enc_arr_3_int64 ((a0.Shapes.getD ((x1187.2).toNat) default).Points))])], [], 3⟩)
          (.grd (0 ≤ x1389.2 ∧ x1389.2 < ((a0.Shapes.length : Nat) : Int)) <|
          .grd (0 ≤ (IntKind.i64.wrap (((a0.Shapes.getD ((x1187.2).toNat) default).Link) + 1)) ∧ (IntKind.i64.wrap (((a0.Shapes.getD ((x1187.2).toNat) default).Link) + 1)) < ((y702.length : Nat) : Int)) <|
          .grd (0 ≤ (IntKind.i64.wrap (((a0.Shapes.getD ((x1389.2).toNat) default).Link) + 1)) ∧ (IntKind.i64.wrap (((a0.Shapes.getD ((x1389.2).toNat) default).Link) + 1)) < ((y702.length : Nat) : Int)) <|
          .name 12011 ((y702.getD (((IntKind.i64.wrap (((a0.Shapes.getD ((x1389.2).toNat) default).Link) + 1))).toNat) default)) fun z1424 =>
          .cut 0 (fun (y1427 : Bool) => ⟨[(1, .ptr 0 0), (3, .pure (encL 1 encI_i64 y702)), (4, .vec 1), (5, .pure (.int .i64 x1187.2)), (6, .ptr 2 0), (7, .pure (.int .i64 x1389.2)), (17, .pure (encL 3 enc_Shape a0.Shapes)), (18, .pure (.int .i64 ((a0.Shapes.length : Nat) : Int))), (19, .pure (.int .i64 x1187.2)), (61, .pure (.bool y1427))], [(0, .box [.pure (encL 12 enc_Joint a0.Robot.Joints), .pure (encL 5 enc_Mass a0.Robot.Masses), .pure (encL 3 enc_Shape a0.Shapes), .pure (encL 2 enc_Skip a0.Skips)]), (1, vecO 2 enc_Pair x1389.1 112), (2, .box [.pure (.int .i64 ((a0.Shapes.getD ((x1187.2).toNat) default).Link)), .pure (.int .i64 ((a0.Shapes.getD ((x1187.2).toNat) default).Radius)), .pure (encL 3 enc_arr_3_int64 ((a0.Shapes.getD ((x1187.2).toNat) default).Points))])], [], 3⟩)
           (.br (!((y702.getD (((IntKind.i64.wrap (((a0.Shapes.getD ((x1187.2).toNat) default).Link) + 1))).toNat) default) == z1424))
            (.call (scene_Skipped_C a0 ((a0.Shapes.getD ((x1187.2).toNat) default).Link) ((a0.Shapes.getD ((x1389.2).toNat) default).Link)) [] fun y1428 =>
            .ret (.out (!y1428)))
            (.ret (.out false))) fun y1427 =>
          .br y1427
           (.conv 14004 (cvLit 2 enc_Pair ([(⟨x1187.2, x1389.2⟩ : S_Pair)] : (List S_Pair)) 112) <|
           .conv 14005 (cvApp 2 enc_Pair x1389.1 ([(⟨x1187.2, x1389.2⟩ : S_Pair)] : (List S_Pair)) 112) <|
           .grd ((x1389.1.length + ([(⟨x1187.2, x1389.2⟩ : S_Pair)] : (List S_Pair)).length) * 16 ≤ 140737488355328 ∧ (x1389.1.length + ([(⟨x1187.2, x1389.2⟩ : S_Pair)] : (List S_Pair)).length) ≤ maxLen) <|
           .ret (.out (x1389.1 ++ ([(⟨x1187.2, x1389.2⟩ : S_Pair)] : (List S_Pair)))))
           (.ret (.out x1389.1))) fun y1422 =>
         .ret (.next (y1422, (IntKind.i64.wrap (x1389.2 + 1)))))
         (.ret (.out x1389.1)))
       (x1187.1, (IntKind.i64.wrap (x1187.2 + 1))) [] fun y1409 =>
      .ret (.next (y1409, (IntKind.i64.wrap (x1187.2 + 1)))))
      (.ret (.out x1187.1)))
    (nl, 0) [] fun y1308 =>
   .ret y1308)
noncomputable def scene_Pairs_C (a0 : S_Scene) : CallS (List S_Pair) :=
  mkC [] hd Tryz.func133 (by kernel_rfl) (scene_Pairs_T a0) 0 [.pure (enc_Scene a0)] [] (fun r => .pure (encL 2 enc_Pair r)) (fun _ => []) (by kernel_rfl)

noncomputable def kinematics_isBox_1_T (a0 : S_Interval) : T Bool :=
  .call (interval_Valid_C a0) [] fun y1 =>
  .ret (!y1)
noncomputable def kinematics_isBox_1_C (a0 : S_Interval) : CallS Bool :=
  mkC [] hd Tryz.func224 (by kernel_rfl) (kinematics_isBox_1_T a0) 0 [.pure (enc_Interval a0)] [] (fun r => .pure (.bool r)) (fun _ => []) (by kernel_rfl)

noncomputable def slices_IndexFunc_api_Interval_api_Interval_T (a0 : (List S_Interval)) : T Int :=
  .loop (fun (x21 : Int) => ⟨[(0, .pure (encL 2 enc_Interval a0)), (1, .func 224 [] []), (7, .pure (.int .i64 ((a0.length : Nat) : Int))), (8, .pure (.int .i64 x21))], [], [], 0⟩)
   (.exit 0) (fun (_ : U0) => ⟨[], [], [], 0⟩)
   (fun x21 => .br (decide (x21 < ((a0.length : Nat) : Int)))
     (.grd (0 ≤ x21 ∧ x21 < ((a0.length : Nat) : Int)) <|
     .call (kinematics_isBox_1_C (a0.getD ((x21).toNat) default)) [] fun y30 =>
     .br y30
      (.ret (.fin x21))
      (.ret (.next (IntKind.i64.wrap (x21 + 1)))))
     (.ret (.out .u)))
   0 [] fun _ =>
  .ret (-1)
noncomputable def slices_IndexFunc_api_Interval_api_Interval_C (a0 : (List S_Interval)) : CallS Int :=
  mkC [] hd Tryz.func251 (by kernel_rfl) (slices_IndexFunc_api_Interval_api_Interval_T a0) 0 [.pure (encL 2 enc_Interval a0), .func 224 [] []] [] (fun r => .pure (.int .i64 r)) (fun _ => []) (by kernel_rfl)

noncomputable def slices_ContainsFunc_api_Interval_api_Interval_T (a0 : (List S_Interval)) : T Bool :=
  .call (slices_IndexFunc_api_Interval_api_Interval_C a0) [] fun y1 =>
  .ret (decide (y1 ≥ 0))
noncomputable def slices_ContainsFunc_api_Interval_api_Interval_C (a0 : (List S_Interval)) : CallS Bool :=
  mkC [] hd Tryz.func223 (by kernel_rfl) (slices_ContainsFunc_api_Interval_api_Interval_T a0) 0 [.pure (encL 2 enc_Interval a0), .func 224 [] []] [] (fun r => .pure (.bool r)) (fun _ => []) (by kernel_rfl)

noncomputable def kinematics_isBox_T (a0 : S_Robot) (a1 : (List S_Interval)) : T Bool :=
  .br (((a1.length : Nat) : Int) == ((a0.Joints.length : Nat) : Int))
   (.call (slices_ContainsFunc_api_Interval_api_Interval_C a1) [] fun y1 =>
   .ret (!y1))
   (.ret false)
noncomputable def kinematics_isBox_C (a0 : S_Robot) (a1 : (List S_Interval)) : CallS Bool :=
  mkC [] hd Tryz.func174 (by kernel_rfl) (kinematics_isBox_T a0 a1) 0 [.pure (enc_Robot a0), .pure (encL 2 enc_Interval a1)] [] (fun r => .pure (.bool r)) (fun _ => []) (by kernel_rfl)

noncomputable def fixed_Clamp_T (a0 : Int) : T Int :=
  .ret (min (max a0 (-2147483648)) 2147483648)
noncomputable def fixed_Clamp_C (a0 : Int) : CallS Int :=
  mkC [] hd Tryz.func289 (by kernel_rfl) (fixed_Clamp_T a0) 0 [.pure (.int .i64 a0)] [] (fun r => .pure (.int .i64 r)) (fun _ => []) (by kernel_rfl)

noncomputable def interval_limited_T (a0 : Int) (a1 : Int) : T S_Interval :=
  .call (fixed_Clamp_C a0) [] fun y1 =>
  .call (fixed_Clamp_C a1) [] fun y2 =>
  .ret (⟨y1, y2⟩ : S_Interval)
noncomputable def interval_limited_C (a0 : Int) (a1 : Int) : CallS S_Interval :=
  mkC [] hd Tryz.func277 (by kernel_rfl) (interval_limited_T a0 a1) 0 [.pure (.int .i64 a0), .pure (.int .i64 a1)] [] (fun r => .pure (enc_Interval r)) (fun _ => []) (by kernel_rfl)

noncomputable def interval_Of_T (a0 : Int) : T S_Interval :=
  .call (interval_limited_C a0 a0) [] fun y1 =>
  .ret y1
noncomputable def interval_Of_C (a0 : Int) : CallS S_Interval :=
  mkC [] hd Tryz.func256 (by kernel_rfl) (interval_Of_T a0) 0 [.pure (.int .i64 a0)] [] (fun r => .pure (enc_Interval r)) (fun _ => []) (by kernel_rfl)

noncomputable def matrix_Point_T (a0 : (Int × Int × Int)) : T (S_Interval × S_Interval × S_Interval) :=
  .unroll 4 <|
  .known true <|
  .ix 0 3 rfl <|
  .call (interval_Of_C a0.1) [] fun y16 =>
  .ix 0 3 rfl <|
  .lit 6000 (1) <|
  .known true <|
  .ix 1 3 rfl <|
  .call (interval_Of_C a0.2.1) [] fun y18 =>
  .ix 1 3 rfl <|
  .lit 6000 (2) <|
  .known true <|
  .ix 2 3 rfl <|
  .call (interval_Of_C a0.2.2) [] fun y20 =>
  .ix 2 3 rfl <|
  .lit 6000 (3) <|
  .known false <|
  .ret (y16, y18, y20)
noncomputable def matrix_Point_C (a0 : (Int × Int × Int)) : CallS (S_Interval × S_Interval × S_Interval) :=
  mkC [] hd Tryz.func231 (by kernel_rfl) (matrix_Point_T a0) 0 [.pure (enc_arr_3_int64 a0)] [] (fun r => .pure (enc_arr_3_Interval r)) (fun _ => []) (by kernel_rfl)

noncomputable def matrix_Identity_T : T ((S_Interval × S_Interval × S_Interval) × (S_Interval × S_Interval × S_Interval) × (S_Interval × S_Interval × S_Interval)) :=
  .unroll 4 <|
  .known true <|
  .call (interval_Of_C 65536) [] fun y18 =>
  .ix 0 3 rfl <|
  .ix 0 3 rfl <|
  .lit 6000 (1) <|
  .known true <|
  .call (interval_Of_C 65536) [] fun y20 =>
  .ix 1 3 rfl <|
  .ix 1 3 rfl <|
  .lit 6000 (2) <|
  .known true <|
  .call (interval_Of_C 65536) [] fun y22 =>
  .ix 2 3 rfl <|
  .ix 2 3 rfl <|
  .lit 6000 (3) <|
  .known false <|
  .ret ((y18, (⟨0, 0⟩ : S_Interval), (⟨0, 0⟩ : S_Interval)), ((⟨0, 0⟩ : S_Interval), y20, (⟨0, 0⟩ : S_Interval)), ((⟨0, 0⟩ : S_Interval), (⟨0, 0⟩ : S_Interval), y22))
noncomputable def matrix_Identity_C : CallS ((S_Interval × S_Interval × S_Interval) × (S_Interval × S_Interval × S_Interval) × (S_Interval × S_Interval × S_Interval)) :=
  mkC [] hd Tryz.func255 (by kernel_rfl) (matrix_Identity_T) 0 [] [] (fun r => .pure (enc_arr_3_3_Interval r)) (fun _ => []) (by kernel_rfl)

noncomputable def pose_Shift_T (a0 : (S_Interval × S_Interval × S_Interval)) : T S_Pose :=
  .call (matrix_Identity_C) [] fun y1 =>
  .ret (⟨y1, a0⟩ : S_Pose)
noncomputable def pose_Shift_C (a0 : (S_Interval × S_Interval × S_Interval)) : CallS S_Pose :=
  mkC [] hd Tryz.func227 (by kernel_rfl) (pose_Shift_T a0) 0 [.pure (enc_arr_3_Interval a0)] [] (fun r => .pure (enc_Pose r)) (fun _ => []) (by kernel_rfl)

noncomputable def kinematics_motionOf_v0_T (a0 : Int) : T Int :=
  .cut 3 (fun (y3 : Bool) => ⟨[(0, .pure (.int .i64 a0)), (2, .ptr 0 0), (3, .pure (.int .i64 a0)), (4, .pure (.bool y3))], [(0, .box [.any])], [], 1⟩)
   (.br (a0 == 1)
    (.ret (.out (a0 == 1)))
    (.br (a0 == 2)
     (.ret (.out (a0 == 2)))
     (.ret (.out (a0 == 3))))) fun y3 =>
  .br y3
   (.ret (IntKind.i64.wrap (a0 - 1)))
   (.cut 0 (fun (y4 : Bool) => ⟨[(0, .pure (.int .i64 a0)), (2, .ptr 0 0), (12, .pure (.bool y4))], [(0, .box [.any])], [], 1⟩)
    (.br (a0 == 4)
     (.ret (.out (a0 == 4)))
     (.br (a0 == 5)
      (.ret (.out (a0 == 5)))
      (.ret (.out (a0 == 6))))) fun y4 =>
   .br y4
    (.stop)
    (.stop))
noncomputable def kinematics_motionOf_v0_C (a0 : Int) : CallS Int :=
  mkC [] hd Tryz.func252 (by kernel_rfl) (kinematics_motionOf_v0_T a0) 0 [.pure (.int .i64 a0)] [] (fun r => .agg [.func 268 [.pure (.int .i64 r)] []]) (fun _ => []) (by kernel_rfl)

noncomputable def kinematics_motionOf_v1_T (a0 : Int) : T Int :=
  .cut 3 (fun (y3 : Bool) => ⟨[(0, .pure (.int .i64 a0)), (2, .ptr 0 0), (3, .pure (.int .i64 a0)), (4, .pure (.bool y3))], [(0, .box [.any])], [], 1⟩)
   (.br (a0 == 1)
    (.ret (.out (a0 == 1)))
    (.br (a0 == 2)
     (.ret (.out (a0 == 2)))
     (.ret (.out (a0 == 3))))) fun y3 =>
  .br y3
   (.stop)
   (.cut 0 (fun (y4 : Bool) => ⟨[(0, .pure (.int .i64 a0)), (2, .ptr 0 0), (12, .pure (.bool y4))], [(0, .box [.any])], [], 1⟩)
    (.br (a0 == 4)
     (.ret (.out (a0 == 4)))
     (.br (a0 == 5)
      (.ret (.out (a0 == 5)))
      (.ret (.out (a0 == 6))))) fun y4 =>
   .br y4
    (.ret (IntKind.i64.wrap (a0 - 4)))
    (.stop))
noncomputable def kinematics_motionOf_v1_C (a0 : Int) : CallS Int :=
  mkC [] hd Tryz.func252 (by kernel_rfl) (kinematics_motionOf_v1_T a0) 0 [.pure (.int .i64 a0)] [] (fun r => .agg [.func 269 [.pure (.int .i64 r)] []]) (fun _ => []) (by kernel_rfl)

noncomputable def kinematics_motionOf_v2_T (a0 : Int) : T Int :=
  .cut 3 (fun (y3 : Bool) => ⟨[(0, .pure (.int .i64 a0)), (2, .ptr 0 0), (3, .pure (.int .i64 a0)), (4, .pure (.bool y3))], [(0, .box [.any])], [], 1⟩)
   (.br (a0 == 1)
    (.ret (.out (a0 == 1)))
    (.br (a0 == 2)
     (.ret (.out (a0 == 2)))
     (.ret (.out (a0 == 3))))) fun y3 =>
  .br y3
   (.stop)
   (.cut 0 (fun (y4 : Bool) => ⟨[(0, .pure (.int .i64 a0)), (2, .ptr 0 0), (12, .pure (.bool y4))], [(0, .box [.any])], [], 1⟩)
    (.br (a0 == 4)
     (.ret (.out (a0 == 4)))
     (.br (a0 == 5)
      (.ret (.out (a0 == 5)))
      (.ret (.out (a0 == 6))))) fun y4 =>
   .br y4
    (.stop)
    (.ret 0))
noncomputable def kinematics_motionOf_v2_C (a0 : Int) : CallS Int :=
  mkC [] hd Tryz.func252 (by kernel_rfl) (kinematics_motionOf_v2_T a0) 0 [.pure (.int .i64 a0)] [] (fun r => .agg [.func 270 [.pure (.int .i64 r)] []]) (fun _ => []) (by kernel_rfl)

noncomputable def pose_still_T : T (S_Interval × S_Interval × S_Interval) :=
  .call (matrix_Point_C (0, 0, 0)) [] fun y1 =>
  .ret y1
noncomputable def pose_still_C : CallS (S_Interval × S_Interval × S_Interval) :=
  mkC [] hd Tryz.func228 (by kernel_rfl) (pose_still_T) 0 [] [] (fun r => .pure (enc_arr_3_Interval r)) (fun _ => []) (by kernel_rfl)

noncomputable def pose_Identity_T : T S_Pose :=
  .call (pose_still_C) [] fun y1 =>
  .call (pose_Shift_C y1) [] fun y2 =>
  .ret y2
noncomputable def pose_Identity_C : CallS S_Pose :=
  mkC [] hd Tryz.func176 (by kernel_rfl) (pose_Identity_T) 0 [] [] (fun r => .pure (enc_Pose r)) (fun _ => []) (by kernel_rfl)

noncomputable def axis_rest_T (_a0 : Int) (_a1 : S_Interval) : T S_Pose :=
  .call (pose_Identity_C) [] fun y1 =>
  .ret y1
noncomputable def axis_rest_C (a0 : Int) (a1 : S_Interval) : CallS S_Pose :=
  mkC [] hd Tryz.func270 (by kernel_rfl) (axis_rest_T a0 a1) 0 [.pure (.int .i64 a0), .pure (enc_Interval a1)] [] (fun r => .pure (enc_Pose r)) (fun _ => []) (by kernel_rfl)

noncomputable def pose_mover_T (a0 : S_Pose) : T (Int × Int × Int × Int × Int × Int × Int × Int × Int × Int × Int × Int × Int × Int × Int × Int × Int × Int × Int × Int × Int × Int × Int × Int) :=
  .ret (a0.R.1.1.Lo, a0.R.1.1.Hi, a0.R.1.2.1.Lo, a0.R.1.2.1.Hi, a0.R.1.2.2.Lo, a0.R.1.2.2.Hi, a0.R.2.1.1.Lo, a0.R.2.1.1.Hi, a0.R.2.1.2.1.Lo, a0.R.2.1.2.1.Hi, a0.R.2.1.2.2.Lo, a0.R.2.1.2.2.Hi, a0.R.2.2.1.Lo, a0.R.2.2.1.Hi, a0.R.2.2.2.1.Lo, a0.R.2.2.2.1.Hi, a0.R.2.2.2.2.Lo, a0.R.2.2.2.2.Hi, a0.T.1.Lo, a0.T.1.Hi, a0.T.2.1.Lo, a0.T.2.1.Hi, a0.T.2.2.Lo, a0.T.2.2.Hi)
noncomputable def pose_mover_C (a0 : S_Pose) : CallS (Int × Int × Int × Int × Int × Int × Int × Int × Int × Int × Int × Int × Int × Int × Int × Int × Int × Int × Int × Int × Int × Int × Int × Int) :=
  mkC [] hd Tryz.func253 (by kernel_rfl) (pose_mover_T a0) 0 [.pure (enc_Pose a0)] [] (fun _ => .func 271 [] [.ptr 0 0]) (fun r => [(0, .box [.pure (.int .i64 r.1), .pure (.int .i64 r.2.1), .pure (.int .i64 r.2.2.1), .pure (.int .i64 r.2.2.2.1), .pure (.int .i64 r.2.2.2.2.1), .pure (.int .i64 r.2.2.2.2.2.1), .pure (.int .i64 r.2.2.2.2.2.2.1), .pure (.int .i64 r.2.2.2.2.2.2.2.1), .pure (.int .i64 r.2.2.2.2.2.2.2.2.1), .pure (.int .i64 r.2.2.2.2.2.2.2.2.2.1), .pure (.int .i64 r.2.2.2.2.2.2.2.2.2.2.1), .pure (.int .i64 r.2.2.2.2.2.2.2.2.2.2.2.1), .pure (.int .i64 r.2.2.2.2.2.2.2.2.2.2.2.2.1), .pure (.int .i64 r.2.2.2.2.2.2.2.2.2.2.2.2.2.1), .pure (.int .i64 r.2.2.2.2.2.2.2.2.2.2.2.2.2.2.1), .pure (.int .i64 r.2.2.2.2.2.2.2.2.2.2.2.2.2.2.2.1), .pure (.int .i64 r.2.2.2.2.2.2.2.2.2.2.2.2.2.2.2.2.1), .pure (.int .i64 r.2.2.2.2.2.2.2.2.2.2.2.2.2.2.2.2.2.1), .pure (.int .i64 r.2.2.2.2.2.2.2.2.2.2.2.2.2.2.2.2.2.2.1), .pure (.int .i64 r.2.2.2.2.2.2.2.2.2.2.2.2.2.2.2.2.2.2.2.1), .pure (.int .i64 r.2.2.2.2.2.2.2.2.2.2.2.2.2.2.2.2.2.2.2.2.1), .pure (.int .i64 r.2.2.2.2.2.2.2.2.2.2.2.2.2.2.2.2.2.2.2.2.2.1), .pure (.int .i64 r.2.2.2.2.2.2.2.2.2.2.2.2.2.2.2.2.2.2.2.2.2.2.1), .pure (.int .i64 r.2.2.2.2.2.2.2.2.2.2.2.2.2.2.2.2.2.2.2.2.2.2.2)])]) (by kernel_rfl)

noncomputable def interval_valid_T (a0 : S_Interval) (a1 : S_Interval) : T Bool :=
  .call (interval_Valid_C a0) [] fun y1 =>
  .br y1
   (.call (interval_Valid_C a1) [] fun y2 =>
   .ret y2)
   (.ret false)
noncomputable def interval_valid_C (a0 : S_Interval) (a1 : S_Interval) : CallS Bool :=
  mkC [] hd Tryz.func287 (by kernel_rfl) (interval_valid_T a0 a1) 0 [.pure (enc_Interval a0), .pure (enc_Interval a1)] [] (fun r => .pure (.bool r)) (fun _ => []) (by kernel_rfl)

noncomputable def fixed_ShiftDown_T (a0 : Int) (a1 : Int) : T Int :=
  .br (decide (a1 < 0))
   (.ret a0)
   (.grd (0 ≤ a1) <|
   .ret (a0.fdiv (2 ^ (min (a1).toNat 64))))
noncomputable def fixed_ShiftDown_C (a0 : Int) (a1 : Int) : CallS Int :=
  mkC [] hd Tryz.func194 (by kernel_rfl) (fixed_ShiftDown_T a0 a1) 0 [.pure (.int .i64 a0), .pure (.int .i64 a1)] [] (fun r => .pure (.int .i64 r)) (fun _ => []) (by kernel_rfl)

noncomputable def fixed_ShiftUp_T (a0 : Int) (a1 : Int) : T Int :=
  .br (decide (a1 < 0))
   (.ret a0)
   (.grd (0 ≤ a1) <|
   .cut 0 (fun (y1 : Int) => ⟨[(5, .pure (.int .i64 y1))], [], [], 0⟩)
    (.grd (0 ≤ a1) <|
    .br ((IntKind.i64.wrap ((a0.fdiv (2 ^ (min (a1).toNat 64))) * 2 ^ (min (a1).toNat 64))) != a0)
     (.ret (.out (IntKind.i64.wrap ((a0.fdiv (2 ^ (min (a1).toNat 64))) + 1))))
     (.ret (.out (a0.fdiv (2 ^ (min (a1).toNat 64)))))) fun y1 =>
   .ret y1)
noncomputable def fixed_ShiftUp_C (a0 : Int) (a1 : Int) : CallS Int :=
  mkC [] hd Tryz.func236 (by kernel_rfl) (fixed_ShiftUp_T a0 a1) 0 [.pure (.int .i64 a0), .pure (.int .i64 a1)] [] (fun r => .pure (.int .i64 r)) (fun _ => []) (by kernel_rfl)

noncomputable def interval_scaled_T (a0 : Int) (a1 : Int) : T S_Interval :=
  .call (fixed_ShiftDown_C a0 16) [] fun y1 =>
  .call (fixed_ShiftUp_C a1 16) [] fun y2 =>
  .call (interval_limited_C y1 y2) [] fun y3 =>
  .ret y3
noncomputable def interval_scaled_C (a0 : Int) (a1 : Int) : CallS S_Interval :=
  mkC [] hd Tryz.func288 (by kernel_rfl) (interval_scaled_T a0 a1) 0 [.pure (.int .i64 a0), .pure (.int .i64 a1)] [] (fun r => .pure (enc_Interval r)) (fun _ => []) (by kernel_rfl)

noncomputable def interval_Mul_T (a0 : S_Interval) (a1 : S_Interval) : T S_Interval :=
  .call (interval_valid_C (⟨a0.Lo, a0.Hi⟩ : S_Interval) (⟨a1.Lo, a1.Hi⟩ : S_Interval)) [] fun y35 =>
  .br (!y35)
   (.ret (⟨0, 0⟩ : S_Interval))
   (.ix 0 4 rfl <|
   .ix 0 4 rfl <|
   .loop (fun (x56 : (Int × Int × Int)) => ⟨[(4, .ptr 0 0), (6, .pure (.int .i64 x56.1)), (7, .pure (.int .i64 x56.2.1)), (40, .pure (enc_arr_4_int64 ((IntKind.i64.wrap (a0.Lo * a1.Lo)), (IntKind.i64.wrap (a0.Lo * a1.Hi)), (IntKind.i64.wrap (a0.Hi * a1.Lo)), (IntKind.i64.wrap (a0.Hi * a1.Hi))))), (41, .pure (.int .i64 x56.2.2))], [(0, .box [.pure (.int .i64 0), .pure (.int .i64 0)])], [], 1⟩)
    (.exit 0) (fun (y61 : (Int × Int)) => ⟨[(4, .ptr 0 0), (6, .pure (.int .i64 y61.1)), (7, .pure (.int .i64 y61.2))], [(0, .box [.pure (.int .i64 0), .pure (.int .i64 0)])], [], 1⟩)
    (fun x56 => .br (decide (x56.2.2 < 4))
      (.grd (0 ≤ x56.2.2 ∧ x56.2.2 < ((4 : Nat) : Int)) <|
      .name 7000 ((([(IntKind.i64.wrap (a0.Lo * a1.Lo)), (IntKind.i64.wrap (a0.Lo * a1.Hi)), (IntKind.i64.wrap (a0.Hi * a1.Lo)), (IntKind.i64.wrap (a0.Hi * a1.Hi))] : List Int).getD (x56.2.2).toNat 0)) fun z65 =>
      .ret (.next ((min x56.1 z65), (max x56.2.1 z65), (IntKind.i64.wrap (x56.2.2 + 1)))))
      (.ret (.out (x56.1, x56.2.1))))
    ((IntKind.i64.wrap (a0.Lo * a1.Lo)), (IntKind.i64.wrap (a0.Lo * a1.Lo)), 0) [] fun y61 =>
   .call (interval_scaled_C y61.1 y61.2) [] fun y66 =>
   .ret y66)
noncomputable def interval_Mul_C (a0 : S_Interval) (a1 : S_Interval) : CallS S_Interval :=
  mkC [] hd Tryz.func275 (by kernel_rfl) (interval_Mul_T a0 a1) 0 [.pure (enc_Interval a0), .pure (enc_Interval a1)] [] (fun r => .pure (enc_Interval r)) (fun _ => []) (by kernel_rfl)

noncomputable def interval_Add_T (a0 : S_Interval) (a1 : S_Interval) : T S_Interval :=
  .call (interval_valid_C a0 a1) [] fun y4 =>
  .br (!y4)
   (.ret (⟨0, 0⟩ : S_Interval))
   (.call (interval_limited_C (IntKind.i64.wrap (a0.Lo + a1.Lo)) (IntKind.i64.wrap (a0.Hi + a1.Hi))) [] fun y5 =>
   .ret y5)
noncomputable def interval_Add_C (a0 : S_Interval) (a1 : S_Interval) : CallS S_Interval :=
  mkC [] hd Tryz.func274 (by kernel_rfl) (interval_Add_T a0 a1) 0 [.pure (enc_Interval a0), .pure (enc_Interval a1)] [] (fun r => .pure (enc_Interval r)) (fun _ => []) (by kernel_rfl)

noncomputable def matrix_limited_T (a0 : Int) : T Int :=
  .ret (min (max a0 (-65536)) 65536)
noncomputable def matrix_limited_C (a0 : Int) : CallS Int :=
  mkC [] hd Tryz.func276 (by kernel_rfl) (matrix_limited_T a0) 0 [.pure (.int .i64 a0)] [] (fun r => .pure (.int .i64 r)) (fun _ => []) (by kernel_rfl)

set_option maxHeartbeats 8000000 in
set_option maxRecDepth 20000 in
noncomputable def matrix_Compose_T (a0 : ((S_Interval × S_Interval × S_Interval) × (S_Interval × S_Interval × S_Interval) × (S_Interval × S_Interval × S_Interval))) (a1 : ((S_Interval × S_Interval × S_Interval) × (S_Interval × S_Interval × S_Interval) × (S_Interval × S_Interval × S_Interval))) : T ((S_Interval × S_Interval × S_Interval) × (S_Interval × S_Interval × S_Interval) × (S_Interval × S_Interval × S_Interval)) :=
  .unroll 4 <|
  .known true <|
  .unroll 4 <|
  .known true <|
  .unroll 4 <|
  .known true <|
  .ix 0 3 rfl <|
  .ix 0 3 rfl <|
  .ix 0 3 rfl <|
  .ix 0 3 rfl <|
  .call (interval_Mul_C a0.1.1 a1.1.1) [] fun y3531 =>
  .call (interval_Add_C (⟨0, 0⟩ : S_Interval) y3531) [] fun y3532 =>
  .lit 13000 (1) <|
  .known true <|
  .ix 0 3 rfl <|
  .ix 1 3 rfl <|
  .ix 1 3 rfl <|
  .ix 0 3 rfl <|
  .call (interval_Mul_C a0.1.2.1 a1.2.1.1) [] fun y3535 =>
  .call (interval_Add_C y3532 y3535) [] fun y3536 =>
  .lit 13000 (2) <|
  .known true <|
  .ix 0 3 rfl <|
  .ix 2 3 rfl <|
  .ix 2 3 rfl <|
  .ix 0 3 rfl <|
  .call (interval_Mul_C a0.1.2.2 a1.2.2.1) [] fun y3539 =>
  .call (interval_Add_C y3536 y3539) [] fun y3540 =>
  .lit 13000 (3) <|
  .known false <|
  .call (matrix_limited_C y3540.Lo) [] fun y3541 =>
  .call (matrix_limited_C y3540.Hi) [] fun y3542 =>
  .ix 0 3 rfl <|
  .ix 0 3 rfl <|
  .lit 15000 (1) <|
  .known true <|
  .unroll 4 <|
  .known true <|
  .ix 0 3 rfl <|
  .ix 0 3 rfl <|
  .ix 0 3 rfl <|
  .ix 1 3 rfl <|
  .call (interval_Mul_C a0.1.1 a1.1.2.1) [] fun y3607 =>
  .call (interval_Add_C (⟨0, 0⟩ : S_Interval) y3607) [] fun y3608 =>
  .lit 13000 (1) <|
  .known true <|
  .ix 0 3 rfl <|
  .ix 1 3 rfl <|
  .ix 1 3 rfl <|
  .ix 1 3 rfl <|
  .call (interval_Mul_C a0.1.2.1 a1.2.1.2.1) [] fun y3611 =>
  .call (interval_Add_C y3608 y3611) [] fun y3612 =>
  .lit 13000 (2) <|
  .known true <|
  .ix 0 3 rfl <|
  .ix 2 3 rfl <|
  .ix 2 3 rfl <|
  .ix 1 3 rfl <|
  .call (interval_Mul_C a0.1.2.2 a1.2.2.2.1) [] fun y3615 =>
  .call (interval_Add_C y3612 y3615) [] fun y3616 =>
  .lit 13000 (3) <|
  .known false <|
  .call (matrix_limited_C y3616.Lo) [] fun y3617 =>
  .call (matrix_limited_C y3616.Hi) [] fun y3618 =>
  .ix 0 3 rfl <|
  .ix 1 3 rfl <|
  .lit 15000 (2) <|
  .known true <|
  .unroll 4 <|
  .known true <|
  .ix 0 3 rfl <|
  .ix 0 3 rfl <|
  .ix 0 3 rfl <|
  .ix 2 3 rfl <|
  .call (interval_Mul_C a0.1.1 a1.1.2.2) [] fun y3683 =>
  .call (interval_Add_C (⟨0, 0⟩ : S_Interval) y3683) [] fun y3684 =>
  .lit 13000 (1) <|
  .known true <|
  .ix 0 3 rfl <|
  .ix 1 3 rfl <|
  .ix 1 3 rfl <|
  .ix 2 3 rfl <|
  .call (interval_Mul_C a0.1.2.1 a1.2.1.2.2) [] fun y3687 =>
  .call (interval_Add_C y3684 y3687) [] fun y3688 =>
  .lit 13000 (2) <|
  .known true <|
  .ix 0 3 rfl <|
  .ix 2 3 rfl <|
  .ix 2 3 rfl <|
  .ix 2 3 rfl <|
  .call (interval_Mul_C a0.1.2.2 a1.2.2.2.2) [] fun y3691 =>
  .call (interval_Add_C y3688 y3691) [] fun y3692 =>
  .lit 13000 (3) <|
  .known false <|
  .call (matrix_limited_C y3692.Lo) [] fun y3693 =>
  .call (matrix_limited_C y3692.Hi) [] fun y3694 =>
  .ix 0 3 rfl <|
  .ix 2 3 rfl <|
  .lit 15000 (3) <|
  .known false <|
  .lit 16000 (1) <|
  .known true <|
  .unroll 4 <|
  .known true <|
  .unroll 4 <|
  .known true <|
  .ix 1 3 rfl <|
  .ix 0 3 rfl <|
  .ix 0 3 rfl <|
  .ix 0 3 rfl <|
  .call (interval_Mul_C a0.2.1.1 a1.1.1) [] fun y4145 =>
  .call (interval_Add_C (⟨0, 0⟩ : S_Interval) y4145) [] fun y4146 =>
  .lit 13000 (1) <|
  .known true <|
  .ix 1 3 rfl <|
  .ix 1 3 rfl <|
  .ix 1 3 rfl <|
  .ix 0 3 rfl <|
  .call (interval_Mul_C a0.2.1.2.1 a1.2.1.1) [] fun y4149 =>
  .call (interval_Add_C y4146 y4149) [] fun y4150 =>
  .lit 13000 (2) <|
  .known true <|
  .ix 1 3 rfl <|
  .ix 2 3 rfl <|
  .ix 2 3 rfl <|
  .ix 0 3 rfl <|
  .call (interval_Mul_C a0.2.1.2.2 a1.2.2.1) [] fun y4153 =>
  .call (interval_Add_C y4150 y4153) [] fun y4154 =>
  .lit 13000 (3) <|
  .known false <|
  .call (matrix_limited_C y4154.Lo) [] fun y4155 =>
  .call (matrix_limited_C y4154.Hi) [] fun y4156 =>
  .ix 1 3 rfl <|
  .ix 0 3 rfl <|
  .lit 15000 (1) <|
  .known true <|
  .unroll 4 <|
  .known true <|
  .ix 1 3 rfl <|
  .ix 0 3 rfl <|
  .ix 0 3 rfl <|
  .ix 1 3 rfl <|
  .call (interval_Mul_C a0.2.1.1 a1.1.2.1) [] fun y4221 =>
  .call (interval_Add_C (⟨0, 0⟩ : S_Interval) y4221) [] fun y4222 =>
  .lit 13000 (1) <|
  .known true <|
  .ix 1 3 rfl <|
  .ix 1 3 rfl <|
  .ix 1 3 rfl <|
  .ix 1 3 rfl <|
  .call (interval_Mul_C a0.2.1.2.1 a1.2.1.2.1) [] fun y4225 =>
  .call (interval_Add_C y4222 y4225) [] fun y4226 =>
  .lit 13000 (2) <|
  .known true <|
  .ix 1 3 rfl <|
  .ix 2 3 rfl <|
  .ix 2 3 rfl <|
  .ix 1 3 rfl <|
  .call (interval_Mul_C a0.2.1.2.2 a1.2.2.2.1) [] fun y4229 =>
  .call (interval_Add_C y4226 y4229) [] fun y4230 =>
  .lit 13000 (3) <|
  .known false <|
  .call (matrix_limited_C y4230.Lo) [] fun y4231 =>
  .call (matrix_limited_C y4230.Hi) [] fun y4232 =>
  .ix 1 3 rfl <|
  .ix 1 3 rfl <|
  .lit 15000 (2) <|
  .known true <|
  .unroll 4 <|
  .known true <|
  .ix 1 3 rfl <|
  .ix 0 3 rfl <|
  .ix 0 3 rfl <|
  .ix 2 3 rfl <|
  .call (interval_Mul_C a0.2.1.1 a1.1.2.2) [] fun y4297 =>
  .call (interval_Add_C (⟨0, 0⟩ : S_Interval) y4297) [] fun y4298 =>
  .lit 13000 (1) <|
  .known true <|
  .ix 1 3 rfl <|
  .ix 1 3 rfl <|
  .ix 1 3 rfl <|
  .ix 2 3 rfl <|
  .call (interval_Mul_C a0.2.1.2.1 a1.2.1.2.2) [] fun y4301 =>
  .call (interval_Add_C y4298 y4301) [] fun y4302 =>
  .lit 13000 (2) <|
  .known true <|
  .ix 1 3 rfl <|
  .ix 2 3 rfl <|
  .ix 2 3 rfl <|
  .ix 2 3 rfl <|
  .call (interval_Mul_C a0.2.1.2.2 a1.2.2.2.2) [] fun y4305 =>
  .call (interval_Add_C y4302 y4305) [] fun y4306 =>
  .lit 13000 (3) <|
  .known false <|
  .call (matrix_limited_C y4306.Lo) [] fun y4307 =>
  .call (matrix_limited_C y4306.Hi) [] fun y4308 =>
  .ix 1 3 rfl <|
  .ix 2 3 rfl <|
  .lit 15000 (3) <|
  .known false <|
  .lit 16000 (2) <|
  .known true <|
  .unroll 4 <|
  .known true <|
  .unroll 4 <|
  .known true <|
  .ix 2 3 rfl <|
  .ix 0 3 rfl <|
  .ix 0 3 rfl <|
  .ix 0 3 rfl <|
  .call (interval_Mul_C a0.2.2.1 a1.1.1) [] fun y4759 =>
  .call (interval_Add_C (⟨0, 0⟩ : S_Interval) y4759) [] fun y4760 =>
  .lit 13000 (1) <|
  .known true <|
  .ix 2 3 rfl <|
  .ix 1 3 rfl <|
  .ix 1 3 rfl <|
  .ix 0 3 rfl <|
  .call (interval_Mul_C a0.2.2.2.1 a1.2.1.1) [] fun y4763 =>
  .call (interval_Add_C y4760 y4763) [] fun y4764 =>
  .lit 13000 (2) <|
  .known true <|
  .ix 2 3 rfl <|
  .ix 2 3 rfl <|
  .ix 2 3 rfl <|
  .ix 0 3 rfl <|
  .call (interval_Mul_C a0.2.2.2.2 a1.2.2.1) [] fun y4767 =>
  .call (interval_Add_C y4764 y4767) [] fun y4768 =>
  .lit 13000 (3) <|
  .known false <|
  .call (matrix_limited_C y4768.Lo) [] fun y4769 =>
  .call (matrix_limited_C y4768.Hi) [] fun y4770 =>
  .ix 2 3 rfl <|
  .ix 0 3 rfl <|
  .lit 15000 (1) <|
  .known true <|
  .unroll 4 <|
  .known true <|
  .ix 2 3 rfl <|
  .ix 0 3 rfl <|
  .ix 0 3 rfl <|
  .ix 1 3 rfl <|
  .call (interval_Mul_C a0.2.2.1 a1.1.2.1) [] fun y4835 =>
  .call (interval_Add_C (⟨0, 0⟩ : S_Interval) y4835) [] fun y4836 =>
  .lit 13000 (1) <|
  .known true <|
  .ix 2 3 rfl <|
  .ix 1 3 rfl <|
  .ix 1 3 rfl <|
  .ix 1 3 rfl <|
  .call (interval_Mul_C a0.2.2.2.1 a1.2.1.2.1) [] fun y4839 =>
  .call (interval_Add_C y4836 y4839) [] fun y4840 =>
  .lit 13000 (2) <|
  .known true <|
  .ix 2 3 rfl <|
  .ix 2 3 rfl <|
  .ix 2 3 rfl <|
  .ix 1 3 rfl <|
  .call (interval_Mul_C a0.2.2.2.2 a1.2.2.2.1) [] fun y4843 =>
  .call (interval_Add_C y4840 y4843) [] fun y4844 =>
  .lit 13000 (3) <|
  .known false <|
  .call (matrix_limited_C y4844.Lo) [] fun y4845 =>
  .call (matrix_limited_C y4844.Hi) [] fun y4846 =>
  .ix 2 3 rfl <|
  .ix 1 3 rfl <|
  .lit 15000 (2) <|
  .known true <|
  .unroll 4 <|
  .known true <|
  .ix 2 3 rfl <|
  .ix 0 3 rfl <|
  .ix 0 3 rfl <|
  .ix 2 3 rfl <|
  .call (interval_Mul_C a0.2.2.1 a1.1.2.2) [] fun y4911 =>
  .call (interval_Add_C (⟨0, 0⟩ : S_Interval) y4911) [] fun y4912 =>
  .lit 13000 (1) <|
  .known true <|
  .ix 2 3 rfl <|
  .ix 1 3 rfl <|
  .ix 1 3 rfl <|
  .ix 2 3 rfl <|
  .call (interval_Mul_C a0.2.2.2.1 a1.2.1.2.2) [] fun y4915 =>
  .call (interval_Add_C y4912 y4915) [] fun y4916 =>
  .lit 13000 (2) <|
  .known true <|
  .ix 2 3 rfl <|
  .ix 2 3 rfl <|
  .ix 2 3 rfl <|
  .ix 2 3 rfl <|
  .call (interval_Mul_C a0.2.2.2.2 a1.2.2.2.2) [] fun y4919 =>
  .call (interval_Add_C y4916 y4919) [] fun y4920 =>
  .lit 13000 (3) <|
  .known false <|
  .call (matrix_limited_C y4920.Lo) [] fun y4921 =>
  .call (matrix_limited_C y4920.Hi) [] fun y4922 =>
  .ix 2 3 rfl <|
  .ix 2 3 rfl <|
  .lit 15000 (3) <|
  .known false <|
  .lit 16000 (3) <|
  .known false <|
  .ret (((⟨y3541, y3542⟩ : S_Interval), (⟨y3617, y3618⟩ : S_Interval), (⟨y3693, y3694⟩ : S_Interval)), ((⟨y4155, y4156⟩ : S_Interval), (⟨y4231, y4232⟩ : S_Interval), (⟨y4307, y4308⟩ : S_Interval)), ((⟨y4769, y4770⟩ : S_Interval), (⟨y4845, y4846⟩ : S_Interval), (⟨y4921, y4922⟩ : S_Interval)))
noncomputable def matrix_Compose_C (a0 : ((S_Interval × S_Interval × S_Interval) × (S_Interval × S_Interval × S_Interval) × (S_Interval × S_Interval × S_Interval))) (a1 : ((S_Interval × S_Interval × S_Interval) × (S_Interval × S_Interval × S_Interval) × (S_Interval × S_Interval × S_Interval))) : CallS ((S_Interval × S_Interval × S_Interval) × (S_Interval × S_Interval × S_Interval) × (S_Interval × S_Interval × S_Interval)) :=
  mkC [] hd Tryz.func254 (by kernel_rfl) (matrix_Compose_T a0 a1) 0 [.pure (enc_arr_3_3_Interval a0), .pure (enc_arr_3_3_Interval a1)] [] (fun r => .pure (enc_arr_3_3_Interval r)) (fun _ => []) (by kernel_rfl)

noncomputable def matrix_Apply_T (a0 : ((S_Interval × S_Interval × S_Interval) × (S_Interval × S_Interval × S_Interval) × (S_Interval × S_Interval × S_Interval))) (a1 : (S_Interval × S_Interval × S_Interval)) : T (S_Interval × S_Interval × S_Interval) :=
  .unroll 4 <|
  .known true <|
  .unroll 4 <|
  .known true <|
  .ix 0 3 rfl <|
  .ix 0 3 rfl <|
  .ix 0 3 rfl <|
  .ix 0 3 rfl <|
  .call (interval_Mul_C a0.1.1 a1.1) [] fun y213 =>
  .call (interval_Add_C (⟨0, 0⟩ : S_Interval) y213) [] fun y214 =>
  .ix 0 3 rfl <|
  .lit 9000 (1) <|
  .known true <|
  .ix 0 3 rfl <|
  .ix 0 3 rfl <|
  .ix 1 3 rfl <|
  .ix 1 3 rfl <|
  .call (interval_Mul_C a0.1.2.1 a1.2.1) [] fun y217 =>
  .call (interval_Add_C y214 y217) [] fun y218 =>
  .ix 0 3 rfl <|
  .lit 9000 (2) <|
  .known true <|
  .ix 0 3 rfl <|
  .ix 0 3 rfl <|
  .ix 2 3 rfl <|
  .ix 2 3 rfl <|
  .call (interval_Mul_C a0.1.2.2 a1.2.2) [] fun y221 =>
  .call (interval_Add_C y218 y221) [] fun y222 =>
  .ix 0 3 rfl <|
  .lit 9000 (3) <|
  .known false <|
  .lit 10000 (1) <|
  .known true <|
  .unroll 4 <|
  .known true <|
  .ix 1 3 rfl <|
  .ix 1 3 rfl <|
  .ix 0 3 rfl <|
  .ix 0 3 rfl <|
  .call (interval_Mul_C a0.2.1.1 a1.1) [] fun y249 =>
  .call (interval_Add_C (⟨0, 0⟩ : S_Interval) y249) [] fun y250 =>
  .ix 1 3 rfl <|
  .lit 9000 (1) <|
  .known true <|
  .ix 1 3 rfl <|
  .ix 1 3 rfl <|
  .ix 1 3 rfl <|
  .ix 1 3 rfl <|
  .call (interval_Mul_C a0.2.1.2.1 a1.2.1) [] fun y253 =>
  .call (interval_Add_C y250 y253) [] fun y254 =>
  .ix 1 3 rfl <|
  .lit 9000 (2) <|
  .known true <|
  .ix 1 3 rfl <|
  .ix 1 3 rfl <|
  .ix 2 3 rfl <|
  .ix 2 3 rfl <|
  .call (interval_Mul_C a0.2.1.2.2 a1.2.2) [] fun y257 =>
  .call (interval_Add_C y254 y257) [] fun y258 =>
  .ix 1 3 rfl <|
  .lit 9000 (3) <|
  .known false <|
  .lit 10000 (2) <|
  .known true <|
  .unroll 4 <|
  .known true <|
  .ix 2 3 rfl <|
  .ix 2 3 rfl <|
  .ix 0 3 rfl <|
  .ix 0 3 rfl <|
  .call (interval_Mul_C a0.2.2.1 a1.1) [] fun y285 =>
  .call (interval_Add_C (⟨0, 0⟩ : S_Interval) y285) [] fun y286 =>
  .ix 2 3 rfl <|
  .lit 9000 (1) <|
  .known true <|
  .ix 2 3 rfl <|
  .ix 2 3 rfl <|
  .ix 1 3 rfl <|
  .ix 1 3 rfl <|
  .call (interval_Mul_C a0.2.2.2.1 a1.2.1) [] fun y289 =>
  .call (interval_Add_C y286 y289) [] fun y290 =>
  .ix 2 3 rfl <|
  .lit 9000 (2) <|
  .known true <|
  .ix 2 3 rfl <|
  .ix 2 3 rfl <|
  .ix 2 3 rfl <|
  .ix 2 3 rfl <|
  .call (interval_Mul_C a0.2.2.2.2 a1.2.2) [] fun y293 =>
  .call (interval_Add_C y290 y293) [] fun y294 =>
  .ix 2 3 rfl <|
  .lit 9000 (3) <|
  .known false <|
  .lit 10000 (3) <|
  .known false <|
  .ret (y222, y258, y294)
noncomputable def matrix_Apply_C (a0 : ((S_Interval × S_Interval × S_Interval) × (S_Interval × S_Interval × S_Interval) × (S_Interval × S_Interval × S_Interval))) (a1 : (S_Interval × S_Interval × S_Interval)) : CallS (S_Interval × S_Interval × S_Interval) :=
  mkC [] hd Tryz.func273 (by kernel_rfl) (matrix_Apply_T a0 a1) 0 [.pure (enc_arr_3_3_Interval a0), .pure (enc_arr_3_Interval a1)] [] (fun r => .pure (enc_arr_3_Interval r)) (fun _ => []) (by kernel_rfl)

noncomputable def matrix_Add_T (a0 : (S_Interval × S_Interval × S_Interval)) (a1 : (S_Interval × S_Interval × S_Interval)) : T (S_Interval × S_Interval × S_Interval) :=
  .unroll 4 <|
  .known true <|
  .ix 0 3 rfl <|
  .ix 0 3 rfl <|
  .call (interval_Add_C a0.1 a1.1) [] fun y16 =>
  .ix 0 3 rfl <|
  .lit 6000 (1) <|
  .known true <|
  .ix 1 3 rfl <|
  .ix 1 3 rfl <|
  .call (interval_Add_C a0.2.1 a1.2.1) [] fun y18 =>
  .ix 1 3 rfl <|
  .lit 6000 (2) <|
  .known true <|
  .ix 2 3 rfl <|
  .ix 2 3 rfl <|
  .call (interval_Add_C a0.2.2 a1.2.2) [] fun y20 =>
  .ix 2 3 rfl <|
  .lit 6000 (3) <|
  .known false <|
  .ret (y16, y18, y20)
noncomputable def matrix_Add_C (a0 : (S_Interval × S_Interval × S_Interval)) (a1 : (S_Interval × S_Interval × S_Interval)) : CallS (S_Interval × S_Interval × S_Interval) :=
  mkC [] hd Tryz.func272 (by kernel_rfl) (matrix_Add_T a0 a1) 0 [.pure (enc_arr_3_Interval a0), .pure (enc_arr_3_Interval a1)] [] (fun r => .pure (enc_arr_3_Interval r)) (fun _ => []) (by kernel_rfl)

noncomputable def pose_mover_1_T (a0 : (S_Interval × S_Interval × S_Interval)) (a1 : Int) (a2 : Int) (a3 : Int) (a4 : Int) (a5 : Int) (a6 : Int) (a7 : Int) (a8 : Int) (a9 : Int) (a10 : Int) (a11 : Int) (a12 : Int) (a13 : Int) (a14 : Int) (a15 : Int) (a16 : Int) (a17 : Int) (a18 : Int) (a19 : Int) (a20 : Int) (a21 : Int) (a22 : Int) (a23 : Int) (a24 : Int) : T ((S_Interval × S_Interval × S_Interval) × Int × Int × Int × Int × Int × Int × Int × Int × Int × Int × Int × Int × Int × Int × Int × Int × Int × Int × Int × Int × Int × Int × Int × Int) :=
  .call (matrix_Apply_C (((⟨a1, a2⟩ : S_Interval), (⟨a3, a4⟩ : S_Interval), (⟨a5, a6⟩ : S_Interval)), ((⟨a7, a8⟩ : S_Interval), (⟨a9, a10⟩ : S_Interval), (⟨a11, a12⟩ : S_Interval)), ((⟨a13, a14⟩ : S_Interval), (⟨a15, a16⟩ : S_Interval), (⟨a17, a18⟩ : S_Interval))) ((⟨a0.1.Lo, a0.1.Hi⟩ : S_Interval), (⟨a0.2.1.Lo, a0.2.1.Hi⟩ : S_Interval), (⟨a0.2.2.Lo, a0.2.2.Hi⟩ : S_Interval))) [] fun y1 =>
  .call (matrix_Add_C ((⟨a19, a20⟩ : S_Interval), (⟨a21, a22⟩ : S_Interval), (⟨a23, a24⟩ : S_Interval)) y1) [] fun y2 =>
  .ret (y2, a1, a2, a3, a4, a5, a6, a7, a8, a9, a10, a11, a12, a13, a14, a15, a16, a17, a18, a19, a20, a21, a22, a23, a24)
noncomputable def pose_mover_1_C (a0 : (S_Interval × S_Interval × S_Interval)) (a1 : Int) (a2 : Int) (a3 : Int) (a4 : Int) (a5 : Int) (a6 : Int) (a7 : Int) (a8 : Int) (a9 : Int) (a10 : Int) (a11 : Int) (a12 : Int) (a13 : Int) (a14 : Int) (a15 : Int) (a16 : Int) (a17 : Int) (a18 : Int) (a19 : Int) (a20 : Int) (a21 : Int) (a22 : Int) (a23 : Int) (a24 : Int) : CallS ((S_Interval × S_Interval × S_Interval) × Int × Int × Int × Int × Int × Int × Int × Int × Int × Int × Int × Int × Int × Int × Int × Int × Int × Int × Int × Int × Int × Int × Int × Int) :=
  mkC [] hd Tryz.func271 (by kernel_rfl) (pose_mover_1_T a0 a1 a2 a3 a4 a5 a6 a7 a8 a9 a10 a11 a12 a13 a14 a15 a16 a17 a18 a19 a20 a21 a22 a23 a24) 1 [.pure (enc_arr_3_Interval a0), .ptr 0 0] [(0, .box [.pure (.int .i64 a1), .pure (.int .i64 a2), .pure (.int .i64 a3), .pure (.int .i64 a4), .pure (.int .i64 a5), .pure (.int .i64 a6), .pure (.int .i64 a7), .pure (.int .i64 a8), .pure (.int .i64 a9), .pure (.int .i64 a10), .pure (.int .i64 a11), .pure (.int .i64 a12), .pure (.int .i64 a13), .pure (.int .i64 a14), .pure (.int .i64 a15), .pure (.int .i64 a16), .pure (.int .i64 a17), .pure (.int .i64 a18), .pure (.int .i64 a19), .pure (.int .i64 a20), .pure (.int .i64 a21), .pure (.int .i64 a22), .pure (.int .i64 a23), .pure (.int .i64 a24)])] (fun r => .pure (enc_arr_3_Interval r.1)) (fun r => [(0, .box [.pure (.int .i64 r.2.1), .pure (.int .i64 r.2.2.1), .pure (.int .i64 r.2.2.2.1), .pure (.int .i64 r.2.2.2.2.1), .pure (.int .i64 r.2.2.2.2.2.1), .pure (.int .i64 r.2.2.2.2.2.2.1), .pure (.int .i64 r.2.2.2.2.2.2.2.1), .pure (.int .i64 r.2.2.2.2.2.2.2.2.1), .pure (.int .i64 r.2.2.2.2.2.2.2.2.2.1), .pure (.int .i64 r.2.2.2.2.2.2.2.2.2.2.1), .pure (.int .i64 r.2.2.2.2.2.2.2.2.2.2.2.1), .pure (.int .i64 r.2.2.2.2.2.2.2.2.2.2.2.2.1), .pure (.int .i64 r.2.2.2.2.2.2.2.2.2.2.2.2.2.1), .pure (.int .i64 r.2.2.2.2.2.2.2.2.2.2.2.2.2.2.1), .pure (.int .i64 r.2.2.2.2.2.2.2.2.2.2.2.2.2.2.2.1), .pure (.int .i64 r.2.2.2.2.2.2.2.2.2.2.2.2.2.2.2.2.1), .pure (.int .i64 r.2.2.2.2.2.2.2.2.2.2.2.2.2.2.2.2.2.1), .pure (.int .i64 r.2.2.2.2.2.2.2.2.2.2.2.2.2.2.2.2.2.2.1), .pure (.int .i64 r.2.2.2.2.2.2.2.2.2.2.2.2.2.2.2.2.2.2.2.1), .pure (.int .i64 r.2.2.2.2.2.2.2.2.2.2.2.2.2.2.2.2.2.2.2.2.1), .pure (.int .i64 r.2.2.2.2.2.2.2.2.2.2.2.2.2.2.2.2.2.2.2.2.2.1), .pure (.int .i64 r.2.2.2.2.2.2.2.2.2.2.2.2.2.2.2.2.2.2.2.2.2.2.1), .pure (.int .i64 r.2.2.2.2.2.2.2.2.2.2.2.2.2.2.2.2.2.2.2.2.2.2.2.1), .pure (.int .i64 r.2.2.2.2.2.2.2.2.2.2.2.2.2.2.2.2.2.2.2.2.2.2.2.2)])]) (by kernel_rfl)

noncomputable def pose_Compose_T (a0 : S_Pose) (a1 : S_Pose) : T S_Pose :=
  .call (pose_mover_C a0) [] fun y2 =>
  .call (matrix_Compose_C a0.R a1.R) [] fun y3 =>
  .call (pose_mover_1_C a1.T y2.1 y2.2.1 y2.2.2.1 y2.2.2.2.1 y2.2.2.2.2.1 y2.2.2.2.2.2.1 y2.2.2.2.2.2.2.1 y2.2.2.2.2.2.2.2.1 y2.2.2.2.2.2.2.2.2.1 y2.2.2.2.2.2.2.2.2.2.1 y2.2.2.2.2.2.2.2.2.2.2.1 y2.2.2.2.2.2.2.2.2.2.2.2.1 y2.2.2.2.2.2.2.2.2.2.2.2.2.1 y2.2.2.2.2.2.2.2.2.2.2.2.2.2.1 y2.2.2.2.2.2.2.2.2.2.2.2.2.2.2.1 y2.2.2.2.2.2.2.2.2.2.2.2.2.2.2.2.1 y2.2.2.2.2.2.2.2.2.2.2.2.2.2.2.2.2.1 y2.2.2.2.2.2.2.2.2.2.2.2.2.2.2.2.2.2.1 y2.2.2.2.2.2.2.2.2.2.2.2.2.2.2.2.2.2.2.1 y2.2.2.2.2.2.2.2.2.2.2.2.2.2.2.2.2.2.2.2.1 y2.2.2.2.2.2.2.2.2.2.2.2.2.2.2.2.2.2.2.2.2.1 y2.2.2.2.2.2.2.2.2.2.2.2.2.2.2.2.2.2.2.2.2.2.1 y2.2.2.2.2.2.2.2.2.2.2.2.2.2.2.2.2.2.2.2.2.2.2.1 y2.2.2.2.2.2.2.2.2.2.2.2.2.2.2.2.2.2.2.2.2.2.2.2) [(0, 256)] fun y4 =>
  .ret (⟨(y3.1, y3.2.1, y3.2.2), y4.1⟩ : S_Pose)
noncomputable def pose_Compose_C (a0 : S_Pose) (a1 : S_Pose) : CallS S_Pose :=
  mkC [] hd Tryz.func226 (by kernel_rfl) (pose_Compose_T a0 a1) 0 [.pure (enc_Pose a0), .pure (enc_Pose a1)] [] (fun r => .pure (enc_Pose r)) (fun _ => []) (by kernel_rfl)

noncomputable def axis_slide_T (a0 : Int) (a1 : S_Interval) : T S_Pose :=
  .cut 2 (fun (y1 : (Int × Int × Int × Int × Int × Int)) => ⟨[(4, .ptr 0 0), (5, .ptr 1 0)], [(0, .box [.pure (.int .i64 0), .pure (.int .i64 0), .pure (.int .i64 0), .pure (.int .i64 0), .pure (.int .i64 0), .pure (.int .i64 0), .pure (.int .i64 0), .pure (.int .i64 0), .pure (.int .i64 0), .pure (.int .i64 0), .pure (.int .i64 0), .pure (.int .i64 0), .pure (.int .i64 0), .pure (.int .i64 0), .pure (.int .i64 0), .pure (.int .i64 0), .pure (.int .i64 0), .pure (.int .i64 0), .pure (.int .i64 0), .pure (.int .i64 0), .pure (.int .i64 0), .pure (.int .i64 0), .pure (.int .i64 0), .pure (.int .i64 0)]), (1, .box [.pure (.int .i64 y1.1), .pure (.int .i64 y1.2.1), .pure (.int .i64 y1.2.2.1), .pure (.int .i64 y1.2.2.2.1), .pure (.int .i64 y1.2.2.2.2.1), .pure (.int .i64 y1.2.2.2.2.2)])], [], 2⟩)
   (.cas 2000 a0 0
    (.ix 0 3 rfl <|
    .ret (.out (a1.Lo, a1.Hi, 0, 0, 0, 0)))
    (.cas 2000 a0 1
     (.ix 1 3 rfl <|
     .ret (.out (0, 0, a1.Lo, a1.Hi, 0, 0)))
     (.cas 2000 a0 2
      (.ix 2 3 rfl <|
      .ret (.out (0, 0, 0, 0, a1.Lo, a1.Hi)))
      (.stop)))) fun y1 =>
  .call (pose_Shift_C ((⟨y1.1, y1.2.1⟩ : S_Interval), (⟨y1.2.2.1, y1.2.2.2.1⟩ : S_Interval), (⟨y1.2.2.2.2.1, y1.2.2.2.2.2⟩ : S_Interval))) [] fun y2 =>
  .ret y2
noncomputable def axis_slide_C (a0 : Int) (a1 : S_Interval) : CallS S_Pose :=
  mkC [] hd Tryz.func269 (by kernel_rfl) (axis_slide_T a0 a1) 0 [.pure (.int .i64 a0), .pure (enc_Interval a1)] [] (fun r => .pure (enc_Pose r)) (fun _ => []) (by kernel_rfl)

noncomputable def interval_Width_T (a0 : S_Interval) : T Int :=
  .call (interval_Valid_C a0) [] fun y4 =>
  .br (!y4)
   (.ret 0)
   (.ret (IntKind.i64.wrap (a0.Hi - a0.Lo)))
noncomputable def interval_Width_C (a0 : S_Interval) : CallS Int :=
  mkC [] hd Tryz.func315 (by kernel_rfl) (interval_Width_T a0) 0 [.pure (enc_Interval a0)] [] (fun r => .pure (.int .i64 r)) (fun _ => []) (by kernel_rfl)

noncomputable def angle_modTurn_T (a0 : Int) : T Int :=
  .ret (IntKind.i64.wrap (((BitVec.ofInt 64 a0 &&& BitVec.ofInt 64 65535).toNat : Int)))
noncomputable def angle_modTurn_C (a0 : Int) : CallS Int :=
  mkC [] hd Tryz.func318 (by kernel_rfl) (angle_modTurn_T a0) 0 [.pure (.int .i64 a0)] [] (fun r => .pure (.int .i64 r)) (fun _ => []) (by kernel_rfl)

noncomputable def angle_powersOf_T (a0 : Int) : T ((Int × Int × Int × Int × Int × Int × Int × Int × Int × Int × Int) × (Int × Int × Int × Int × Int × Int × Int × Int × Int × Int × Int)) :=
  .ix 0 11 rfl <|
  .ix 0 11 rfl <|
  .call (fixed_ShiftDown_C (IntKind.i64.wrap (a0 * 6746518852)) 16) [] fun y2 =>
  .ix 1 11 rfl <|
  .call (fixed_ShiftUp_C (IntKind.i64.wrap (a0 * 6746518853)) 16) [] fun y4 =>
  .ix 1 11 rfl <|
  .unroll 10 <|
  .known true <|
  .lit 8002 (1) <|
  .ix 1 11 rfl <|
  .ix 1 11 rfl <|
  .call (fixed_ShiftDown_C (IntKind.i64.wrap (y2 * y2)) 30) [] fun y79 =>
  .ix 2 11 rfl <|
  .lit 9002 (1) <|
  .ix 1 11 rfl <|
  .ix 1 11 rfl <|
  .call (fixed_ShiftUp_C (IntKind.i64.wrap (y4 * y4)) 30) [] fun y80 =>
  .ix 2 11 rfl <|
  .lit 7001 (3) <|
  .known true <|
  .lit 8002 (2) <|
  .ix 2 11 rfl <|
  .ix 1 11 rfl <|
  .call (fixed_ShiftDown_C (IntKind.i64.wrap (y79 * y2)) 30) [] fun y85 =>
  .ix 3 11 rfl <|
  .lit 9002 (2) <|
  .ix 2 11 rfl <|
  .ix 1 11 rfl <|
  .call (fixed_ShiftUp_C (IntKind.i64.wrap (y80 * y4)) 30) [] fun y86 =>
  .ix 3 11 rfl <|
  .lit 7001 (4) <|
  .known true <|
  .lit 8002 (3) <|
  .ix 3 11 rfl <|
  .ix 1 11 rfl <|
  .call (fixed_ShiftDown_C (IntKind.i64.wrap (y85 * y2)) 30) [] fun y91 =>
  .ix 4 11 rfl <|
  .lit 9002 (3) <|
  .ix 3 11 rfl <|
  .ix 1 11 rfl <|
  .call (fixed_ShiftUp_C (IntKind.i64.wrap (y86 * y4)) 30) [] fun y92 =>
  .ix 4 11 rfl <|
  .lit 7001 (5) <|
  .known true <|
  .lit 8002 (4) <|
  .ix 4 11 rfl <|
  .ix 1 11 rfl <|
  .call (fixed_ShiftDown_C (IntKind.i64.wrap (y91 * y2)) 30) [] fun y97 =>
  .ix 5 11 rfl <|
  .lit 9002 (4) <|
  .ix 4 11 rfl <|
  .ix 1 11 rfl <|
  .call (fixed_ShiftUp_C (IntKind.i64.wrap (y92 * y4)) 30) [] fun y98 =>
  .ix 5 11 rfl <|
  .lit 7001 (6) <|
  .known true <|
  .lit 8002 (5) <|
  .ix 5 11 rfl <|
  .ix 1 11 rfl <|
  .call (fixed_ShiftDown_C (IntKind.i64.wrap (y97 * y2)) 30) [] fun y103 =>
  .ix 6 11 rfl <|
  .lit 9002 (5) <|
  .ix 5 11 rfl <|
  .ix 1 11 rfl <|
  .call (fixed_ShiftUp_C (IntKind.i64.wrap (y98 * y4)) 30) [] fun y104 =>
  .ix 6 11 rfl <|
  .lit 7001 (7) <|
  .known true <|
  .lit 8002 (6) <|
  .ix 6 11 rfl <|
  .ix 1 11 rfl <|
  .call (fixed_ShiftDown_C (IntKind.i64.wrap (y103 * y2)) 30) [] fun y109 =>
  .ix 7 11 rfl <|
  .lit 9002 (6) <|
  .ix 6 11 rfl <|
  .ix 1 11 rfl <|
  .call (fixed_ShiftUp_C (IntKind.i64.wrap (y104 * y4)) 30) [] fun y110 =>
  .ix 7 11 rfl <|
  .lit 7001 (8) <|
  .known true <|
  .lit 8002 (7) <|
  .ix 7 11 rfl <|
  .ix 1 11 rfl <|
  .call (fixed_ShiftDown_C (IntKind.i64.wrap (y109 * y2)) 30) [] fun y115 =>
  .ix 8 11 rfl <|
  .lit 9002 (7) <|
  .ix 7 11 rfl <|
  .ix 1 11 rfl <|
  .call (fixed_ShiftUp_C (IntKind.i64.wrap (y110 * y4)) 30) [] fun y116 =>
  .ix 8 11 rfl <|
  .lit 7001 (9) <|
  .known true <|
  .lit 8002 (8) <|
  .ix 8 11 rfl <|
  .ix 1 11 rfl <|
  .call (fixed_ShiftDown_C (IntKind.i64.wrap (y115 * y2)) 30) [] fun y121 =>
  .ix 9 11 rfl <|
  .lit 9002 (8) <|
  .ix 8 11 rfl <|
  .ix 1 11 rfl <|
  .call (fixed_ShiftUp_C (IntKind.i64.wrap (y116 * y4)) 30) [] fun y122 =>
  .ix 9 11 rfl <|
  .lit 7001 (10) <|
  .known true <|
  .lit 8002 (9) <|
  .ix 9 11 rfl <|
  .ix 1 11 rfl <|
  .call (fixed_ShiftDown_C (IntKind.i64.wrap (y121 * y2)) 30) [] fun y127 =>
  .ix 10 11 rfl <|
  .lit 9002 (9) <|
  .ix 9 11 rfl <|
  .ix 1 11 rfl <|
  .call (fixed_ShiftUp_C (IntKind.i64.wrap (y122 * y4)) 30) [] fun y128 =>
  .ix 10 11 rfl <|
  .lit 7001 (11) <|
  .known false <|
  .ret ((1073741824, y2, y79, y85, y91, y97, y103, y109, y115, y121, y127), (1073741824, y4, y80, y86, y92, y98, y104, y110, y116, y122, y128))
noncomputable def angle_powersOf_C (a0 : Int) : CallS ((Int × Int × Int × Int × Int × Int × Int × Int × Int × Int × Int) × (Int × Int × Int × Int × Int × Int × Int × Int × Int × Int × Int)) :=
  mkC [] hd Tryz.func325 (by kernel_rfl) (angle_powersOf_T a0) 0 [.pure (.int .i64 a0)] [] (fun r => .tup [.pure (enc_arr_11_int64 r.1), .pure (enc_arr_11_int64 r.2)]) (fun _ => []) (by kernel_rfl)

noncomputable def angle_ceiling_T (a0 : Int) (a1 : Int) : T Int :=
  .grd (a1 ≠ 0) <|
  .ret (IntKind.i64.wrap ((IntKind.i64.wrap ((IntKind.i64.wrap (a0 + a1)) - 1)).tdiv a1))
noncomputable def angle_ceiling_C (a0 : Int) (a1 : Int) : CallS Int :=
  mkC [] hd Tryz.func327 (by kernel_rfl) (angle_ceiling_T a0 a1) 0 [.pure (.int .i64 a0), .pure (.int .i64 a1)] [] (fun r => .pure (.int .i64 r)) (fun _ => []) (by kernel_rfl)

noncomputable def angle_alternating_T (a0 : (List Int)) : T Int :=
  .loop (fun (x5 : (Int × Int × Int)) => ⟨[(3, .pure (.int .i64 x5.1)), (4, .pure (.int .i64 x5.2.1)), (7, .pure (encL 1 encI_i64 a0)), (8, .pure (.int .i64 ((a0.length : Nat) : Int))), (9, .pure (.int .i64 x5.2.2))], [], [], 0⟩)
   (.exit 0) (fun (y6 : Int) => ⟨[(3, .pure (.int .i64 y6))], [], [], 0⟩)
   (fun x5 => .br (decide (x5.2.2 < ((a0.length : Nat) : Int)))
     (.grd (0 ≤ x5.2.2 ∧ x5.2.2 < ((a0.length : Nat) : Int)) <|
     .ret (.next ((IntKind.i64.wrap (x5.1 + (IntKind.i64.wrap (x5.2.1 * (a0.getD ((x5.2.2).toNat) default))))), (IntKind.i64.wrap (0 - x5.2.1)), (IntKind.i64.wrap (x5.2.2 + 1)))))
     (.ret (.out x5.1)))
   (0, 1, 0) [] fun y6 =>
  .ret y6
noncomputable def angle_alternating_C (a0 : (List Int)) : CallS Int :=
  mkC [] hd Tryz.func326 (by kernel_rfl) (angle_alternating_T a0) 0 [.pure (encL 1 encI_i64 a0)] [] (fun r => .pure (.int .i64 r)) (fun _ => []) (by kernel_rfl)

noncomputable def angle_enclosure_T (a0 : Int) (a1 : Int) : T S_Interval :=
  .call (fixed_ShiftDown_C a0 14) [] fun y1 =>
  .call (fixed_ShiftUp_C a1 14) [] fun y2 =>
  .ret (⟨(max 0 y1), (min 65536 y2)⟩ : S_Interval)
noncomputable def angle_enclosure_C (a0 : Int) (a1 : Int) : CallS S_Interval :=
  mkC [] hd Tryz.func328 (by kernel_rfl) (angle_enclosure_T a0 a1) 0 [.pure (.int .i64 a0), .pure (.int .i64 a1)] [] (fun r => .pure (enc_Interval r)) (fun _ => []) (by kernel_rfl)

noncomputable def angle_sine_T (a0 : Int) : T S_Interval :=
  .call (angle_powersOf_C a0) [] fun y2 =>
  .ix 1 11 rfl <|
  .ix 3 11 rfl <|
  .call (angle_ceiling_C y2.2.2.2.2.1 6) [] fun y6 =>
  .ix 5 11 rfl <|
  .ok ((120 : Int) ≠ 0) (by decide) <|
  .ix 7 11 rfl <|
  .call (angle_ceiling_C y2.2.2.2.2.2.2.2.2.1 5040) [] fun y7 =>
  .conv 2011 (cvLit 1 encI_i64 ([y2.1.2.1, y6, (IntKind.i64.wrap (y2.1.2.2.2.2.2.1.tdiv 120)), y7] : (List Int)) 2) <|
  .call (angle_alternating_C ([y2.1.2.1, y6, (IntKind.i64.wrap (y2.1.2.2.2.2.2.1.tdiv 120)), y7] : (List Int))) [] fun y8 =>
  .ix 1 11 rfl <|
  .ix 3 11 rfl <|
  .ok ((6 : Int) ≠ 0) (by decide) <|
  .ix 5 11 rfl <|
  .call (angle_ceiling_C y2.2.2.2.2.2.2.1 120) [] fun y12 =>
  .ix 7 11 rfl <|
  .ok ((5040 : Int) ≠ 0) (by decide) <|
  .ix 9 11 rfl <|
  .call (angle_ceiling_C y2.2.2.2.2.2.2.2.2.2.2.1 362880) [] fun y13 =>
  .conv 3014 (cvLit 1 encI_i64 ([y2.2.2.1, (IntKind.i64.wrap (y2.1.2.2.2.1.tdiv 6)), y12, (IntKind.i64.wrap (y2.1.2.2.2.2.2.2.2.1.tdiv 5040)), y13] : (List Int)) 2) <|
  .call (angle_alternating_C ([y2.2.2.1, (IntKind.i64.wrap (y2.1.2.2.2.1.tdiv 6)), y12, (IntKind.i64.wrap (y2.1.2.2.2.2.2.2.2.1.tdiv 5040)), y13] : (List Int))) [] fun y14 =>
  .call (angle_enclosure_C y8 y14) [] fun y15 =>
  .ret y15
noncomputable def angle_sine_C (a0 : Int) : CallS S_Interval :=
  mkC [] hd Tryz.func323 (by kernel_rfl) (angle_sine_T a0) 0 [.pure (.int .i64 a0)] [] (fun r => .pure (enc_Interval r)) (fun _ => []) (by kernel_rfl)

noncomputable def angle_cosine_T (a0 : Int) : T S_Interval :=
  .call (angle_powersOf_C a0) [] fun y2 =>
  .ix 2 11 rfl <|
  .call (angle_ceiling_C y2.2.2.2.1 2) [] fun y7 =>
  .ix 4 11 rfl <|
  .ok ((24 : Int) ≠ 0) (by decide) <|
  .ix 6 11 rfl <|
  .call (angle_ceiling_C y2.2.2.2.2.2.2.2.1 720) [] fun y8 =>
  .ix 8 11 rfl <|
  .ok ((40320 : Int) ≠ 0) (by decide) <|
  .ix 10 11 rfl <|
  .call (angle_ceiling_C y2.2.2.2.2.2.2.2.2.2.2.2 3628800) [] fun y9 =>
  .conv 2015 (cvLit 1 encI_i64 ([1073741824, y7, (IntKind.i64.wrap (y2.1.2.2.2.2.1.tdiv 24)), y8, (IntKind.i64.wrap (y2.1.2.2.2.2.2.2.2.2.1.tdiv 40320)), y9] : (List Int)) 2) <|
  .call (angle_alternating_C ([1073741824, y7, (IntKind.i64.wrap (y2.1.2.2.2.2.1.tdiv 24)), y8, (IntKind.i64.wrap (y2.1.2.2.2.2.2.2.2.2.1.tdiv 40320)), y9] : (List Int))) [] fun y10 =>
  .ix 2 11 rfl <|
  .ok ((2 : Int) ≠ 0) (by decide) <|
  .ix 4 11 rfl <|
  .call (angle_ceiling_C y2.2.2.2.2.2.1 24) [] fun y14 =>
  .ix 6 11 rfl <|
  .ok ((720 : Int) ≠ 0) (by decide) <|
  .ix 8 11 rfl <|
  .call (angle_ceiling_C y2.2.2.2.2.2.2.2.2.2.1 40320) [] fun y15 =>
  .conv 3012 (cvLit 1 encI_i64 ([1073741824, (IntKind.i64.wrap (y2.1.2.2.1.tdiv 2)), y14, (IntKind.i64.wrap (y2.1.2.2.2.2.2.2.1.tdiv 720)), y15] : (List Int)) 2) <|
  .call (angle_alternating_C ([1073741824, (IntKind.i64.wrap (y2.1.2.2.1.tdiv 2)), y14, (IntKind.i64.wrap (y2.1.2.2.2.2.2.2.1.tdiv 720)), y15] : (List Int))) [] fun y16 =>
  .call (angle_enclosure_C y10 y16) [] fun y17 =>
  .ret y17
noncomputable def angle_cosine_C (a0 : Int) : CallS S_Interval :=
  mkC [] hd Tryz.func324 (by kernel_rfl) (angle_cosine_T a0) 0 [.pure (.int .i64 a0)] [] (fun r => .pure (enc_Interval r)) (fun _ => []) (by kernel_rfl)

noncomputable def angle_first_T (a0 : Int) : T S_Interval :=
  .br (decide (a0 ≤ 8192))
   (.call (angle_sine_C a0) [] fun y2 =>
   .ret y2)
   (.call (angle_cosine_C (IntKind.i64.wrap (16384 - a0))) [] fun y3 =>
   .ret y3)
noncomputable def angle_first_C (a0 : Int) : CallS S_Interval :=
  mkC [] hd Tryz.func319 (by kernel_rfl) (angle_first_T a0) 0 [.pure (.int .i64 a0)] [] (fun r => .pure (enc_Interval r)) (fun _ => []) (by kernel_rfl)

noncomputable def interval_Neg_T (a0 : S_Interval) : T S_Interval :=
  .call (interval_Valid_C a0) [] fun y4 =>
  .br (!y4)
   (.ret (⟨0, 0⟩ : S_Interval))
   (.ret (⟨(IntKind.i64.wrap (0 - a0.Hi)), (IntKind.i64.wrap (0 - a0.Lo))⟩ : S_Interval))
noncomputable def interval_Neg_C (a0 : S_Interval) : CallS S_Interval :=
  mkC [] hd Tryz.func305 (by kernel_rfl) (interval_Neg_T a0) 0 [.pure (enc_Interval a0)] [] (fun r => .pure (enc_Interval r)) (fun _ => []) (by kernel_rfl)

noncomputable def angle_Sin_T (a0 : Int) : T S_Interval :=
  .call (angle_modTurn_C a0) [] fun y2 =>
  .ok ((16384 : Int) ≠ 0) (by decide) <|
  .ok ((16384 : Int) ≠ 0) (by decide) <|
  .br ((IntKind.i64.wrap (y2.tdiv 16384)) == 0)
   (.call (angle_first_C (y2.tmod 16384)) [] fun y3 =>
   .ret y3)
   (.br ((IntKind.i64.wrap (y2.tdiv 16384)) == 1)
    (.call (angle_first_C (IntKind.i64.wrap (16384 - (y2.tmod 16384)))) [] fun y4 =>
    .ret y4)
    (.br ((IntKind.i64.wrap (y2.tdiv 16384)) == 2)
     (.call (angle_first_C (y2.tmod 16384)) [] fun y5 =>
     .call (interval_Neg_C y5) [] fun y6 =>
     .ret y6)
     (.call (angle_first_C (IntKind.i64.wrap (16384 - (y2.tmod 16384)))) [] fun y7 =>
     .call (interval_Neg_C y7) [] fun y8 =>
     .ret y8)))
noncomputable def angle_Sin_C (a0 : Int) : CallS S_Interval :=
  mkC [] hd Tryz.func312 (by kernel_rfl) (angle_Sin_T a0) 0 [.pure (.int .i64 a0)] [] (fun r => .pure (enc_Interval r)) (fun _ => []) (by kernel_rfl)

noncomputable def angle_Cos_T (a0 : Int) : T S_Interval :=
  .call (angle_modTurn_C a0) [] fun y1 =>
  .call (angle_Sin_C (IntKind.i64.wrap (y1 + 16384))) [] fun y2 =>
  .ret y2
noncomputable def angle_Cos_C (a0 : Int) : CallS S_Interval :=
  mkC [] hd Tryz.func311 (by kernel_rfl) (angle_Cos_T a0) 0 [.pure (.int .i64 a0)] [] (fun r => .pure (enc_Interval r)) (fun _ => []) (by kernel_rfl)

noncomputable def interval_Hull_T (a0 : S_Interval) (a1 : S_Interval) : T S_Interval :=
  .call (interval_valid_C a0 a1) [] fun y4 =>
  .br (!y4)
   (.ret (⟨0, 0⟩ : S_Interval))
   (.ret (⟨(min a0.Lo a1.Lo), (max a0.Hi a1.Hi)⟩ : S_Interval))
noncomputable def interval_Hull_C (a0 : S_Interval) (a1 : S_Interval) : CallS S_Interval :=
  mkC [] hd Tryz.func316 (by kernel_rfl) (interval_Hull_T a0 a1) 0 [.pure (enc_Interval a0), .pure (enc_Interval a1)] [] (fun r => .pure (enc_Interval r)) (fun _ => []) (by kernel_rfl)

noncomputable def interval_Has_T (a0 : S_Interval) (a1 : Int) : T Bool :=
  .call (interval_Valid_C a0) [] fun y1 =>
  .br y1
   (.br (decide (a0.Lo ≤ a1))
    (.ret (decide (a1 ≤ a0.Hi)))
    (.ret false))
   (.ret false)
noncomputable def interval_Has_C (a0 : S_Interval) (a1 : Int) : CallS Bool :=
  mkC [] hd Tryz.func322 (by kernel_rfl) (interval_Has_T a0 a1) 0 [.pure (enc_Interval a0), .pure (.int .i64 a1)] [] (fun r => .pure (.bool r)) (fun _ => []) (by kernel_rfl)

noncomputable def angle_meets_T (a0 : S_Interval) (a1 : Int) : T Bool :=
  .call (angle_modTurn_C (IntKind.i64.wrap (a1 - a0.Lo))) [] fun y1 =>
  .call (interval_Has_C a0 (IntKind.i64.wrap (a0.Lo + y1))) [] fun y2 =>
  .ret y2
noncomputable def angle_meets_C (a0 : S_Interval) (a1 : Int) : CallS Bool :=
  mkC [] hd Tryz.func317 (by kernel_rfl) (angle_meets_T a0 a1) 0 [.pure (enc_Interval a0), .pure (.int .i64 a1)] [] (fun r => .pure (.bool r)) (fun _ => []) (by kernel_rfl)

noncomputable def angle_over_T (a0 : S_Interval) (a1 : Int) (a2 : Int) : T S_Interval :=
  .call (interval_Valid_C a0) [] fun y4 =>
  .br (!y4)
   (.ret (⟨0, 0⟩ : S_Interval))
   (.call (interval_Width_C a0) [] fun y8 =>
   .br (decide (y8 ≥ 65536))
    (.ret (⟨(-65536), 65536⟩ : S_Interval))
    (.call (angle_Cos_C a0.Lo) [] fun y12 =>
    .call (angle_Cos_C a0.Hi) [] fun y13 =>
    .call (interval_Hull_C y12 y13) [] fun y14 =>
    .cut 0 (fun (y23 : (Int × Int)) => ⟨[(3, .pure (.int .i64 a2)), (4, .ptr 0 0), (8, .ptr 1 0), (9, .ptr 2 0)], [(0, .box [.pure (.int .i64 a0.Lo), .pure (.int .i64 a0.Hi)]), (1, .box [.pure (.int .i64 0), .pure (.int .i64 0)]), (2, .box [.pure (.int .i64 y23.1), .pure (.int .i64 y23.2)])], [], 3⟩)
     (.call (angle_meets_C a0 a1) [] fun y25 =>
     .br y25
      (.call (interval_Of_C 65536) [] fun y26 =>
      .call (interval_Hull_C y14 y26) [] fun y27 =>
      .ret (.out (y27.Lo, y27.Hi)))
      (.ret (.out (y14.Lo, y14.Hi)))) fun y23 =>
    .cut 0 (fun (y36 : (Int × Int)) => ⟨[(8, .ptr 0 0), (9, .ptr 1 0)], [(0, .box [.pure (.int .i64 0), .pure (.int .i64 0)]), (1, .box [.pure (.int .i64 y36.1), .pure (.int .i64 y36.2)])], [], 2⟩)
     (.call (angle_meets_C a0 a2) [] fun y38 =>
     .br y38
      (.call (interval_Of_C (-65536)) [] fun y39 =>
      .call (interval_Hull_C (⟨y23.1, y23.2⟩ : S_Interval) y39) [] fun y40 =>
      .ret (.out (y40.Lo, y40.Hi)))
      (.ret (.out (y23.1, y23.2)))) fun y36 =>
    .ret (⟨y36.1, y36.2⟩ : S_Interval)))
noncomputable def angle_over_C (a0 : S_Interval) (a1 : Int) (a2 : Int) : CallS S_Interval :=
  mkC [] hd Tryz.func310 (by kernel_rfl) (angle_over_T a0 a1 a2) 0 [.pure (enc_Interval a0), .func 311 [] [], .pure (.int .i64 a1), .pure (.int .i64 a2)] [] (fun r => .pure (enc_Interval r)) (fun _ => []) (by kernel_rfl)

noncomputable def angle_CosOver_T (a0 : S_Interval) : T S_Interval :=
  .call (angle_over_C a0 0 32768) [] fun y1 =>
  .ret y1
noncomputable def angle_CosOver_C (a0 : S_Interval) : CallS S_Interval :=
  mkC [] hd Tryz.func303 (by kernel_rfl) (angle_CosOver_T a0) 0 [.pure (enc_Interval a0)] [] (fun r => .pure (enc_Interval r)) (fun _ => []) (by kernel_rfl)

noncomputable def angle_over_1_T (a0 : S_Interval) (a1 : Int) (a2 : Int) : T S_Interval :=
  .call (interval_Valid_C a0) [] fun y4 =>
  .br (!y4)
   (.ret (⟨0, 0⟩ : S_Interval))
   (.call (interval_Width_C a0) [] fun y8 =>
   .br (decide (y8 ≥ 65536))
    (.ret (⟨(-65536), 65536⟩ : S_Interval))
    (.call (angle_Sin_C a0.Lo) [] fun y12 =>
    .call (angle_Sin_C a0.Hi) [] fun y13 =>
    .call (interval_Hull_C y12 y13) [] fun y14 =>
    .cut 0 (fun (y23 : (Int × Int)) => ⟨[(3, .pure (.int .i64 a2)), (4, .ptr 0 0), (8, .ptr 1 0), (9, .ptr 2 0)], [(0, .box [.pure (.int .i64 a0.Lo), .pure (.int .i64 a0.Hi)]), (1, .box [.pure (.int .i64 0), .pure (.int .i64 0)]), (2, .box [.pure (.int .i64 y23.1), .pure (.int .i64 y23.2)])], [], 3⟩)
     (.call (angle_meets_C a0 a1) [] fun y25 =>
     .br y25
      (.call (interval_Of_C 65536) [] fun y26 =>
      .call (interval_Hull_C y14 y26) [] fun y27 =>
      .ret (.out (y27.Lo, y27.Hi)))
      (.ret (.out (y14.Lo, y14.Hi)))) fun y23 =>
    .cut 0 (fun (y36 : (Int × Int)) => ⟨[(8, .ptr 0 0), (9, .ptr 1 0)], [(0, .box [.pure (.int .i64 0), .pure (.int .i64 0)]), (1, .box [.pure (.int .i64 y36.1), .pure (.int .i64 y36.2)])], [], 2⟩)
     (.call (angle_meets_C a0 a2) [] fun y38 =>
     .br y38
      (.call (interval_Of_C (-65536)) [] fun y39 =>
      .call (interval_Hull_C (⟨y23.1, y23.2⟩ : S_Interval) y39) [] fun y40 =>
      .ret (.out (y40.Lo, y40.Hi)))
      (.ret (.out (y23.1, y23.2)))) fun y36 =>
    .ret (⟨y36.1, y36.2⟩ : S_Interval)))
noncomputable def angle_over_1_C (a0 : S_Interval) (a1 : Int) (a2 : Int) : CallS S_Interval :=
  mkC [] hd Tryz.func310 (by kernel_rfl) (angle_over_1_T a0 a1 a2) 0 [.pure (enc_Interval a0), .func 312 [] [], .pure (.int .i64 a1), .pure (.int .i64 a2)] [] (fun r => .pure (enc_Interval r)) (fun _ => []) (by kernel_rfl)

noncomputable def angle_SinOver_T (a0 : S_Interval) : T S_Interval :=
  .call (angle_over_1_C a0 16384 49152) [] fun y1 =>
  .ret y1
noncomputable def angle_SinOver_C (a0 : S_Interval) : CallS S_Interval :=
  mkC [] hd Tryz.func304 (by kernel_rfl) (angle_SinOver_T a0) 0 [.pure (enc_Interval a0)] [] (fun r => .pure (enc_Interval r)) (fun _ => []) (by kernel_rfl)

noncomputable def matrix_Turn_T (a0 : Int) (a1 : S_Interval) : T ((S_Interval × S_Interval × S_Interval) × (S_Interval × S_Interval × S_Interval) × (S_Interval × S_Interval × S_Interval)) :=
  .call (interval_Valid_C a1) [] fun y4 =>
  .br (!y4)
   (.ret (((⟨0, 0⟩ : S_Interval), (⟨0, 0⟩ : S_Interval), (⟨0, 0⟩ : S_Interval)), ((⟨0, 0⟩ : S_Interval), (⟨0, 0⟩ : S_Interval), (⟨0, 0⟩ : S_Interval)), ((⟨0, 0⟩ : S_Interval), (⟨0, 0⟩ : S_Interval), (⟨0, 0⟩ : S_Interval))))
   (.call (angle_CosOver_C (⟨a1.Lo, a1.Hi⟩ : S_Interval)) [] fun y7 =>
   .call (angle_SinOver_C (⟨a1.Lo, a1.Hi⟩ : S_Interval)) [] fun y8 =>
   .call (interval_Neg_C y8) [] fun y12 =>
   .call (interval_Of_C 65536) [] fun y13 =>
   .call (interval_Of_C 0) [] fun y14 =>
   .br (a0 == 0)
    (.ret ((y13, y14, y14), (y14, y7, y12), (y14, y8, y7)))
    (.br (a0 == 1)
     (.ret ((y7, y14, y8), (y14, y13, y14), (y12, y14, y7)))
     (.br (a0 == 2)
      (.ret ((y7, y12, y14), (y8, y7, y14), (y14, y14, y13)))
      (.ret (((⟨0, 0⟩ : S_Interval), (⟨0, 0⟩ : S_Interval), (⟨0, 0⟩ : S_Interval)), ((⟨0, 0⟩ : S_Interval), (⟨0, 0⟩ : S_Interval), (⟨0, 0⟩ : S_Interval)), ((⟨0, 0⟩ : S_Interval), (⟨0, 0⟩ : S_Interval), (⟨0, 0⟩ : S_Interval)))))))
noncomputable def matrix_Turn_C (a0 : Int) (a1 : S_Interval) : CallS ((S_Interval × S_Interval × S_Interval) × (S_Interval × S_Interval × S_Interval) × (S_Interval × S_Interval × S_Interval)) :=
  mkC [] hd Tryz.func299 (by kernel_rfl) (matrix_Turn_T a0 a1) 0 [.pure (.int .i64 a0), .pure (enc_Interval a1)] [] (fun r => .pure (enc_arr_3_3_Interval r)) (fun _ => []) (by kernel_rfl)

noncomputable def pose_Turn_T (a0 : Int) (a1 : S_Interval) : T S_Pose :=
  .call (matrix_Turn_C a0 (⟨a1.Lo, a1.Hi⟩ : S_Interval)) [] fun y1 =>
  .call (pose_still_C) [] fun y2 =>
  .ret (⟨y1, y2⟩ : S_Pose)
noncomputable def pose_Turn_C (a0 : Int) (a1 : S_Interval) : CallS S_Pose :=
  mkC [] hd Tryz.func286 (by kernel_rfl) (pose_Turn_T a0 a1) 0 [.pure (.int .i64 a0), .pure (enc_Interval a1)] [] (fun r => .pure (enc_Pose r)) (fun _ => []) (by kernel_rfl)

noncomputable def axis_turn_T (a0 : Int) (a1 : S_Interval) : T S_Pose :=
  .call (pose_Turn_C a0 (⟨a1.Lo, a1.Hi⟩ : S_Interval)) [] fun y1 =>
  .ret y1
noncomputable def axis_turn_C (a0 : Int) (a1 : S_Interval) : CallS S_Pose :=
  mkC [] hd Tryz.func268 (by kernel_rfl) (axis_turn_T a0 a1) 0 [.pure (.int .i64 a0), .pure (enc_Interval a1)] [] (fun r => .pure (enc_Pose r)) (fun _ => []) (by kernel_rfl)

noncomputable def kinematics_Joint_T (a0 : S_Joint) (a1 : S_Interval) : T S_Pose :=
  .call (matrix_Point_C a0.Offset) [] fun y1 =>
  .call (pose_Shift_C ((⟨y1.1.Lo, y1.1.Hi⟩ : S_Interval), (⟨y1.2.1.Lo, y1.2.1.Hi⟩ : S_Interval), (⟨y1.2.2.Lo, y1.2.2.Hi⟩ : S_Interval))) [] fun y2 =>
  .split (((kinematics_motionOf_v0_C a0.Kind).o).isSome)
   (.call (kinematics_motionOf_v0_C a0.Kind) [] fun y9 =>
   .call (axis_turn_C y9 (⟨a1.Lo, a1.Hi⟩ : S_Interval)) [] fun y10 =>
   .call (pose_Compose_C (⟨y2.R, y2.T⟩ : S_Pose) y10) [] fun y11 =>
   .ret y11)
   (.split (((kinematics_motionOf_v1_C a0.Kind).o).isSome)
    (.call (kinematics_motionOf_v1_C a0.Kind) [] fun y6 =>
    .call (axis_slide_C y6 a1) [] fun y7 =>
    .call (pose_Compose_C y2 y7) [] fun y8 =>
    .ret y8)
    (.call (kinematics_motionOf_v2_C a0.Kind) [] fun y3 =>
    .call (axis_rest_C y3 a1) [] fun y4 =>
    .call (pose_Compose_C (⟨y2.R, y2.T⟩ : S_Pose) (⟨y4.R, y4.T⟩ : S_Pose)) [] fun y5 =>
    .ret y5))
noncomputable def kinematics_Joint_C (a0 : S_Joint) (a1 : S_Interval) : CallS S_Pose :=
  mkC [] hd Tryz.func225 (by kernel_rfl) (kinematics_Joint_T a0 a1) 0 [.pure (enc_Joint a0), .pure (enc_Interval a1)] [] (fun r => .pure (enc_Pose r)) (fun _ => []) (by kernel_rfl)
end Go.Abs
