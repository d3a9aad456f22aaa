/-
  DS (a part of a claim: our own text).
-/
import Derived.Test.YtkjkbdobenmgbaaGreatXNDL1
import Derived.Test.YtkjkbdobenmgbaaGreatXNDL2
import Derived.Sort.AssemblyPlain
namespace Go.Abs
variable {α : Type} [Inhabited α]
noncomputable def fzw (cmp : α → α → Option Int) (a0 : (List α)) (a1 : Nat) (a2 : Nat) (a3 : Int) (a4 : Int) : Option (List α) :=
  andK (iter (fun x221 =>
   bif (decide (x221.2 < a4)) then
    (andK (iter (fun x313 =>
     andC (bif (decide (x313.2 > a3)) then
       (grd (0 ≤ x313.2 ∧ x313.2 < ((a2 : Nat) : Int)) <|
       grd ((a1 + ((x313.2).toNat)) < x313.1.length) <|
       grd (0 ≤ (IntKind.i64.wrap (x313.2 - 1)) ∧ (IntKind.i64.wrap (x313.2 - 1)) < ((a2 : Nat) : Int)) <|
       grd ((a1 + (((IntKind.i64.wrap (x313.2 - 1))).toNat)) < x313.1.length) <|
       (cmp (x313.1.getD (a1 + ((x313.2).toNat)) default) (x313.1.getD (a1 + (((IntKind.i64.wrap (x313.2 - 1))).toNat)) default)).bind fun y330 =>
       some (.out (decide (y330 < 0))))
      else
       (some (.out false))) fun y329 =>
     bif y329 then
      (grd (0 ≤ (IntKind.i64.wrap (x313.2 - 1)) ∧ (IntKind.i64.wrap (x313.2 - 1)) < ((a2 : Nat) : Int)) <|
      grd ((a1 + (((IntKind.i64.wrap (x313.2 - 1))).toNat)) < x313.1.length) <|
      grd (0 ≤ x313.2 ∧ x313.2 < ((a2 : Nat) : Int)) <|
      grd ((a1 + ((x313.2).toNat)) < x313.1.length) <|
      grd (0 ≤ x313.2 ∧ x313.2 < ((a2 : Nat) : Int)) <|
      grd ((a1 + ((x313.2).toNat)) < x313.1.length ∧ 0 ≤ (a1 + ((x313.2).toNat))) <|
      grd (0 ≤ (IntKind.i64.wrap (x313.2 - 1)) ∧ (IntKind.i64.wrap (x313.2 - 1)) < ((a2 : Nat) : Int)) <|
      grd ((a1 + (((IntKind.i64.wrap (x313.2 - 1))).toNat)) < (x313.1.set (a1 + ((x313.2).toNat)) (x313.1.getD (a1 + (((IntKind.i64.wrap (x313.2 - 1))).toNat)) default)).length ∧ 0 ≤ (a1 + (((IntKind.i64.wrap (x313.2 - 1))).toNat))) <|
      some (.next (((x313.1.set (a1 + ((x313.2).toNat)) (x313.1.getD (a1 + (((IntKind.i64.wrap (x313.2 - 1))).toNat)) default)).set (a1 + (((IntKind.i64.wrap (x313.2 - 1))).toNat)) (x313.1.getD (a1 + ((x313.2).toNat)) default)), (IntKind.i64.wrap (x313.2 - 1)))))
     else
      (some (.out x313.1))) NN (x221.1, x221.2)) fun y322 =>
    some (.next (y322, (IntKind.i64.wrap (x221.2 + 1)))))
   else
    (some (.out x221.1))) NN (a0, (IntKind.i64.wrap (a3 + 1)))) fun y276 =>
  some y276
noncomputable def lz4 (cmp : α → α → Option Int) (a0 : (List α)) (a1 : Nat) (a2 : Nat) (a3 : Int) (a4 : Int) (a5 : Int) : Option (List α) :=
  andK (iter (fun x73 =>
   bif (decide ((IntKind.i64.wrap ((IntKind.i64.wrap (2 * x73.2)) + 1)) ≥ a4)) then
    (some (.out x73.1))
   else
    (andC (andC (bif (decide ((IntKind.i64.wrap ((IntKind.i64.wrap ((IntKind.i64.wrap (2 * x73.2)) + 1)) + 1)) < a4)) then
       (grd (0 ≤ (IntKind.i64.wrap (a5 + (IntKind.i64.wrap ((IntKind.i64.wrap (2 * x73.2)) + 1)))) ∧ (IntKind.i64.wrap (a5 + (IntKind.i64.wrap ((IntKind.i64.wrap (2 * x73.2)) + 1)))) < ((a2 : Nat) : Int)) <|
       grd ((a1 + (((IntKind.i64.wrap (a5 + (IntKind.i64.wrap ((IntKind.i64.wrap (2 * x73.2)) + 1))))).toNat)) < x73.1.length) <|
       grd (0 ≤ (IntKind.i64.wrap ((IntKind.i64.wrap (a5 + (IntKind.i64.wrap ((IntKind.i64.wrap (2 * x73.2)) + 1)))) + 1)) ∧ (IntKind.i64.wrap ((IntKind.i64.wrap (a5 + (IntKind.i64.wrap ((IntKind.i64.wrap (2 * x73.2)) + 1)))) + 1)) < ((a2 : Nat) : Int)) <|
       grd ((a1 + (((IntKind.i64.wrap ((IntKind.i64.wrap (a5 + (IntKind.i64.wrap ((IntKind.i64.wrap (2 * x73.2)) + 1)))) + 1))).toNat)) < x73.1.length) <|
       (cmp (x73.1.getD (a1 + (((IntKind.i64.wrap (a5 + (IntKind.i64.wrap ((IntKind.i64.wrap (2 * x73.2)) + 1))))).toNat)) default) (x73.1.getD (a1 + (((IntKind.i64.wrap ((IntKind.i64.wrap (a5 + (IntKind.i64.wrap ((IntKind.i64.wrap (2 * x73.2)) + 1)))) + 1))).toNat)) default)).bind fun y104 =>
       some (.out (decide (y104 < 0))))
      else
       (some (.out false))) fun y103 =>
     bif y103 then
      (some (.out (IntKind.i64.wrap ((IntKind.i64.wrap ((IntKind.i64.wrap (2 * x73.2)) + 1)) + 1))))
     else
      (some (.out (IntKind.i64.wrap ((IntKind.i64.wrap (2 * x73.2)) + 1))))) fun y100 =>
    grd (0 ≤ (IntKind.i64.wrap (a5 + x73.2)) ∧ (IntKind.i64.wrap (a5 + x73.2)) < ((a2 : Nat) : Int)) <|
    grd ((a1 + (((IntKind.i64.wrap (a5 + x73.2))).toNat)) < x73.1.length) <|
    grd (0 ≤ (IntKind.i64.wrap (a5 + y100)) ∧ (IntKind.i64.wrap (a5 + y100)) < ((a2 : Nat) : Int)) <|
    grd ((a1 + (((IntKind.i64.wrap (a5 + y100))).toNat)) < x73.1.length) <|
    (cmp (x73.1.getD (a1 + (((IntKind.i64.wrap (a5 + x73.2))).toNat)) default) (x73.1.getD (a1 + (((IntKind.i64.wrap (a5 + y100))).toNat)) default)).bind fun y108 =>
    bif (!(decide (y108 < 0))) then
     (some (.fin x73.1))
    else
     (grd (0 ≤ (IntKind.i64.wrap (a5 + y100)) ∧ (IntKind.i64.wrap (a5 + y100)) < ((a2 : Nat) : Int)) <|
     grd ((a1 + (((IntKind.i64.wrap (a5 + y100))).toNat)) < x73.1.length) <|
     grd (0 ≤ (IntKind.i64.wrap (a5 + x73.2)) ∧ (IntKind.i64.wrap (a5 + x73.2)) < ((a2 : Nat) : Int)) <|
     grd ((a1 + (((IntKind.i64.wrap (a5 + x73.2))).toNat)) < x73.1.length) <|
     grd (0 ≤ (IntKind.i64.wrap (a5 + x73.2)) ∧ (IntKind.i64.wrap (a5 + x73.2)) < ((a2 : Nat) : Int)) <|
     grd ((a1 + (((IntKind.i64.wrap (a5 + x73.2))).toNat)) < x73.1.length ∧ 0 ≤ (a1 + (((IntKind.i64.wrap (a5 + x73.2))).toNat))) <|
     grd (0 ≤ (IntKind.i64.wrap (a5 + y100)) ∧ (IntKind.i64.wrap (a5 + y100)) < ((a2 : Nat) : Int)) <|
     grd ((a1 + (((IntKind.i64.wrap (a5 + y100))).toNat)) < (x73.1.set (a1 + (((IntKind.i64.wrap (a5 + x73.2))).toNat)) (x73.1.getD (a1 + (((IntKind.i64.wrap (a5 + y100))).toNat)) default)).length ∧ 0 ≤ (a1 + (((IntKind.i64.wrap (a5 + y100))).toNat))) <|
     some (.next (((x73.1.set (a1 + (((IntKind.i64.wrap (a5 + x73.2))).toNat)) (x73.1.getD (a1 + (((IntKind.i64.wrap (a5 + y100))).toNat)) default)).set (a1 + (((IntKind.i64.wrap (a5 + y100))).toNat)) (x73.1.getD (a1 + (((IntKind.i64.wrap (a5 + x73.2))).toNat)) default)), y100))))) NN (a0, a3)) fun y91 =>
  some y91
noncomputable def mzu (cmp : α → α → Option Int) (a0 : (List α)) (a1 : Nat) (a2 : Nat) (a3 : Int) (a4 : Int) : Option (List α) :=
  andK (iter (fun x40 =>
   bif (decide (x40.2 ≥ 0)) then
    ((lz4 cmp x40.1 a1 a2 x40.2 (IntKind.i64.wrap (a4 - a3)) a3).bind fun y45 =>
    some (.next (y45, (IntKind.i64.wrap (x40.2 - 1)))))
   else
    (some (.out x40.1))) NN (a0, (IntKind.i64.wrap ((IntKind.i64.wrap ((IntKind.i64.wrap (a4 - a3)) - 1)).tdiv 2)))) fun y43 =>
  andK (iter (fun x49 =>
   bif (decide (x49.2 ≥ 0)) then
    (grd (0 ≤ (IntKind.i64.wrap (a3 + x49.2)) ∧ (IntKind.i64.wrap (a3 + x49.2)) < ((a2 : Nat) : Int)) <|
    grd ((a1 + (((IntKind.i64.wrap (a3 + x49.2))).toNat)) < x49.1.length) <|
    grd (0 ≤ a3 ∧ a3 < ((a2 : Nat) : Int)) <|
    grd ((a1 + ((a3).toNat)) < x49.1.length) <|
    grd (0 ≤ a3 ∧ a3 < ((a2 : Nat) : Int)) <|
    grd ((a1 + ((a3).toNat)) < x49.1.length ∧ 0 ≤ (a1 + ((a3).toNat))) <|
    grd (0 ≤ (IntKind.i64.wrap (a3 + x49.2)) ∧ (IntKind.i64.wrap (a3 + x49.2)) < ((a2 : Nat) : Int)) <|
    grd ((a1 + (((IntKind.i64.wrap (a3 + x49.2))).toNat)) < (x49.1.set (a1 + ((a3).toNat)) (x49.1.getD (a1 + (((IntKind.i64.wrap (a3 + x49.2))).toNat)) default)).length ∧ 0 ≤ (a1 + (((IntKind.i64.wrap (a3 + x49.2))).toNat))) <|
    (lz4 cmp ((x49.1.set (a1 + ((a3).toNat)) (x49.1.getD (a1 + (((IntKind.i64.wrap (a3 + x49.2))).toNat)) default)).set (a1 + (((IntKind.i64.wrap (a3 + x49.2))).toNat)) (x49.1.getD (a1 + ((a3).toNat)) default)) a1 a2 0 x49.2 a3).bind fun y54 =>
    some (.next (y54, (IntKind.i64.wrap (x49.2 - 1)))))
   else
    (some (.out x49.1))) NN (y43, (IntKind.i64.wrap ((IntKind.i64.wrap (a4 - a3)) - 1)))) fun y52 =>
  some y52
noncomputable def ozv (cmp : α → α → Option Int) (a0 : (List α)) (a1 : Nat) (a2 : Nat) (a3 : Int) (a4 : Int) (a5 : Int) : Option (Int × Int × Int) :=
  grd (0 ≤ a4 ∧ a4 < ((a2 : Nat) : Int)) <|
  grd ((a1 + ((a4).toNat)) < a0.length) <|
  grd (0 ≤ a3 ∧ a3 < ((a2 : Nat) : Int)) <|
  grd ((a1 + ((a3).toNat)) < a0.length) <|
  (cmp (a0.getD (a1 + ((a4).toNat)) default) (a0.getD (a1 + ((a3).toNat)) default)).bind fun y8 =>
  bif (decide (y8 < 0)) then
   (some (a4, a3, (IntKind.i64.wrap (a5 + 1))))
  else
   (some (a3, a4, a5))
noncomputable def qzt (cmp : α → α → Option Int) (a0 : (List α)) (a1 : Nat) (a2 : Nat) (a3 : Int) (a4 : Int) (a5 : Int) (a6 : Int) : Option (Int × Int) :=
  (ozv cmp a0 a1 a2 a3 a4 a6).bind fun y8 =>
  (ozv cmp a0 a1 a2 y8.2.1 a5 y8.2.2).bind fun y10 =>
  (ozv cmp a0 a1 a2 y8.1 y10.1 y10.2.2).bind fun y12 =>
  some (y12.2.1, y12.2.2)
noncomputable def dzg (cmp : α → α → Option Int) (a0 : (List α)) (a1 : Nat) (a2 : Nat) (a3 : Int) (a4 : Int) : Option (Int × Int) :=
  (qzt cmp a0 a1 a2 (IntKind.i64.wrap (a3 - 1)) a3 (IntKind.i64.wrap (a3 + 1)) a4).bind fun y2 =>
  some (y2.1, y2.2)
noncomputable def iz9 (cmp : α → α → Option Int) (a0 : (List α)) (a1 : Nat) (a2 : Nat) (a3 : Int) (a4 : Int) : Option (Int × Int) :=
  andC (bif (decide ((IntKind.i64.wrap (a4 - a3)) ≥ 8)) then
    (andC (bif (decide ((IntKind.i64.wrap (a4 - a3)) ≥ 50)) then
      ((dzg cmp a0 a1 a2 (IntKind.i64.wrap (a3 + (IntKind.i64.wrap ((IntKind.i64.wrap ((IntKind.i64.wrap (a4 - a3)).tdiv 4)) * 1)))) 0).bind fun y48 =>
      (dzg cmp a0 a1 a2 (IntKind.i64.wrap (a3 + (IntKind.i64.wrap ((IntKind.i64.wrap ((IntKind.i64.wrap (a4 - a3)).tdiv 4)) * 2)))) y48.2).bind fun y50 =>
      (dzg cmp a0 a1 a2 (IntKind.i64.wrap (a3 + (IntKind.i64.wrap ((IntKind.i64.wrap ((IntKind.i64.wrap (a4 - a3)).tdiv 4)) * 3)))) y50.2).bind fun y51 =>
      some (.out (y51.2, y48.1, y50.1, y51.1)))
     else
      (some (.out (0, (IntKind.i64.wrap (a3 + (IntKind.i64.wrap ((IntKind.i64.wrap ((IntKind.i64.wrap (a4 - a3)).tdiv 4)) * 1)))), (IntKind.i64.wrap (a3 + (IntKind.i64.wrap ((IntKind.i64.wrap ((IntKind.i64.wrap (a4 - a3)).tdiv 4)) * 2)))), (IntKind.i64.wrap (a3 + (IntKind.i64.wrap ((IntKind.i64.wrap ((IntKind.i64.wrap (a4 - a3)).tdiv 4)) * 3)))))))) fun y46 =>
    (qzt cmp a0 a1 a2 y46.2.1 y46.2.2.1 y46.2.2.2 y46.1).bind fun y52 =>
    some (.out (y52.2, y52.1)))
   else
    (some (.out (0, (IntKind.i64.wrap (a3 + (IntKind.i64.wrap ((IntKind.i64.wrap ((IntKind.i64.wrap (a4 - a3)).tdiv 4)) * 2)))))))) fun y35 =>
  bif (y35.1 == 0) then
   (some (y35.2, 1))
  else
   (bif (y35.1 == 12) then
    (some (y35.2, 2))
   else
    (some (y35.2, 0)))
noncomputable def gzs (cmp : α → α → Option Int) (a0 : (List α)) (a1 : Nat) (a2 : Nat) (a3 : Int) (a4 : Int) : Option (List α) :=
  andK (iter (fun x5 =>
   bif (decide (x5.2.1 < x5.2.2)) then
    (grd (0 ≤ x5.2.2 ∧ x5.2.2 < ((a2 : Nat) : Int)) <|
    grd ((a1 + ((x5.2.2).toNat)) < x5.1.length) <|
    grd (0 ≤ x5.2.1 ∧ x5.2.1 < ((a2 : Nat) : Int)) <|
    grd ((a1 + ((x5.2.1).toNat)) < x5.1.length) <|
    grd (0 ≤ x5.2.1 ∧ x5.2.1 < ((a2 : Nat) : Int)) <|
    grd ((a1 + ((x5.2.1).toNat)) < x5.1.length ∧ 0 ≤ (a1 + ((x5.2.1).toNat))) <|
    grd (0 ≤ x5.2.2 ∧ x5.2.2 < ((a2 : Nat) : Int)) <|
    grd ((a1 + ((x5.2.2).toNat)) < (x5.1.set (a1 + ((x5.2.1).toNat)) (x5.1.getD (a1 + ((x5.2.2).toNat)) default)).length ∧ 0 ≤ (a1 + ((x5.2.2).toNat))) <|
    some (.next (((x5.1.set (a1 + ((x5.2.1).toNat)) (x5.1.getD (a1 + ((x5.2.2).toNat)) default)).set (a1 + ((x5.2.2).toNat)) (x5.1.getD (a1 + ((x5.2.1).toNat)) default)), (IntKind.i64.wrap (x5.2.1 + 1)), (IntKind.i64.wrap (x5.2.2 - 1)))))
   else
    (some (.out x5.1))) NN (a0, a3, (IntKind.i64.wrap (a4 - 1)))) fun y6 =>
  some y6
noncomputable def cze (cmp : α → α → Option Int) (a0 : (List α)) (a1 : Nat) (a2 : Nat) (a3 : Int) (a4 : Int) : Option (Bool × (List α)) :=
  andK (iter (fun x4911 =>
   bif (decide (x4911.2.2 < 5)) then
    (andC (andK (iter (fun x5766 =>
      andC (bif (decide (x5766 < a4)) then
        (grd (0 ≤ x5766 ∧ x5766 < ((a2 : Nat) : Int)) <|
        grd ((a1 + ((x5766).toNat)) < x4911.1.length) <|
        grd (0 ≤ (IntKind.i64.wrap (x5766 - 1)) ∧ (IntKind.i64.wrap (x5766 - 1)) < ((a2 : Nat) : Int)) <|
        grd ((a1 + (((IntKind.i64.wrap (x5766 - 1))).toNat)) < x4911.1.length) <|
        (cmp (x4911.1.getD (a1 + ((x5766).toNat)) default) (x4911.1.getD (a1 + (((IntKind.i64.wrap (x5766 - 1))).toNat)) default)).bind fun y5783 =>
        some (.out (!(decide (y5783 < 0)))))
       else
        (some (.out false))) fun y5782 =>
      bif y5782 then
       (some (.next (IntKind.i64.wrap (x5766 + 1))))
      else
       (some (.out x5766))) NN x4911.2.1) fun y5775 =>
     bif (y5775 == a4) then
      (some (.fin (.fin (true, x4911.1))))
     else
      (bif (decide ((IntKind.i64.wrap (a4 - a3)) < 50)) then
       (some (.fin (.fin (false, x4911.1))))
      else
       (grd (0 ≤ (IntKind.i64.wrap (y5775 - 1)) ∧ (IntKind.i64.wrap (y5775 - 1)) < ((a2 : Nat) : Int)) <|
       grd ((a1 + (((IntKind.i64.wrap (y5775 - 1))).toNat)) < x4911.1.length) <|
       grd (0 ≤ y5775 ∧ y5775 < ((a2 : Nat) : Int)) <|
       grd ((a1 + ((y5775).toNat)) < x4911.1.length) <|
       grd (0 ≤ y5775 ∧ y5775 < ((a2 : Nat) : Int)) <|
       grd ((a1 + ((y5775).toNat)) < x4911.1.length ∧ 0 ≤ (a1 + ((y5775).toNat))) <|
       grd (0 ≤ (IntKind.i64.wrap (y5775 - 1)) ∧ (IntKind.i64.wrap (y5775 - 1)) < ((a2 : Nat) : Int)) <|
       grd ((a1 + (((IntKind.i64.wrap (y5775 - 1))).toNat)) < (x4911.1.set (a1 + ((y5775).toNat)) (x4911.1.getD (a1 + (((IntKind.i64.wrap (y5775 - 1))).toNat)) default)).length ∧ 0 ≤ (a1 + (((IntKind.i64.wrap (y5775 - 1))).toNat))) <|
       andC (bif (decide ((IntKind.i64.wrap (y5775 - a3)) ≥ 2)) then
         (andK (iter (fun x5848 =>
          bif (decide (x5848.2 ≥ 1)) then
           (grd (0 ≤ x5848.2 ∧ x5848.2 < ((a2 : Nat) : Int)) <|
           grd ((a1 + ((x5848.2).toNat)) < x5848.1.length) <|
           grd (0 ≤ (IntKind.i64.wrap (x5848.2 - 1)) ∧ (IntKind.i64.wrap (x5848.2 - 1)) < ((a2 : Nat) : Int)) <|
           grd ((a1 + (((IntKind.i64.wrap (x5848.2 - 1))).toNat)) < x5848.1.length) <|
           (cmp (x5848.1.getD (a1 + ((x5848.2).toNat)) default) (x5848.1.getD (a1 + (((IntKind.i64.wrap (x5848.2 - 1))).toNat)) default)).bind fun y5865 =>
           bif (!(decide (y5865 < 0))) then
            (some (.out x5848.1))
           else
            (grd (0 ≤ (IntKind.i64.wrap (x5848.2 - 1)) ∧ (IntKind.i64.wrap (x5848.2 - 1)) < ((a2 : Nat) : Int)) <|
            grd ((a1 + (((IntKind.i64.wrap (x5848.2 - 1))).toNat)) < x5848.1.length) <|
            grd (0 ≤ x5848.2 ∧ x5848.2 < ((a2 : Nat) : Int)) <|
            grd ((a1 + ((x5848.2).toNat)) < x5848.1.length) <|
            grd (0 ≤ x5848.2 ∧ x5848.2 < ((a2 : Nat) : Int)) <|
            grd ((a1 + ((x5848.2).toNat)) < x5848.1.length ∧ 0 ≤ (a1 + ((x5848.2).toNat))) <|
            grd (0 ≤ (IntKind.i64.wrap (x5848.2 - 1)) ∧ (IntKind.i64.wrap (x5848.2 - 1)) < ((a2 : Nat) : Int)) <|
            grd ((a1 + (((IntKind.i64.wrap (x5848.2 - 1))).toNat)) < (x5848.1.set (a1 + ((x5848.2).toNat)) (x5848.1.getD (a1 + (((IntKind.i64.wrap (x5848.2 - 1))).toNat)) default)).length ∧ 0 ≤ (a1 + (((IntKind.i64.wrap (x5848.2 - 1))).toNat))) <|
            some (.next (((x5848.1.set (a1 + ((x5848.2).toNat)) (x5848.1.getD (a1 + (((IntKind.i64.wrap (x5848.2 - 1))).toNat)) default)).set (a1 + (((IntKind.i64.wrap (x5848.2 - 1))).toNat)) (x5848.1.getD (a1 + ((x5848.2).toNat)) default)), (IntKind.i64.wrap (x5848.2 - 1))))))
          else
           (some (.out x5848.1))) NN (((x4911.1.set (a1 + ((y5775).toNat)) (x4911.1.getD (a1 + (((IntKind.i64.wrap (y5775 - 1))).toNat)) default)).set (a1 + (((IntKind.i64.wrap (y5775 - 1))).toNat)) (x4911.1.getD (a1 + ((y5775).toNat)) default)), (IntKind.i64.wrap (y5775 - 1)))) fun y5857 =>
         some (.out y5857))
        else
         (some (.out ((x4911.1.set (a1 + ((y5775).toNat)) (x4911.1.getD (a1 + (((IntKind.i64.wrap (y5775 - 1))).toNat)) default)).set (a1 + (((IntKind.i64.wrap (y5775 - 1))).toNat)) (x4911.1.getD (a1 + ((y5775).toNat)) default))))) fun y5838 =>
       bif (decide ((IntKind.i64.wrap (a4 - y5775)) ≥ 2)) then
        (andK (iter (fun x5875 =>
         bif (decide (x5875.2 < a4)) then
          (grd (0 ≤ x5875.2 ∧ x5875.2 < ((a2 : Nat) : Int)) <|
          grd ((a1 + ((x5875.2).toNat)) < x5875.1.length) <|
          grd (0 ≤ (IntKind.i64.wrap (x5875.2 - 1)) ∧ (IntKind.i64.wrap (x5875.2 - 1)) < ((a2 : Nat) : Int)) <|
          grd ((a1 + (((IntKind.i64.wrap (x5875.2 - 1))).toNat)) < x5875.1.length) <|
          (cmp (x5875.1.getD (a1 + ((x5875.2).toNat)) default) (x5875.1.getD (a1 + (((IntKind.i64.wrap (x5875.2 - 1))).toNat)) default)).bind fun y5892 =>
          bif (!(decide (y5892 < 0))) then
           (some (.out x5875.1))
          else
           (grd (0 ≤ (IntKind.i64.wrap (x5875.2 - 1)) ∧ (IntKind.i64.wrap (x5875.2 - 1)) < ((a2 : Nat) : Int)) <|
           grd ((a1 + (((IntKind.i64.wrap (x5875.2 - 1))).toNat)) < x5875.1.length) <|
           grd (0 ≤ x5875.2 ∧ x5875.2 < ((a2 : Nat) : Int)) <|
           grd ((a1 + ((x5875.2).toNat)) < x5875.1.length) <|
           grd (0 ≤ x5875.2 ∧ x5875.2 < ((a2 : Nat) : Int)) <|
           grd ((a1 + ((x5875.2).toNat)) < x5875.1.length ∧ 0 ≤ (a1 + ((x5875.2).toNat))) <|
           grd (0 ≤ (IntKind.i64.wrap (x5875.2 - 1)) ∧ (IntKind.i64.wrap (x5875.2 - 1)) < ((a2 : Nat) : Int)) <|
           grd ((a1 + (((IntKind.i64.wrap (x5875.2 - 1))).toNat)) < (x5875.1.set (a1 + ((x5875.2).toNat)) (x5875.1.getD (a1 + (((IntKind.i64.wrap (x5875.2 - 1))).toNat)) default)).length ∧ 0 ≤ (a1 + (((IntKind.i64.wrap (x5875.2 - 1))).toNat))) <|
           some (.next (((x5875.1.set (a1 + ((x5875.2).toNat)) (x5875.1.getD (a1 + (((IntKind.i64.wrap (x5875.2 - 1))).toNat)) default)).set (a1 + (((IntKind.i64.wrap (x5875.2 - 1))).toNat)) (x5875.1.getD (a1 + ((x5875.2).toNat)) default)), (IntKind.i64.wrap (x5875.2 + 1))))))
         else
          (some (.out x5875.1))) NN (y5838, (IntKind.i64.wrap (y5775 + 1)))) fun y5884 =>
        some (.out (y5884, y5775)))
       else
        (some (.out (y5838, y5775)))))) fun y5729 =>
    some (.next (y5729.1, y5729.2, (IntKind.i64.wrap (x4911.2.2 + 1)))))
   else
    (some (.out x4911.1))) NN (a0, (IntKind.i64.wrap (a3 + 1)), 0)) fun y5402 =>
  some (false, y5402)
noncomputable def fz8 (cmp : α → α → Option Int) (a0 : (List α)) (a1 : Nat) (a2 : Nat) (a3 : Int) (a4 : Int) (a5 : Int) : Option (Int × (List α)) :=
  grd (0 ≤ a5 ∧ a5 < ((a2 : Nat) : Int)) <|
  grd ((a1 + ((a5).toNat)) < a0.length) <|
  grd (0 ≤ a3 ∧ a3 < ((a2 : Nat) : Int)) <|
  grd ((a1 + ((a3).toNat)) < a0.length) <|
  grd (0 ≤ a3 ∧ a3 < ((a2 : Nat) : Int)) <|
  grd ((a1 + ((a3).toNat)) < a0.length ∧ 0 ≤ (a1 + ((a3).toNat))) <|
  grd (0 ≤ a5 ∧ a5 < ((a2 : Nat) : Int)) <|
  grd ((a1 + ((a5).toNat)) < (a0.set (a1 + ((a3).toNat)) (a0.getD (a1 + ((a5).toNat)) default)).length ∧ 0 ≤ (a1 + ((a5).toNat))) <|
  andK (iter (fun x1091 =>
   andK (iter (fun x1237 =>
    andC (bif (decide (x1237 ≤ x1091.2.2)) then
      (grd (0 ≤ a3 ∧ a3 < ((a2 : Nat) : Int)) <|
      grd ((a1 + ((a3).toNat)) < x1091.1.length) <|
      grd (0 ≤ x1237 ∧ x1237 < ((a2 : Nat) : Int)) <|
      grd ((a1 + ((x1237).toNat)) < x1091.1.length) <|
      (cmp (x1091.1.getD (a1 + ((a3).toNat)) default) (x1091.1.getD (a1 + ((x1237).toNat)) default)).bind fun y1254 =>
      some (.out (!(decide (y1254 < 0)))))
     else
      (some (.out false))) fun y1253 =>
    bif y1253 then
     (some (.next (IntKind.i64.wrap (x1237 + 1))))
    else
     (some (.out x1237))) NN x1091.2.1) fun y1246 =>
   andK (iter (fun x1291 =>
    andC (bif (decide (y1246 ≤ x1291)) then
      (grd (0 ≤ a3 ∧ a3 < ((a2 : Nat) : Int)) <|
      grd ((a1 + ((a3).toNat)) < x1091.1.length) <|
      grd (0 ≤ x1291 ∧ x1291 < ((a2 : Nat) : Int)) <|
      grd ((a1 + ((x1291).toNat)) < x1091.1.length) <|
      (cmp (x1091.1.getD (a1 + ((a3).toNat)) default) (x1091.1.getD (a1 + ((x1291).toNat)) default)).bind fun y1308 =>
      some (.out (decide (y1308 < 0))))
     else
      (some (.out false))) fun y1307 =>
    bif y1307 then
     (some (.next (IntKind.i64.wrap (x1291 - 1))))
    else
     (some (.out x1291))) NN x1091.2.2) fun y1300 =>
   bif (decide (y1246 > y1300)) then
    (some (.out (y1246, x1091.1)))
   else
    (grd (0 ≤ y1300 ∧ y1300 < ((a2 : Nat) : Int)) <|
    grd ((a1 + ((y1300).toNat)) < x1091.1.length) <|
    grd (0 ≤ y1246 ∧ y1246 < ((a2 : Nat) : Int)) <|
    grd ((a1 + ((y1246).toNat)) < x1091.1.length) <|
    grd (0 ≤ y1246 ∧ y1246 < ((a2 : Nat) : Int)) <|
    grd ((a1 + ((y1246).toNat)) < x1091.1.length ∧ 0 ≤ (a1 + ((y1246).toNat))) <|
    grd (0 ≤ y1300 ∧ y1300 < ((a2 : Nat) : Int)) <|
    grd ((a1 + ((y1300).toNat)) < (x1091.1.set (a1 + ((y1246).toNat)) (x1091.1.getD (a1 + ((y1300).toNat)) default)).length ∧ 0 ≤ (a1 + ((y1300).toNat))) <|
    some (.next (((x1091.1.set (a1 + ((y1246).toNat)) (x1091.1.getD (a1 + ((y1300).toNat)) default)).set (a1 + ((y1300).toNat)) (x1091.1.getD (a1 + ((y1246).toNat)) default)), (IntKind.i64.wrap (y1246 + 1)), (IntKind.i64.wrap (y1300 - 1)))))) NN (((a0.set (a1 + ((a3).toNat)) (a0.getD (a1 + ((a5).toNat)) default)).set (a1 + ((a5).toNat)) (a0.getD (a1 + ((a3).toNat)) default)), (IntKind.i64.wrap (a3 + 1)), (IntKind.i64.wrap (a4 - 1)))) fun y1200 =>
  some (y1200.1, y1200.2)
noncomputable def kzt (cmp : α → α → Option Int) (a0 : (List α)) (a1 : Nat) (a2 : Nat) (a3 : Int) (a4 : Int) (a5 : Int) : Option (Int × Bool × (List α)) :=
  grd (0 ≤ a5 ∧ a5 < ((a2 : Nat) : Int)) <|
  grd ((a1 + ((a5).toNat)) < a0.length) <|
  grd (0 ≤ a3 ∧ a3 < ((a2 : Nat) : Int)) <|
  grd ((a1 + ((a3).toNat)) < a0.length) <|
  grd (0 ≤ a3 ∧ a3 < ((a2 : Nat) : Int)) <|
  grd ((a1 + ((a3).toNat)) < a0.length ∧ 0 ≤ (a1 + ((a3).toNat))) <|
  grd (0 ≤ a5 ∧ a5 < ((a2 : Nat) : Int)) <|
  grd ((a1 + ((a5).toNat)) < (a0.set (a1 + ((a3).toNat)) (a0.getD (a1 + ((a5).toNat)) default)).length ∧ 0 ≤ (a1 + ((a5).toNat))) <|
  andK (iter (fun x799 =>
   andC (bif (decide (x799 ≤ (IntKind.i64.wrap (a4 - 1)))) then
     (grd (0 ≤ x799 ∧ x799 < ((a2 : Nat) : Int)) <|
     grd ((a1 + ((x799).toNat)) < ((a0.set (a1 + ((a3).toNat)) (a0.getD (a1 + ((a5).toNat)) default)).set (a1 + ((a5).toNat)) (a0.getD (a1 + ((a3).toNat)) default)).length) <|
     grd (0 ≤ a3 ∧ a3 < ((a2 : Nat) : Int)) <|
     grd ((a1 + ((a3).toNat)) < ((a0.set (a1 + ((a3).toNat)) (a0.getD (a1 + ((a5).toNat)) default)).set (a1 + ((a5).toNat)) (a0.getD (a1 + ((a3).toNat)) default)).length) <|
     (cmp (((a0.set (a1 + ((a3).toNat)) (a0.getD (a1 + ((a5).toNat)) default)).set (a1 + ((a5).toNat)) (a0.getD (a1 + ((a3).toNat)) default)).getD (a1 + ((x799).toNat)) default) (((a0.set (a1 + ((a3).toNat)) (a0.getD (a1 + ((a5).toNat)) default)).set (a1 + ((a5).toNat)) (a0.getD (a1 + ((a3).toNat)) default)).getD (a1 + ((a3).toNat)) default)).bind fun y816 =>
     some (.out (decide (y816 < 0))))
    else
     (some (.out false))) fun y815 =>
   bif y815 then
    (some (.next (IntKind.i64.wrap (x799 + 1))))
   else
    (some (.out x799))) NN (IntKind.i64.wrap (a3 + 1))) fun y808 =>
  andK (iter (fun x853 =>
   andC (bif (decide (y808 ≤ x853)) then
     (grd (0 ≤ x853 ∧ x853 < ((a2 : Nat) : Int)) <|
     grd ((a1 + ((x853).toNat)) < ((a0.set (a1 + ((a3).toNat)) (a0.getD (a1 + ((a5).toNat)) default)).set (a1 + ((a5).toNat)) (a0.getD (a1 + ((a3).toNat)) default)).length) <|
     grd (0 ≤ a3 ∧ a3 < ((a2 : Nat) : Int)) <|
     grd ((a1 + ((a3).toNat)) < ((a0.set (a1 + ((a3).toNat)) (a0.getD (a1 + ((a5).toNat)) default)).set (a1 + ((a5).toNat)) (a0.getD (a1 + ((a3).toNat)) default)).length) <|
     (cmp (((a0.set (a1 + ((a3).toNat)) (a0.getD (a1 + ((a5).toNat)) default)).set (a1 + ((a5).toNat)) (a0.getD (a1 + ((a3).toNat)) default)).getD (a1 + ((x853).toNat)) default) (((a0.set (a1 + ((a3).toNat)) (a0.getD (a1 + ((a5).toNat)) default)).set (a1 + ((a5).toNat)) (a0.getD (a1 + ((a3).toNat)) default)).getD (a1 + ((a3).toNat)) default)).bind fun y870 =>
     some (.out (!(decide (y870 < 0)))))
    else
     (some (.out false))) fun y869 =>
   bif y869 then
    (some (.next (IntKind.i64.wrap (x853 - 1))))
   else
    (some (.out x853))) NN (IntKind.i64.wrap (a4 - 1))) fun y862 =>
  bif (decide (y808 > y862)) then
   (grd (0 ≤ a3 ∧ a3 < ((a2 : Nat) : Int)) <|
   grd ((a1 + ((a3).toNat)) < ((a0.set (a1 + ((a3).toNat)) (a0.getD (a1 + ((a5).toNat)) default)).set (a1 + ((a5).toNat)) (a0.getD (a1 + ((a3).toNat)) default)).length) <|
   grd (0 ≤ y862 ∧ y862 < ((a2 : Nat) : Int)) <|
   grd ((a1 + ((y862).toNat)) < ((a0.set (a1 + ((a3).toNat)) (a0.getD (a1 + ((a5).toNat)) default)).set (a1 + ((a5).toNat)) (a0.getD (a1 + ((a3).toNat)) default)).length) <|
   grd (0 ≤ y862 ∧ y862 < ((a2 : Nat) : Int)) <|
   grd ((a1 + ((y862).toNat)) < ((a0.set (a1 + ((a3).toNat)) (a0.getD (a1 + ((a5).toNat)) default)).set (a1 + ((a5).toNat)) (a0.getD (a1 + ((a3).toNat)) default)).length ∧ 0 ≤ (a1 + ((y862).toNat))) <|
   grd (0 ≤ a3 ∧ a3 < ((a2 : Nat) : Int)) <|
   grd ((a1 + ((a3).toNat)) < (((a0.set (a1 + ((a3).toNat)) (a0.getD (a1 + ((a5).toNat)) default)).set (a1 + ((a5).toNat)) (a0.getD (a1 + ((a3).toNat)) default)).set (a1 + ((y862).toNat)) (((a0.set (a1 + ((a3).toNat)) (a0.getD (a1 + ((a5).toNat)) default)).set (a1 + ((a5).toNat)) (a0.getD (a1 + ((a3).toNat)) default)).getD (a1 + ((a3).toNat)) default)).length ∧ 0 ≤ (a1 + ((a3).toNat))) <|
   some (y862, true, ((((a0.set (a1 + ((a3).toNat)) (a0.getD (a1 + ((a5).toNat)) default)).set (a1 + ((a5).toNat)) (a0.getD (a1 + ((a3).toNat)) default)).set (a1 + ((y862).toNat)) (((a0.set (a1 + ((a3).toNat)) (a0.getD (a1 + ((a5).toNat)) default)).set (a1 + ((a5).toNat)) (a0.getD (a1 + ((a3).toNat)) default)).getD (a1 + ((a3).toNat)) default)).set (a1 + ((a3).toNat)) (((a0.set (a1 + ((a3).toNat)) (a0.getD (a1 + ((a5).toNat)) default)).set (a1 + ((a5).toNat)) (a0.getD (a1 + ((a3).toNat)) default)).getD (a1 + ((y862).toNat)) default))))
  else
   (grd (0 ≤ y862 ∧ y862 < ((a2 : Nat) : Int)) <|
   grd ((a1 + ((y862).toNat)) < ((a0.set (a1 + ((a3).toNat)) (a0.getD (a1 + ((a5).toNat)) default)).set (a1 + ((a5).toNat)) (a0.getD (a1 + ((a3).toNat)) default)).length) <|
   grd (0 ≤ y808 ∧ y808 < ((a2 : Nat) : Int)) <|
   grd ((a1 + ((y808).toNat)) < ((a0.set (a1 + ((a3).toNat)) (a0.getD (a1 + ((a5).toNat)) default)).set (a1 + ((a5).toNat)) (a0.getD (a1 + ((a3).toNat)) default)).length) <|
   grd (0 ≤ y808 ∧ y808 < ((a2 : Nat) : Int)) <|
   grd ((a1 + ((y808).toNat)) < ((a0.set (a1 + ((a3).toNat)) (a0.getD (a1 + ((a5).toNat)) default)).set (a1 + ((a5).toNat)) (a0.getD (a1 + ((a3).toNat)) default)).length ∧ 0 ≤ (a1 + ((y808).toNat))) <|
   grd (0 ≤ y862 ∧ y862 < ((a2 : Nat) : Int)) <|
   grd ((a1 + ((y862).toNat)) < (((a0.set (a1 + ((a3).toNat)) (a0.getD (a1 + ((a5).toNat)) default)).set (a1 + ((a5).toNat)) (a0.getD (a1 + ((a3).toNat)) default)).set (a1 + ((y808).toNat)) (((a0.set (a1 + ((a3).toNat)) (a0.getD (a1 + ((a5).toNat)) default)).set (a1 + ((a5).toNat)) (a0.getD (a1 + ((a3).toNat)) default)).getD (a1 + ((y862).toNat)) default)).length ∧ 0 ≤ (a1 + ((y862).toNat))) <|
   andK (iter (fun x1307 =>
    andK (iter (fun x1453 =>
     andC (bif (decide (x1453 ≤ x1307.2.2)) then
       (grd (0 ≤ x1453 ∧ x1453 < ((a2 : Nat) : Int)) <|
       grd ((a1 + ((x1453).toNat)) < x1307.1.length) <|
       grd (0 ≤ a3 ∧ a3 < ((a2 : Nat) : Int)) <|
       grd ((a1 + ((a3).toNat)) < x1307.1.length) <|
       (cmp (x1307.1.getD (a1 + ((x1453).toNat)) default) (x1307.1.getD (a1 + ((a3).toNat)) default)).bind fun y1470 =>
       some (.out (decide (y1470 < 0))))
      else
       (some (.out false))) fun y1469 =>
     bif y1469 then
      (some (.next (IntKind.i64.wrap (x1453 + 1))))
     else
      (some (.out x1453))) NN x1307.2.1) fun y1462 =>
    andK (iter (fun x1507 =>
     andC (bif (decide (y1462 ≤ x1507)) then
       (grd (0 ≤ x1507 ∧ x1507 < ((a2 : Nat) : Int)) <|
       grd ((a1 + ((x1507).toNat)) < x1307.1.length) <|
       grd (0 ≤ a3 ∧ a3 < ((a2 : Nat) : Int)) <|
       grd ((a1 + ((a3).toNat)) < x1307.1.length) <|
       (cmp (x1307.1.getD (a1 + ((x1507).toNat)) default) (x1307.1.getD (a1 + ((a3).toNat)) default)).bind fun y1524 =>
       some (.out (!(decide (y1524 < 0)))))
      else
       (some (.out false))) fun y1523 =>
     bif y1523 then
      (some (.next (IntKind.i64.wrap (x1507 - 1))))
     else
      (some (.out x1507))) NN x1307.2.2) fun y1516 =>
    bif (decide (y1462 > y1516)) then
     (some (.out (x1307.1, y1516)))
    else
     (grd (0 ≤ y1516 ∧ y1516 < ((a2 : Nat) : Int)) <|
     grd ((a1 + ((y1516).toNat)) < x1307.1.length) <|
     grd (0 ≤ y1462 ∧ y1462 < ((a2 : Nat) : Int)) <|
     grd ((a1 + ((y1462).toNat)) < x1307.1.length) <|
     grd (0 ≤ y1462 ∧ y1462 < ((a2 : Nat) : Int)) <|
     grd ((a1 + ((y1462).toNat)) < x1307.1.length ∧ 0 ≤ (a1 + ((y1462).toNat))) <|
     grd (0 ≤ y1516 ∧ y1516 < ((a2 : Nat) : Int)) <|
     grd ((a1 + ((y1516).toNat)) < (x1307.1.set (a1 + ((y1462).toNat)) (x1307.1.getD (a1 + ((y1516).toNat)) default)).length ∧ 0 ≤ (a1 + ((y1516).toNat))) <|
     some (.next (((x1307.1.set (a1 + ((y1462).toNat)) (x1307.1.getD (a1 + ((y1516).toNat)) default)).set (a1 + ((y1516).toNat)) (x1307.1.getD (a1 + ((y1462).toNat)) default)), (IntKind.i64.wrap (y1462 + 1)), (IntKind.i64.wrap (y1516 - 1)))))) NN (((((a0.set (a1 + ((a3).toNat)) (a0.getD (a1 + ((a5).toNat)) default)).set (a1 + ((a5).toNat)) (a0.getD (a1 + ((a3).toNat)) default)).set (a1 + ((y808).toNat)) (((a0.set (a1 + ((a3).toNat)) (a0.getD (a1 + ((a5).toNat)) default)).set (a1 + ((a5).toNat)) (a0.getD (a1 + ((a3).toNat)) default)).getD (a1 + ((y862).toNat)) default)).set (a1 + ((y862).toNat)) (((a0.set (a1 + ((a3).toNat)) (a0.getD (a1 + ((a5).toNat)) default)).set (a1 + ((a5).toNat)) (a0.getD (a1 + ((a3).toNat)) default)).getD (a1 + ((y808).toNat)) default)), (IntKind.i64.wrap (y808 + 1)), (IntKind.i64.wrap (y862 - 1)))) fun y1416 =>
   grd (0 ≤ a3 ∧ a3 < ((a2 : Nat) : Int)) <|
   grd ((a1 + ((a3).toNat)) < y1416.1.length) <|
   grd (0 ≤ y1416.2 ∧ y1416.2 < ((a2 : Nat) : Int)) <|
   grd ((a1 + ((y1416.2).toNat)) < y1416.1.length) <|
   grd (0 ≤ y1416.2 ∧ y1416.2 < ((a2 : Nat) : Int)) <|
   grd ((a1 + ((y1416.2).toNat)) < y1416.1.length ∧ 0 ≤ (a1 + ((y1416.2).toNat))) <|
   grd (0 ≤ a3 ∧ a3 < ((a2 : Nat) : Int)) <|
   grd ((a1 + ((a3).toNat)) < (y1416.1.set (a1 + ((y1416.2).toNat)) (y1416.1.getD (a1 + ((a3).toNat)) default)).length ∧ 0 ≤ (a1 + ((a3).toNat))) <|
   some (y1416.2, false, ((y1416.1.set (a1 + ((y1416.2).toNat)) (y1416.1.getD (a1 + ((a3).toNat)) default)).set (a1 + ((a3).toNat)) (y1416.1.getD (a1 + ((y1416.2).toNat)) default))))
noncomputable def fzv (cmp : α → α → Option Int) (npow : Int → Option Int) (xnext : Int → Option (Int × Int)) (a0 : (List α)) (a1 : Nat) (a2 : Nat) (a3 : Int) (a4 : Int) : Option (List α) :=
  bif (decide ((IntKind.i64.wrap (a4 - a3)) ≥ 8)) then
   ((npow (IntKind.i64.wrap (a4 - a3))).bind fun y51 =>
   andK (iter (fun x69 =>
    bif (decide (x69.2.2 ≤ ((IntKind.i64.wrap ((IntKind.i64.wrap (a3 + (IntKind.i64.wrap ((IntKind.i64.wrap ((IntKind.i64.wrap (a4 - a3)).tdiv 4)) * 2)))) + 1))))) then
     ((xnext x69.2.1).bind fun y96 =>
     andC (bif (decide (((IntKind.i64.wrap (IntKind.u64.wrap (((BitVec.ofInt 64 y96.1 &&& BitVec.ofInt 64 (IntKind.u64.wrap (y51 - 1))).toNat : Int))))) ≥ (IntKind.i64.wrap (a4 - a3)))) then
       (some (.out (IntKind.i64.wrap (((IntKind.i64.wrap (IntKind.u64.wrap (((BitVec.ofInt 64 y96.1 &&& BitVec.ofInt 64 (IntKind.u64.wrap (y51 - 1))).toNat : Int))))) - (IntKind.i64.wrap (a4 - a3))))))
      else
       (some (.out ((IntKind.i64.wrap (IntKind.u64.wrap (((BitVec.ofInt 64 y96.1 &&& BitVec.ofInt 64 (IntKind.u64.wrap (y51 - 1))).toNat : Int)))))))) fun y98 =>
     grd (0 ≤ (IntKind.i64.wrap (a3 + y98)) ∧ (IntKind.i64.wrap (a3 + y98)) < ((a2 : Nat) : Int)) <|
     grd ((a1 + (((IntKind.i64.wrap (a3 + y98))).toNat)) < x69.1.length) <|
     grd (0 ≤ x69.2.2 ∧ x69.2.2 < ((a2 : Nat) : Int)) <|
     grd ((a1 + ((x69.2.2).toNat)) < x69.1.length) <|
     grd (0 ≤ x69.2.2 ∧ x69.2.2 < ((a2 : Nat) : Int)) <|
     grd ((a1 + ((x69.2.2).toNat)) < x69.1.length ∧ 0 ≤ (a1 + ((x69.2.2).toNat))) <|
     grd (0 ≤ (IntKind.i64.wrap (a3 + y98)) ∧ (IntKind.i64.wrap (a3 + y98)) < ((a2 : Nat) : Int)) <|
     grd ((a1 + (((IntKind.i64.wrap (a3 + y98))).toNat)) < (x69.1.set (a1 + ((x69.2.2).toNat)) (x69.1.getD (a1 + (((IntKind.i64.wrap (a3 + y98))).toNat)) default)).length ∧ 0 ≤ (a1 + (((IntKind.i64.wrap (a3 + y98))).toNat))) <|
     some (.next (((x69.1.set (a1 + ((x69.2.2).toNat)) (x69.1.getD (a1 + (((IntKind.i64.wrap (a3 + y98))).toNat)) default)).set (a1 + (((IntKind.i64.wrap (a3 + y98))).toNat)) (x69.1.getD (a1 + ((x69.2.2).toNat)) default)), y96.2, (IntKind.i64.wrap (x69.2.2 + 1)))))
    else
     (some (.out x69.1))) NN (a0, (IntKind.u64.wrap (IntKind.i64.wrap (a4 - a3))), ((IntKind.i64.wrap ((IntKind.i64.wrap (a3 + (IntKind.i64.wrap ((IntKind.i64.wrap ((IntKind.i64.wrap (a4 - a3)).tdiv 4)) * 2)))) - 1))))) fun y84 =>
   some y84)
  else
   (some a0)
noncomputable def pzs (cmp : α → α → Option Int) (npow : Int → Option Int) (xnext : Int → Option (Int × Int)) (rec : (List α) × Nat × Nat × Int × Int × Int → Option (List α)) (a0 : (List α)) (a1 : Nat) (a2 : Nat) (a3 : Int) (a4 : Int) (a5 : Int) : Option (List α) :=
  andK (iter (fun x194 =>
   bif (decide ((IntKind.i64.wrap (x194.2.2.1 - x194.2.1)) ≤ 12)) then
    ((fzw cmp x194.1 a1 a2 x194.2.1 x194.2.2.1).bind fun y245 =>
    some (.fin y245))
   else
    (bif (x194.2.2.2.1 == 0) then
     ((mzu cmp x194.1 a1 a2 x194.2.1 x194.2.2.1).bind fun y247 =>
     some (.fin y247))
    else
     (andC (bif (!x194.2.2.2.2.1) then
       ((fzv cmp npow xnext x194.1 a1 a2 x194.2.1 x194.2.2.1).bind fun y254 =>
       some (.out (y254, (IntKind.i64.wrap (x194.2.2.2.1 - 1)))))
      else
       (some (.out (x194.1, x194.2.2.2.1)))) fun y252 =>
     (iz9 cmp y252.1 a1 a2 x194.2.1 x194.2.2.1).bind fun y256 =>
     andC (bif (y256.2 == 2) then
       ((gzs cmp y252.1 a1 a2 x194.2.1 x194.2.2.1).bind fun y263 =>
       some (.out (y263, (IntKind.i64.wrap ((IntKind.i64.wrap (x194.2.2.1 - 1)) - (IntKind.i64.wrap (y256.1 - x194.2.1)))), 1)))
      else
       (some (.out (y252.1, y256.1, y256.2)))) fun y261 =>
     andC (andC (bif x194.2.2.2.2.1 then
        (bif x194.2.2.2.2.2 then
         (some (.out (y261.2.2 == 1)))
        else
         (some (.out false)))
       else
        (some (.out false))) fun y271 =>
      bif y271 then
       ((cze cmp y261.1 a1 a2 x194.2.1 x194.2.2.1).bind fun y273 =>
       bif y273.1 then
        (some (.fin (.fin y273.2)))
       else
        (some (.out y273.2)))
      else
       (some (.out y261.1))) fun y270 =>
     andC (bif (decide (x194.2.1 > 0)) then
       (grd (0 ≤ (IntKind.i64.wrap (x194.2.1 - 1)) ∧ (IntKind.i64.wrap (x194.2.1 - 1)) < ((a2 : Nat) : Int)) <|
       grd ((a1 + (((IntKind.i64.wrap (x194.2.1 - 1))).toNat)) < y270.length) <|
       grd (0 ≤ y261.2.1 ∧ y261.2.1 < ((a2 : Nat) : Int)) <|
       grd ((a1 + ((y261.2.1).toNat)) < y270.length) <|
       (cmp (y270.getD (a1 + (((IntKind.i64.wrap (x194.2.1 - 1))).toNat)) default) (y270.getD (a1 + ((y261.2.1).toNat)) default)).bind fun y283 =>
       some (.out (!(decide (y283 < 0)))))
      else
       (some (.out false))) fun y282 =>
     bif y282 then
      ((fz8 cmp y270 a1 a2 x194.2.1 x194.2.2.1 y261.2.1).bind fun y285 =>
      some (.next (y285.2, y285.1, x194.2.2.1, y252.2, x194.2.2.2.2.1, x194.2.2.2.2.2)))
     else
      ((kzt cmp y270 a1 a2 x194.2.1 x194.2.2.1 y261.2.1).bind fun y287 =>
      bif (decide ((IntKind.i64.wrap (y287.1 - x194.2.1)) < (IntKind.i64.wrap (x194.2.2.1 - y287.1)))) then
       ((rec (y287.2.2, a1, a2, x194.2.1, y287.1, y252.2)).bind fun y289 =>
       some (.next (y289, (IntKind.i64.wrap (y287.1 + 1)), x194.2.2.1, y252.2, (decide ((IntKind.i64.wrap (y287.1 - x194.2.1)) ≥ (IntKind.i64.wrap ((IntKind.i64.wrap (x194.2.2.1 - x194.2.1)).tdiv 8)))), y287.2.1)))
      else
       ((rec (y287.2.2, a1, a2, (IntKind.i64.wrap (y287.1 + 1)), x194.2.2.1, y252.2)).bind fun y291 =>
       some (.next (y291, x194.2.1, y287.1, y252.2, (decide ((IntKind.i64.wrap (x194.2.2.1 - y287.1)) ≥ (IntKind.i64.wrap ((IntKind.i64.wrap (x194.2.2.1 - x194.2.1)).tdiv 8)))), y287.2.1))))))) NN (a0, a3, a4, a5, true, true)) fun (_ : U0) =>
  none
open Go.Sort (swp size_swp insInner insOuter insertionSort SWO)
theorem ozy {σ τ R : Type} {f : σ → Option (Step3 σ τ R)} {k : τ → Option R} {x : σ} {r : R} (I : Nat → σ → Prop) (m : Nat) (h0 : I m x) (hN : m < 4294967296)
    (hr : ∀ m x, I m x → (∃ x' m', f x = some (.next x') ∧ m' < m ∧ I m' x') ∨ (∃ y, f x = some (.out y) ∧ k y = some r) ∨ f x = some (.fin r)) : andK (iter f NN x) k = some r := by
  obtain ⟨z, h1, h2⟩ := ezm (P := fun z => z = r) (k := k) (f := f) I (fun y => k y = some r) m h0 hN (fun m x hi => by
    rcases hr m x hi with h | h | h
    · exact .inl h
    · exact .inr (.inl h)
    · exact .inr (.inr ⟨r, h, rfl⟩)) (fun y hy => ⟨r, hy, rfl⟩)
  rw [h1, h2]
section
variable {α : Type}
def W (l : List α) (lo : Nat) (d : Array α) : List α := l.take lo ++ d.toList ++ l.drop (lo + d.size)
variable {l : List α} {lo : Nat} {d : Array α}
theorem qzm (h : lo + d.size ≤ l.length) : (W l lo d).length = l.length := by
  unfold W; simp only [List.length_append, List.length_take, List.length_drop, Array.length_toList]; omega
theorem Jzf (h : lo + d.size ≤ l.length) {i : Nat} (hi : i < d.size) (x : α) : (W l lo d).set (lo + i) x = W l lo (d.setIfInBounds i x) := by
  unfold W
  have h1 : (l.take lo).length = lo := by rw [List.length_take]; omega
  rw [List.append_assoc, List.set_append_right _ _ (by omega), h1, Nat.add_sub_cancel_left, List.set_append_left _ _ (by simpa using hi), List.append_assoc]
  simp
theorem Czd {n : Nat} (h : lo + n ≤ l.length) : W l lo ((l.drop lo).take n).toArray = l := by
  unfold W
  have : ((l.drop lo).take n).length = n := by rw [List.length_take, List.length_drop]; omega
  simp only [List.size_toArray, this]
  rw [List.append_assoc, ← List.drop_drop, List.take_append_drop, List.take_append_drop]
variable [Inhabited α]
theorem Fz2 (h : lo + d.size ≤ l.length) {i : Nat} (hi : i < d.size) : (W l lo d).getD (lo + i) default = d[i]! := by
  unfold W
  have h1 : (l.take lo).length = lo := by rw [List.length_take]; omega
  rw [List.getD_eq_getElem?_getD, List.append_assoc, List.getElem?_append_right (by omega), h1, Nat.add_sub_cancel_left, List.getElem?_append_left (by simpa using hi)]
  simp [hi]
theorem qzn (h : lo + d.size ≤ l.length) {i j : Nat} (hi : i < d.size) (hj : j < d.size) :
    ((W l lo d).set (lo + i) ((W l lo d).getD (lo + j) default)).set (lo + j) ((W l lo d).getD (lo + i) default) = W l lo (swp d i j) := by
  rw [Fz2 h hj, Fz2 h hi, Jzf h hi, Jzf (by simpa using h) (by simpa using hj)]; rfl
theorem Jzb {j : Nat} (h : j < 4294967296) : IntKind.i64.wrap (((j + 1 : Nat) : Int) - 1) = ((j : Nat) : Int) := by rw [w64 (by omega) (by omega)]; omega
variable {cmp : α → α → Option Int} {lt : α → α → Bool} {n : Nat}
variable {S : α → Prop}
def nz7 (S : α → Prop) (cmp : α → α → Option Int) (lt : α → α → Bool) : Prop := ∀ x y, S x → S y → ∃ z, cmp x y = some z ∧ decide (z < 0) = lt x y
def Ok (S : α → Prop) (n : Nat) (e : Array α) : Prop := e.size = n ∧ ∀ i, i < n → S e[i]!
theorem Ok.swp {e : Array α} (h : Ok S n e) {i j : Nat} (hi : i < n) (hj : j < n) : Ok S n (swp e i j) := by
  have hs := h.1
  refine ⟨by rw [size_swp]; exact h.1, fun k hk => ?_⟩
  by_cases c1 : k = j
  · subst c1; rw [Go.Sort.swp_right _ _ _ (by omega)]; exact h.2 i hi
  · by_cases c2 : k = i
    · subst c2; rw [Go.Sort.swp_left _ _ _ (by omega) (by omega)]; exact h.2 j hj
    · rw [Go.Sort.swp_other _ _ _ _ c2 c1]; exact h.2 k hk
theorem Ok.perm {e e' : Array α} (h : Ok S n e) {a b : Nat} (hp : Go.Sort.PermIn a b e e') (hb : b ≤ n) : Ok S n e' := by
  have hs := h.1
  refine ⟨by rw [hp.1]; exact h.1, fun k hk => ?_⟩
  by_cases c : k < a ∨ b ≤ k
  · rw [hp.2.1 k c]; exact h.2 k hk
  · exact Go.Sort.permIn_all e e' a b S (by omega) hp (fun i h1 h2 => h.2 i (by omega)) k (by omega) (by omega)
theorem lzq (hc : nz7 S cmp lt) (hl : lo + n ≤ l.length) {e : Array α} (he : Ok S n e) {i j : Nat} (hi : i < n) (hj : j < n) : ∃ z, cmp ((W l lo e).getD (lo + i) default) ((W l lo e).getD (lo + j) default) = some z ∧ decide (z < 0) = lt e[i]! e[j]! := by
  have hs := he.1
  rw [Fz2 (by omega) (by omega), Fz2 (by omega) (by omega)]
  exact hc _ _ (he.2 i hi) (he.2 j hj)
theorem Hzf (a : Nat) : ∀ (j : Nat) (e : Array α), Ok S n e → j < n → Ok S n (insInner lt a j e)
  | 0, _, h, _ => h
  | j + 1, e, h, hj => by
    unfold insInner
    split
    · exact Hzf a j _ (h.swp hj (by omega)) (by omega)
    · exact h
theorem Jzp (hc : nz7 S cmp lt) (hl : lo + n ≤ l.length) (hn : n ≤ 1000000) (d : Array α) (Hd : Ok S n d) (a b : Nat) (ha : a ≤ n) (hb : b ≤ n) :
    fzw cmp (W l lo d) lo n (a : Int) (b : Int) = some (W l lo (insertionSort lt d a b)) := by
  have hd := Hd.1
  unfold fzw insertionSort
  rw [wn (by omega)]
  refine ozy (fun m (y : List α × Int) => ∃ (i : Nat) (e : Array α), y.1 = W l lo e ∧ y.2 = (i : Int) ∧ Ok S n e ∧ b ≤ i + m ∧ insOuter lt a b i e = insOuter lt a b (a + 1) d) b ⟨a + 1, d, rfl, rfl, Hd, by omega, rfl⟩ (by omega) ?_
  rintro m ⟨l1, y⟩ ⟨i, e, hl1, hy, He, him, heq⟩
  have he := He.1
  simp only at hl1 hy ⊢
  subst hl1; subst hy
  rw [insOuter] at heq
  by_cases hib : i < b
  · rw [if_pos hib] at heq
    rw [az7 (by omega), wn (by omega)]
    refine .inl ⟨(W l lo (insInner lt a i e), ((i + 1 : Nat) : Int)), m - 1, ?_, by omega, i + 1, _, rfl, rfl, ?_, by omega, heq⟩
    · refine ozy (fun m (y : List α × Int) => ∃ (j : Nat) (e' : Array α), y.1 = W l lo e' ∧ y.2 = (j : Int) ∧ Ok S n e' ∧ j < n ∧ j ≤ m ∧ insInner lt a j e' = insInner lt a i e) i ⟨i, e, rfl, rfl, He, by omega, Nat.le_refl _, rfl⟩ (by omega) ?_
      rintro m ⟨l2, y2⟩ ⟨j, e', hl2, hy2, He', hjn, hjm, heq'⟩
      have he' := He'.1
      simp only at hl2 hy2 ⊢
      subst hl2; subst hy2
      have hW := qzm (l := l) (lo := lo) (d := e') (by omega)
      cases j with
      | zero =>
        rw [insInner] at heq'
        rw [az6 (by omega), az5]
        exact .inr (.inl ⟨_, rfl, by rw [heq']⟩)
      | succ j =>
        rw [insInner] at heq'
        by_cases hja : j + 1 > a
        · obtain ⟨z, z1, z2⟩ := lzq hc hl He' (i := (j + 1)) (j := j) (by omega) (by omega)
          rw [az7 (by omega), Jzb (by omega)]
          simp only [Int.toNat_natCast]
          rw [az4 (by omega), az4 (by omega), az4 (by omega), az4 (by omega), z1]
          simp only [Option.bind_some, az5, z2]
          cases hlt : lt e'[j + 1]! e'[j]! with
          | false =>
            rw [hlt, Bool.and_false] at heq'
            exact .inr (.inl ⟨_, rfl, by rw [← heq']; rfl⟩)
          | true =>
            rw [hlt, decide_eq_true hja] at heq'
            simp only [cond_true]
            rw [az4 (by omega), az4 (by omega), az4 (by omega), az4 (by omega), az4 (by omega), az4 (by omega), az4 (by omega), az4 (by rw [List.length_set]; omega)]
            refine .inl ⟨_, j, rfl, by omega, j, swp e' (j + 1) j, ?_, rfl, He'.swp (by omega) (by omega), by omega, Nat.le_refl _, heq'⟩
            exact qzn (by omega) (by omega) (by omega)
        · rw [az6 (by omega), az5]
          rw [decide_eq_false hja] at heq'
          exact .inr (.inl ⟨_, rfl, by rw [← heq']; rfl⟩)
    · exact Hzf a i e He (by omega)
  · rw [if_neg hib] at heq
    rw [az6 (by omega)]
    exact .inr (.inl ⟨_, rfl, by rw [heq]⟩)
end
open Go.Sort (swp siftDown heapBuild heapPop heapSort)
theorem Azs {τ R : Type} {A : Option (Step3 Unit τ R)} {k : τ → Option R} {y : τ} (h : A = some (.out y)) : andC A k = k y := by rw [h]; rfl
section
variable {α : Type} [Inhabited α] {l : List α} {lo n : Nat} {cmp : α → α → Option Int} {lt : α → α → Bool} {S : α → Prop}
theorem Dzx {hi first : Nat} (hf : first + hi ≤ n) (root : Nat) (d : Array α) (h : Ok S n d) : Ok S n (siftDown lt hi first root d) := by
  suffices hh : ∀ (k root : Nat) (d : Array α), hi - root ≤ k → Ok S n d → Ok S n (siftDown lt hi first root d) from hh _ root d (Nat.le_refl _) h
  intro k
  induction k with
  | zero => intro root d h hd; rw [siftDown, dif_pos (by omega)]; exact hd
  | succ k ih =>
    intro root d h hd
    rw [siftDown]
    split
    · exact hd
    · split
      · split
        · exact hd
        · split
          · exact ih _ _ (by omega) (hd.swp (by omega) (by omega))
          · exact hd
      · split
        · exact hd
        · exact ih _ _ (by omega) (hd.swp (by omega) (by omega))
theorem Dz1 (hc : nz7 S cmp lt) (hl : lo + n ≤ l.length) (hn : n ≤ 1000000) (d : Array α) (Hd : Ok S n d) (root hi first : Nat) (hf : first + hi ≤ n) (hr : root ≤ 1000000) :
    lz4 cmp (W l lo d) lo n (root : Int) (hi : Int) (first : Int) = some (W l lo (siftDown lt hi first root d)) := by
  have hd := Hd.1
  unfold lz4
  refine ozy (fun m (y : List α × Int) => ∃ (r : Nat) (e : Array α), y.1 = W l lo e ∧ y.2 = (r : Int) ∧ Ok S n e ∧ r ≤ 1000000 ∧ hi ≤ r + m ∧ siftDown lt hi first r e = siftDown lt hi first root d) hi ⟨root, d, rfl, rfl, Hd, hr, by omega, rfl⟩ (by omega) ?_
  rintro m ⟨l1, y⟩ ⟨r, e, hl1, hy, He, hr', hm, heq⟩
  have he := He.1
  simp only at hl1 hy ⊢
  subst hl1; subst hy
  have hW := qzm (l := l) (lo := lo) (d := e) (by omega)
  have e1 : IntKind.i64.wrap (2 * (r : Int)) = ((2 * r : Nat) : Int) := by rw [w64 (by omega) (by omega)]; omega
  have e2 : IntKind.i64.wrap (((2 * r : Nat) : Int) + 1) = ((2 * r + 1 : Nat) : Int) := wn (by omega)
  simp only [e1, e2]
  rw [siftDown] at heq
  by_cases h1 : 2 * r + 1 ≥ hi
  · rw [dif_pos h1] at heq
    rw [az7 (by omega)]
    exact .inr (.inl ⟨_, rfl, by rw [heq]⟩)
  rw [dif_neg h1] at heq
  have e3 : IntKind.i64.wrap (((2 * r + 1 : Nat) : Int) + 1) = ((2 * r + 2 : Nat) : Int) := wn (by omega)
  have e4 : IntKind.i64.wrap ((first : Int) + ((2 * r + 1 : Nat) : Int)) = ((first + (2 * r + 1) : Nat) : Int) := by rw [w64 (by omega) (by omega)]; omega
  have e5 : IntKind.i64.wrap (((first + (2 * r + 1) : Nat) : Int) + 1) = ((first + (2 * r + 1) + 1 : Nat) : Int) := wn (by omega)
  have e6 : IntKind.i64.wrap ((first : Int) + (r : Int)) = ((first + r : Nat) : Int) := by rw [w64 (by omega) (by omega)]; omega
  simp only [e3, e4, e5, e6, Int.toNat_natCast]
  rw [az6 (by omega)]
  obtain ⟨c, hcd, hc1, hc2, heq⟩ : ∃ c : Nat, c = (if 2 * r + 2 < hi ∧ lt e[first + (2 * r + 1)]! e[first + (2 * r + 1) + 1]! = true then 2 * r + 2 else 2 * r + 1) ∧ c < hi ∧ r < c ∧ (if (!lt e[first + r]! e[first + c]!) = true then e else siftDown lt hi first c (swp e (first + r) (first + c))) = siftDown lt hi first root d := by
    by_cases h2 : 2 * r + 1 + 1 < hi ∧ lt e[first + (2 * r + 1)]! e[first + (2 * r + 1) + 1]! = true
    · rw [if_pos (by simp only [Bool.and_eq_true, decide_eq_true_eq]; exact h2)] at heq
      refine ⟨2 * r + 2, by rw [if_pos ⟨by omega, h2.2⟩], by omega, by omega, ?_⟩
      rw [← heq]
      split
      · rfl
      · rw [dif_pos (by omega)]
    · rw [if_neg (by simp only [Bool.and_eq_true, decide_eq_true_eq]; exact h2)] at heq
      exact ⟨2 * r + 1, by rw [if_neg (fun h => h2 ⟨by omega, h.2⟩)], by omega, by omega, heq⟩
  rw [Azs (y := (c : Int)) (by
    by_cases h2 : 2 * r + 2 < hi
    · obtain ⟨z, z1, z2⟩ := lzq hc hl He (i := (first + (2 * r + 1))) (j := (first + (2 * r + 1) + 1)) (by omega) (by omega)
      rw [az7 (by omega), az4 (by omega), az4 (by omega), az4 (by omega), az4 (by omega), z1]
      simp only [Option.bind_some, az5, z2]
      cases hlt : lt e[first + (2 * r + 1)]! e[first + (2 * r + 1) + 1]! with
      | true => rw [hcd, if_pos ⟨h2, hlt⟩]; rfl
      | false => rw [hcd, if_neg (fun h => by rw [hlt] at h; cases h.2)]; rfl
    · rw [az6 (by omega), az5, hcd, if_neg (fun h => h2 h.1)]; rfl)]
  clear hcd
  have e7 : IntKind.i64.wrap ((first : Int) + (c : Int)) = ((first + c : Nat) : Int) := by rw [w64 (by omega) (by omega)]; omega
  simp only [e7, Int.toNat_natCast]
  obtain ⟨z, z1, z2⟩ := lzq hc hl He (i := (first + r)) (j := (first + c)) (by omega) (by omega)
  rw [az4 (by omega), az4 (by omega), az4 (by omega), az4 (by omega), z1]
  simp only [Option.bind_some, z2]
  cases hlt : lt e[first + r]! e[first + c]! with
  | false =>
    rw [hlt] at heq
    exact .inr (.inr (by rw [← heq]; rfl))
  | true =>
    rw [hlt] at heq
    simp only [Bool.not_true, cond_false]
    rw [az4 (by omega), az4 (by omega), az4 (by omega), az4 (by omega), az4 (by omega), az4 (by omega), az4 (by omega), az4 (by rw [List.length_set]; omega)]
    exact .inl ⟨_, hi - c, rfl, by omega, c, _, qzn (by omega) (by omega) (by omega), rfl, He.swp (by omega) (by omega), by omega, by omega, heq⟩
theorem Iz1 (hc : nz7 S cmp lt) (hl : lo + n ≤ l.length) (hn : n ≤ 1000000) (d : Array α) (Hd : Ok S n d) (a b : Nat) (hab : a ≤ b) (hb : b ≤ n) :
    mzu cmp (W l lo d) lo n (a : Int) (b : Int) = some (W l lo (heapSort lt d a b)) := by
  have hd := Hd.1
  unfold mzu heapSort
  have e1 : IntKind.i64.wrap ((b : Int) - (a : Int)) = ((b - a : Nat) : Int) := by rw [w64 (by omega) (by omega)]; omega
  have e2 : IntKind.i64.wrap (((b - a : Nat) : Int) - 1) = ((b - a : Nat) : Int) - 1 := w64 (by omega) (by omega)
  have e3 : IntKind.i64.wrap ((((b - a : Nat) : Int) - 1).tdiv 2) = (((b - a - 1) / 2 + 1 : Nat) : Int) - 1 := by
    by_cases h : b - a = 0
    · rw [h]; decide
    · rw [Int.tdiv_eq_ediv_of_nonneg (by omega), w64 (by omega) (by omega)]; omega
  simp only [e1, e2, e3]
  refine ozy (fun m (y : List α × Int) => ∃ (k : Nat) (e : Array α), y.1 = W l lo e ∧ y.2 = (k : Int) - 1 ∧ Ok S n e ∧ k ≤ m ∧ k ≤ n + 1 ∧ heapBuild lt (b - a) a k e = heapBuild lt (b - a) a ((b - a - 1) / 2 + 1) d) ((b - a - 1) / 2 + 1) ⟨_, d, rfl, rfl, Hd, Nat.le_refl _, by omega, rfl⟩ (by omega) ?_
  rintro m ⟨l1, y⟩ ⟨k, e, hl1, hy, He, hkm, hkn, heq⟩
  have he := He.1
  simp only at hl1 hy ⊢
  subst hl1; subst hy
  cases k with
  | succ k =>
    rw [heapBuild] at heq
    have e4 : ((k + 1 : Nat) : Int) - 1 = (k : Int) := by omega
    rw [e4, az7 (by omega), Dz1 hc hl hn e He k (b - a) a (by omega) (by omega)]
    simp only [Option.bind_some]
    exact .inl ⟨_, k, rfl, by omega, k, _, rfl, w64 (by omega) (by omega), Dzx (by omega) _ _ He, Nat.le_refl _, by omega, heq⟩
  | zero =>
    rw [heapBuild] at heq
    rw [az6 (by omega)]
    refine .inr (.inl ⟨_, rfl, ?_⟩)
    rw [← heq]
    refine ozy (fun m (y : List α × Int) => ∃ (k : Nat) (e' : Array α), y.1 = W l lo e' ∧ y.2 = (k : Int) - 1 ∧ Ok S n e' ∧ k ≤ m ∧ k ≤ b - a ∧ heapPop lt a k e' = heapPop lt a (b - a) e) (b - a) ⟨_, e, rfl, rfl, He, Nat.le_refl _, Nat.le_refl _, rfl⟩ (by omega) ?_
    rintro m ⟨l2, y⟩ ⟨k, e', hl2, hy, He', hkm, hkn, heq'⟩
    have he' := He'.1
    simp only at hl2 hy ⊢
    subst hl2; subst hy
    have hW := qzm (l := l) (lo := lo) (d := e') (by omega)
    cases k with
    | succ k =>
      rw [heapPop] at heq'
      have e4 : ((k + 1 : Nat) : Int) - 1 = (k : Int) := by omega
      have e5 : IntKind.i64.wrap ((a : Int) + (k : Int)) = ((a + k : Nat) : Int) := by rw [w64 (by omega) (by omega)]; omega
      simp only [e4, e5, Int.toNat_natCast]
      have h0 : (0 : Int) = ((0 : Nat) : Int) := rfl
      rw [az7 (by omega), az4 (by omega), az4 (by omega), az4 (by omega), az4 (by omega), az4 (by omega), az4 (by omega), az4 (by omega), az4 (by rw [List.length_set]; omega), qzn (by omega) (by omega) (by omega)]
      rw [h0, Dz1 hc hl hn (swp e' a (a + k)) (He'.swp (by omega) (by omega)) 0 k a (by omega) (by omega)]
      simp only [Option.bind_some]
      exact .inl ⟨_, k, rfl, by omega, k, _, rfl, w64 (by omega) (by omega), Dzx (by omega) _ _ (He'.swp (by omega) (by omega)), Nat.le_refl _, by omega, heq'⟩
    | zero =>
      rw [heapPop] at heq'
      rw [az6 (by omega)]
      exact .inr (.inl ⟨_, rfl, by rw [heq']⟩)
end
open Go.Sort (swp order2 median medianAdjacent choosePivot reverseLoop reverseRange)
section
variable {α : Type} [Inhabited α] {l : List α} {lo n : Nat} {cmp : α → α → Option Int} {lt : α → α → Bool} {S : α → Prop}
abbrev c3 (r : Nat × Nat × Nat) : Int × Int × Int := (((r.1 : Nat) : Int), ((r.2.1 : Nat) : Int), ((r.2.2 : Nat) : Int))
abbrev c2 (r : Nat × Nat) : Int × Int := (((r.1 : Nat) : Int), ((r.2 : Nat) : Int))
theorem pz6 (d : Array α) {a b : Nat} (s : Nat) (ha : a < n) (hb : b < n) : (order2 lt d a b s).1 < n ∧ (order2 lt d a b s).2.1 < n ∧ (order2 lt d a b s).2.2 ≤ s + 1 := by
  unfold order2; split <;> exact ⟨by assumption, by assumption, by simp⟩
theorem uz9 (hc : nz7 S cmp lt) (hl : lo + n ≤ l.length) (d : Array α) (Hd : Ok S n d) (a b s : Nat) (ha : a < n) (hb : b < n) (hs : s < 4294967296) :
    ozv cmp (W l lo d) lo n (a : Int) (b : Int) (s : Int) = some (c3 (order2 lt d a b s)) := by
  have hd := Hd.1
  have hW := qzm (l := l) (lo := lo) (d := d) (by omega)
  obtain ⟨z, z1, z2⟩ := lzq hc hl Hd (i := b) (j := a) (by omega) (by omega)
  unfold ozv order2
  simp only [Int.toNat_natCast]
  rw [az4 (by omega), az4 (by omega), az4 (by omega), az4 (by omega), z1]
  simp only [Option.bind_some, z2]
  cases lt d[b]! d[a]! with
  | true => rw [wn hs]; rfl
  | false => rfl
theorem uzi (d : Array α) {a b c : Nat} (s : Nat) (ha : a < n) (hb : b < n) (hc : c < n) : (median lt d a b c s).1 < n ∧ (median lt d a b c s).2 ≤ s + 3 := by
  unfold median
  obtain ⟨p1, p2, p3⟩ := pz6 (lt := lt) d s ha hb
  obtain ⟨q1, q2, q3⟩ := pz6 (lt := lt) d (order2 lt d a b s).2.2 p2 hc
  obtain ⟨r1, r2, r3⟩ := pz6 (lt := lt) d (order2 lt d (order2 lt d a b s).2.1 c (order2 lt d a b s).2.2).2.2 p1 q1
  exact ⟨r2, by simp only; omega⟩
theorem uz8 (hc : nz7 S cmp lt) (hl : lo + n ≤ l.length) (d : Array α) (Hd : Ok S n d) (a b c s : Nat) (ha : a < n) (hb : b < n) (hcn : c < n) (hs : s < 4000000000) :
    qzt cmp (W l lo d) lo n (a : Int) (b : Int) (c : Int) (s : Int) = some (c2 (median lt d a b c s)) := by
  have hd := Hd.1
  unfold qzt median
  obtain ⟨p1, p2, p3⟩ := pz6 (lt := lt) d s ha hb
  obtain ⟨q1, q2, q3⟩ := pz6 (lt := lt) d (order2 lt d a b s).2.2 p2 hcn
  rw [uz9 hc hl d Hd a b s ha hb (by omega)]
  simp only [Option.bind_some]
  rw [uz9 hc hl d Hd _ c _ p2 hcn (by omega)]
  simp only [Option.bind_some]
  rw [uz9 hc hl d Hd _ _ _ p1 q1 (by omega)]
  rfl
theorem uz7 (hc : nz7 S cmp lt) (hl : lo + n ≤ l.length) (hn : n ≤ 1000000) (d : Array α) (Hd : Ok S n d) (a s : Nat) (ha : 1 ≤ a) (hb : a + 1 < n) (hs : s < 4000000000) :
    dzg cmp (W l lo d) lo n (a : Int) (s : Int) = some (c2 (medianAdjacent lt d a s)) := by
  have hd := Hd.1
  unfold dzg medianAdjacent
  rw [lzl ha (by omega), wn (by omega), uz8 hc hl d Hd _ _ _ _ (by omega) (by omega) hb hs]; rfl
def Fzi : Go.Sort.Hint → Int
  | .unknown => 0
  | .increasing => 1
  | .decreasing => 2
theorem Czz (hc : nz7 S cmp lt) (hl : lo + n ≤ l.length) (hn : n ≤ 1000000) (d : Array α) (Hd : Ok S n d) (a b : Nat) (ha : a < b) (hb : b ≤ n) :
    iz9 cmp (W l lo d) lo n (a : Int) (b : Int) = some (((choosePivot lt d a b).1 : Int), Fzi (choosePivot lt d a b).2) := by
  have hd := Hd.1
  unfold iz9 choosePivot
  have e1 : IntKind.i64.wrap ((b : Int) - (a : Int)) = ((b - a : Nat) : Int) := by rw [w64 (by omega) (by omega)]; omega
  have e2 : IntKind.i64.wrap ((((b - a : Nat) : Int)).tdiv 4) = (((b - a) / 4 : Nat) : Int) := by
    rw [Int.tdiv_eq_ediv_of_nonneg (by omega), w64 (by omega) (by omega)]; omega
  have e3 : IntKind.i64.wrap ((((b - a) / 4 : Nat) : Int) * 1) = (((b - a) / 4 * 1 : Nat) : Int) := by rw [w64 (by omega) (by omega)]; omega
  have e4 : IntKind.i64.wrap ((((b - a) / 4 : Nat) : Int) * 2) = (((b - a) / 4 * 2 : Nat) : Int) := by rw [w64 (by omega) (by omega)]; omega
  have e5 : IntKind.i64.wrap ((((b - a) / 4 : Nat) : Int) * 3) = (((b - a) / 4 * 3 : Nat) : Int) := by rw [w64 (by omega) (by omega)]; omega
  have e6 : IntKind.i64.wrap ((a : Int) + (((b - a) / 4 * 1 : Nat) : Int)) = ((a + (b - a) / 4 * 1 : Nat) : Int) := by rw [w64 (by omega) (by omega)]; omega
  have e7 : IntKind.i64.wrap ((a : Int) + (((b - a) / 4 * 2 : Nat) : Int)) = ((a + (b - a) / 4 * 2 : Nat) : Int) := by rw [w64 (by omega) (by omega)]; omega
  have e8 : IntKind.i64.wrap ((a : Int) + (((b - a) / 4 * 3 : Nat) : Int)) = ((a + (b - a) / 4 * 3 : Nat) : Int) := by rw [w64 (by omega) (by omega)]; omega
  have h0 : (0 : Int) = ((0 : Nat) : Int) := rfl
  simp only [e1, e2, e3, e4, e5, e6, e7, e8]
  suffices h : ∀ r : Nat × Nat, (bif ((r.2 : Nat) : Int) == 0 then some (((r.1 : Nat) : Int), (1 : Int)) else bif ((r.2 : Nat) : Int) == 12 then some (((r.1 : Nat) : Int), 2) else some (((r.1 : Nat) : Int), 0)) = some (((r.1 : Nat) : Int), Fzi (if r.2 = 0 then .increasing else if r.2 = 12 then .decreasing else .unknown)) by
    by_cases h8 : b - a ≥ 8
    · rw [az7 (by omega), if_pos h8]
      by_cases h50 : b - a ≥ 50
      · rw [az7 (by omega), if_pos h50]
        obtain ⟨p1, p2⟩ := uzi (lt := lt) (n := n) d (a := a + (b - a) / 4 * 1 - 1) (b := a + (b - a) / 4 * 1) (c := a + (b - a) / 4 * 1 + 1) 0 (by omega) (by omega) (by omega)
        have hA := uz7 hc hl hn d Hd (a + (b - a) / 4 * 1) 0 (by omega) (by omega) (by omega)
        change (medianAdjacent lt d (a + (b - a) / 4 * 1) 0).1 < n at p1
        change (medianAdjacent lt d (a + (b - a) / 4 * 1) 0).2 ≤ 0 + 3 at p2
        rw [h0, hA]
        simp only [Option.bind_some]
        generalize medianAdjacent lt d (a + (b - a) / 4 * 1) 0 = A at *
        obtain ⟨q1, q2⟩ := uzi (lt := lt) (n := n) d (a := a + (b - a) / 4 * 2 - 1) (b := a + (b - a) / 4 * 2) (c := a + (b - a) / 4 * 2 + 1) A.2 (by omega) (by omega) (by omega)
        have hB := uz7 hc hl hn d Hd (a + (b - a) / 4 * 2) A.2 (by omega) (by omega) (by omega)
        change (medianAdjacent lt d (a + (b - a) / 4 * 2) A.2).1 < n at q1
        change (medianAdjacent lt d (a + (b - a) / 4 * 2) A.2).2 ≤ A.2 + 3 at q2
        rw [hB]
        simp only [Option.bind_some]
        generalize medianAdjacent lt d (a + (b - a) / 4 * 2) A.2 = B at *
        obtain ⟨r1, r2⟩ := uzi (lt := lt) (n := n) d (a := a + (b - a) / 4 * 3 - 1) (b := a + (b - a) / 4 * 3) (c := a + (b - a) / 4 * 3 + 1) B.2 (by omega) (by omega) (by omega)
        have hC := uz7 hc hl hn d Hd (a + (b - a) / 4 * 3) B.2 (by omega) (by omega) (by omega)
        change (medianAdjacent lt d (a + (b - a) / 4 * 3) B.2).1 < n at r1
        change (medianAdjacent lt d (a + (b - a) / 4 * 3) B.2).2 ≤ B.2 + 3 at r2
        rw [hC]
        simp only [Option.bind_some, az5]
        generalize medianAdjacent lt d (a + (b - a) / 4 * 3) B.2 = C at *
        rw [uz8 hc hl d Hd _ _ _ _ p1 q1 r1 (by omega)]
        simp only [Option.bind_some, az5]
        exact h _
      · rw [az6 (by omega), if_neg h50, az5]
        simp only
        rw [h0, uz8 hc hl d Hd _ _ _ _ (by omega) (by omega) (by omega) (by omega)]
        simp only [Option.bind_some, az5]
        exact h _
    · rw [az6 (by omega), if_neg h8, az5]
      exact h (_, 0)
  intro r
  by_cases c1 : r.2 = 0
  · rw [fzh (by omega), if_pos c1]; rfl
  · rw [ezt (by omega), if_neg c1]
    by_cases c2 : r.2 = 12
    · rw [fzh (by omega), if_pos c2]; rfl
    · rw [ezt (by omega), if_neg c2]; rfl
theorem Bzx (hl : lo + n ≤ l.length) (hn : n ≤ 1000000) (d : Array α) (Hd : Ok S n d) (a b : Nat) (ha : a < b) (hb : b ≤ n) :
    gzs cmp (W l lo d) lo n (a : Int) (b : Int) = some (W l lo (reverseRange d a b)) := by
  have hd := Hd.1
  unfold gzs reverseRange
  rw [lzl (by omega) (by omega)]
  refine ozy (fun m (y : List α × Int × Int) => ∃ (i j : Nat) (e : Array α), y.1 = W l lo e ∧ y.2.1 = (i : Int) ∧ y.2.2 = (j : Int) ∧ Ok S n e ∧ i ≤ n ∧ j < n ∧ j ≤ i + m ∧ reverseLoop i j e = reverseLoop a (b - 1) d) b ⟨a, b - 1, d, rfl, rfl, rfl, Hd, by omega, by omega, by omega, rfl⟩ (by omega) ?_
  rintro m ⟨l1, y1, y2⟩ ⟨i, j, e, hl1, hy1, hy2, He, hi, hj, hm, heq⟩
  have he := He.1
  simp only at hl1 hy1 hy2 ⊢
  subst hl1; subst hy1; subst hy2
  have hW := qzm (l := l) (lo := lo) (d := e) (by omega)
  rw [reverseLoop] at heq
  by_cases hij : i < j
  · rw [if_pos hij] at heq
    simp only [Int.toNat_natCast]
    rw [az7 (by omega), az4 (by omega), az4 (by omega), az4 (by omega), az4 (by omega), az4 (by omega), az4 (by omega), az4 (by omega), az4 (by rw [List.length_set]; omega), qzn (by omega) (by omega) (by omega), wn (by omega), lzl (by omega) (by omega)]
    exact .inl ⟨_, m - 2, rfl, by omega, i + 1, j - 1, _, rfl, rfl, rfl, He.swp (by omega) (by omega), by omega, by omega, by omega, heq⟩
  · rw [if_neg hij] at heq
    rw [az6 (by omega)]
    exact .inr (.inl ⟨_, rfl, by rw [heq]⟩)
end
open Go.Sort (swp scanSorted shiftDown shiftUp partialIns partialInsertionSort)
theorem yzm {σ τ R : Type} {f : σ → Option (Step3 σ τ R)} {k : τ → Option R} {x : σ} (Y : τ) (I : Nat → σ → Prop) (m : Nat) (h0 : I m x) (hN : m < 4294967296)
    (hr : ∀ m x, I m x → (∃ x' m', f x = some (.next x') ∧ m' < m ∧ I m' x') ∨ f x = some (.out Y)) : andK (iter f NN x) k = k Y := by
  have go : ∀ (N m : Nat) (x : σ), I m x → m < N → iter f N x = some (.inl Y) := by
    intro N
    induction N with
    | zero => intro m x _ h; omega
    | succ N ih =>
      intro m x hi h
      rcases hr m x hi with ⟨x', m', h1, h2, h3⟩ | h1
      · simp only [iter, h1]; exact ih m' x' h3 (by omega)
      · simp [iter, h1]
  rw [tzh (go NN m x h0 hN)]
section
variable {α : Type} [Inhabited α] {l : List α} {lo n : Nat} {cmp : α → α → Option Int} {lt : α → α → Bool} {S : α → Prop}
theorem Kz9 : ∀ (j : Nat) (d : Array α), j < n → Ok S n d → Ok S n (shiftDown lt j d)
  | 0, _, _, h => h
  | j + 1, d, hj, h => by
    rw [shiftDown]
    split
    · exact h
    · exact Kz9 j _ (by omega) (h.swp (by omega) (by omega))
theorem Kza {b : Nat} (hb : b ≤ n) : ∀ (k j : Nat) (d : Array α), b - j ≤ k → Ok S n d → Ok S n (shiftUp lt b j d)
  | 0, j, d, h, hd => by rw [shiftUp, if_neg (by omega)]; exact hd
  | k + 1, j, d, h, hd => by
    rw [shiftUp]
    split
    · split
      · exact hd
      · exact Kza hb k _ _ (by omega) (hd.swp (by omega) (by omega))
    · exact hd
theorem Bzl (b : Nat) (d : Array α) : ∀ (k i : Nat), b - i ≤ k → i ≤ b → i ≤ scanSorted lt d b i ∧ scanSorted lt d b i ≤ b
  | 0, i, h, hi => by
    rw [scanSorted, if_neg (by simp only [Bool.and_eq_true, decide_eq_true_eq]; omega)]; omega
  | k + 1, i, h, hi => by
    rw [scanSorted]
    split
    · rename_i hc
      simp only [Bool.and_eq_true, decide_eq_true_eq] at hc
      have := Bzl b d k (i + 1) (by omega) (by omega)
      omega
    · omega
theorem Bzw (hc : nz7 S cmp lt) (hl : lo + n ≤ l.length) (hn : n ≤ 1000000) (d : Array α) (Hd : Ok S n d) (a b : Nat) (ha : a < b) (hb : b ≤ n) :
    cze cmp (W l lo d) lo n (a : Int) (b : Int) = some ((partialInsertionSort lt d a b).2, W l lo (partialInsertionSort lt d a b).1) := by
  have hd := Hd.1
  unfold cze partialInsertionSort
  rw [wn (by omega)]
  refine ozy (fun m (y : List α × Int × Int) => ∃ (i s : Nat) (e : Array α), y.1 = W l lo e ∧ y.2.1 = (i : Int) ∧ y.2.2 = 5 - (s : Int) ∧ Ok S n e ∧ a + 1 ≤ i ∧ i ≤ b ∧ s ≤ m ∧ s ≤ 5 ∧ partialIns lt a b s i e = partialIns lt a b 5 (a + 1) d) 5 ⟨a + 1, 5, d, rfl, rfl, rfl, Hd, by omega, by omega, by omega, by omega, rfl⟩ (by omega) ?_
  rintro m ⟨l1, y1, y2⟩ ⟨i, s, e, hl1, hy1, hy2, He, hi1, hi2, hsm, hs5, heq⟩
  have he := He.1
  simp only at hl1 hy1 hy2 ⊢
  subst hl1; subst hy1; subst hy2
  have hW := qzm (l := l) (lo := lo) (d := e) (by omega)
  cases s with
  | zero =>
    rw [partialIns] at heq
    rw [az6 (by omega)]
    exact .inr (.inl ⟨_, rfl, by rw [← heq]⟩)
  | succ s =>
  rw [partialIns] at heq
  simp only at heq
  obtain ⟨k1, k2⟩ := Bzl (lt := lt) b e _ i (Nat.le_refl _) hi2
  rw [az7 (by omega)]
  rw [yzm (k := _) ((scanSorted lt e b i : Nat) : Int) (fun m (y : Int) => ∃ i' : Nat, y = (i' : Int) ∧ i ≤ i' ∧ i' ≤ b ∧ b ≤ i' + m ∧ scanSorted lt e b i' = scanSorted lt e b i) b ⟨i, rfl, Nat.le_refl _, hi2, by omega, rfl⟩ (by omega) (by
    rintro m y ⟨i', rfl, q1, q2, q3, q4⟩
    rw [scanSorted] at q4
    by_cases hib : i' < b
    · obtain ⟨z, z1, z2⟩ := lzq hc hl He (i := i') (j := i' - 1) (by omega) (by omega)
      rw [az7 (by omega), lzl (by omega) (by omega)]
      simp only [Int.toNat_natCast]
      rw [az4 (by omega), az4 (by omega), az4 (by omega), az4 (by omega), z1]
      simp only [Option.bind_some, az5, z2]
      cases hlt : lt e[i']! e[i' - 1]! with
      | false =>
        rw [hlt, decide_eq_true hib, if_pos (show (true && !false) = true from rfl)] at q4
        simp only [Bool.not_false, cond_true]
        rw [wn (by omega)]
        exact .inl ⟨_, m - 1, rfl, by omega, i' + 1, rfl, by omega, by omega, by omega, q4⟩
      | true =>
        rw [hlt, Bool.not_true, Bool.and_false, if_neg (show ¬ false = true by decide)] at q4
        exact .inr (by rw [← q4]; rfl)
    · rw [decide_eq_false hib, Bool.false_and, if_neg (show ¬ false = true by decide)] at q4
      rw [az6 (by omega), az5]
      exact .inr (by rw [← q4]; rfl))]
  generalize scanSorted lt e b i = p at *
  by_cases hpb : p = b
  · rw [if_pos hpb] at heq
    rw [fzh (by omega)]
    exact .inr (.inr (by rw [← heq]; rfl))
  rw [if_neg hpb] at heq
  have e1 : IntKind.i64.wrap ((b : Int) - (a : Int)) = ((b - a : Nat) : Int) := by rw [w64 (by omega) (by omega)]; omega
  rw [ezt (by omega), e1]
  by_cases h50 : b - a < 50
  · rw [if_pos h50] at heq
    rw [az7 (by omega)]
    exact .inr (.inr (by rw [← heq]; rfl))
  rw [if_neg h50] at heq
  have e2 : IntKind.i64.wrap ((p : Int) - (a : Int)) = ((p - a : Nat) : Int) := by rw [w64 (by omega) (by omega)]; omega
  have e3 : IntKind.i64.wrap ((b : Int) - (p : Int)) = ((b - p : Nat) : Int) := by rw [w64 (by omega) (by omega)]; omega
  have e4 := lzl (n := p) (by omega) (by omega)
  simp only [e2, e3, e4, Int.toNat_natCast]
  rw [az6 (by omega), az4 (by omega), az4 (by omega), az4 (by omega), az4 (by omega), az4 (by omega), az4 (by omega), az4 (by omega), az4 (by rw [List.length_set]; omega), qzn (by omega) (by omega) (by omega)]
  have Hd1 : Ok S n (swp e p (p - 1)) := He.swp (by omega) (by omega)
  generalize swp e p (p - 1) = d1 at *
  have hd1 := Hd1.1
  have Hd2 : Ok S n (if p - a ≥ 2 then shiftDown lt (p - 1) d1 else d1) := by
    split
    · exact Kz9 _ _ (by omega) Hd1
    · exact Hd1
  rw [Azs (y := W l lo (if p - a ≥ 2 then shiftDown lt (p - 1) d1 else d1)) (by
    by_cases h2 : p - a ≥ 2
    · rw [az7 (by omega), if_pos h2]
      refine ozy (fun m (y : List α × Int) => ∃ (j : Nat) (e' : Array α), y.1 = W l lo e' ∧ y.2 = (j : Int) ∧ Ok S n e' ∧ j < n ∧ j ≤ m ∧ shiftDown lt j e' = shiftDown lt (p - 1) d1) (p - 1) ⟨p - 1, d1, rfl, rfl, Hd1, by omega, Nat.le_refl _, rfl⟩ (by omega) ?_
      rintro m ⟨l2, y⟩ ⟨j, e', hl2, hy, He', hj, hjm, heq'⟩
      have he' := He'.1
      simp only at hl2 hy ⊢
      subst hl2; subst hy
      have hW := qzm (l := l) (lo := lo) (d := e') (by omega)
      cases j with
      | zero =>
        rw [shiftDown] at heq'
        rw [az6 (by omega)]
        exact .inr (.inl ⟨_, rfl, by rw [heq']⟩)
      | succ j =>
        rw [shiftDown] at heq'
        obtain ⟨z, z1, z2⟩ := lzq hc hl He' (i := (j + 1)) (j := j) (by omega) (by omega)
        rw [az7 (by omega), Jzb (by omega)]
        simp only [Int.toNat_natCast]
        rw [az4 (by omega), az4 (by omega), az4 (by omega), az4 (by omega), z1]
        simp only [Option.bind_some, z2]
        cases hlt : lt e'[j + 1]! e'[j]! with
        | false =>
          rw [hlt, if_pos (show (!false) = true from rfl)] at heq'
          exact .inr (.inl ⟨_, rfl, by rw [heq']⟩)
        | true =>
          rw [hlt, if_neg (show ¬ (!true) = true by decide)] at heq'
          simp only [Bool.not_true, cond_false]
          rw [az4 (by omega), az4 (by omega), az4 (by omega), az4 (by omega), az4 (by omega), az4 (by omega), az4 (by omega), az4 (by rw [List.length_set]; omega)]
          exact .inl ⟨_, j, rfl, by omega, j, _, qzn (by omega) (by omega) (by omega), rfl, He'.swp (by omega) (by omega), by omega, Nat.le_refl _, heq'⟩
    · rw [az6 (by omega), if_neg h2])]
  generalize (if p - a ≥ 2 then shiftDown lt (p - 1) d1 else d1) = d2 at *
  have hd2 := Hd2.1
  have hd3 : Ok S n (if b - p ≥ 2 then shiftUp lt b (p + 1) d2 else d2) := by
    split
    · exact Kza hb _ _ _ (Nat.le_refl _) Hd2
    · exact Hd2
  rw [Azs (y := (W l lo (if b - p ≥ 2 then shiftUp lt b (p + 1) d2 else d2), ((p : Nat) : Int))) (by
    by_cases h2 : b - p ≥ 2
    · rw [az7 (by omega), if_pos h2, wn (by omega)]
      refine ozy (fun m (y : List α × Int) => ∃ (j : Nat) (e' : Array α), y.1 = W l lo e' ∧ y.2 = (j : Int) ∧ Ok S n e' ∧ 1 ≤ j ∧ j ≤ b ∧ b ≤ j + m ∧ shiftUp lt b j e' = shiftUp lt b (p + 1) d2) b ⟨p + 1, d2, rfl, rfl, Hd2, by omega, by omega, by omega, rfl⟩ (by omega) ?_
      rintro m ⟨l2, y⟩ ⟨j, e', hl2, hy, He', hj, hjb, hjm, heq'⟩
      have he' := He'.1
      simp only at hl2 hy ⊢
      subst hl2; subst hy
      have hW := qzm (l := l) (lo := lo) (d := e') (by omega)
      rw [shiftUp] at heq'
      by_cases hjb2 : j < b
      · rw [if_pos hjb2] at heq'
        obtain ⟨z, z1, z2⟩ := lzq hc hl He' (i := j) (j := (j - 1)) (by omega) (by omega)
        rw [az7 (by omega), lzl (by omega) (by omega)]
        simp only [Int.toNat_natCast]
        rw [az4 (by omega), az4 (by omega), az4 (by omega), az4 (by omega), z1]
        simp only [Option.bind_some, z2]
        cases hlt : lt e'[j]! e'[j - 1]! with
        | false =>
          rw [hlt, if_pos (show (!false) = true from rfl)] at heq'
          exact .inr (.inl ⟨_, rfl, by rw [heq']⟩)
        | true =>
          rw [hlt, if_neg (show ¬ (!true) = true by decide)] at heq'
          simp only [Bool.not_true, cond_false]
          rw [az4 (by omega), az4 (by omega), az4 (by omega), az4 (by omega), az4 (by omega), az4 (by omega), az4 (by omega), az4 (by rw [List.length_set]; omega), wn (by omega)]
          exact .inl ⟨_, m - 1, rfl, by omega, j + 1, _, qzn (by omega) (by omega) (by omega), rfl, He'.swp (by omega) (by omega), by omega, by omega, by omega, heq'⟩
      · rw [if_neg hjb2] at heq'
        rw [az6 (by omega)]
        exact .inr (.inl ⟨_, rfl, by rw [heq']⟩)
    · rw [az6 (by omega), if_neg h2])]
  have e5 : IntKind.i64.wrap (5 - ((s + 1 : Nat) : Int) + 1) = 5 - (s : Int) := by rw [w64 (by omega) (by omega)]; omega
  rw [e5]
  exact .inl ⟨_, s, rfl, by omega, p, s, _, rfl, rfl, rfl, hd3, by omega, by omega, Nat.le_refl _, by omega, heq⟩
end
open Go.Sort (swp scanUp scanDown scanUp_spec scanDown_spec partLoop partLoop_eq partEqLoop partEqLoop_eq partition partitionEqual)
section
variable {α : Type} [Inhabited α] {l : List α} {lo n : Nat} {cmp : α → α → Option Int} {lt : α → α → Bool} {S : α → Prop}
theorem up_o {R : Type} {f : Int → Option (Step3 Int Int R)} {k : Int → Option R} (p : α → Bool) (d : Array α) (i j : Nat) (hij : i ≤ j + 1) (hj : j < 1000000)
    (hf : ∀ t, i ≤ t → t ≤ j + 1 → f ((t : Nat) : Int) = if decide (t ≤ j) && p d[t]! then some (.next ((t + 1 : Nat) : Int)) else some (.out ((t : Nat) : Int))) : andK (iter f NN (i : Int)) k = k ((scanUp p d j i : Nat) : Int) := by
  refine yzm _ (fun m (y : Int) => ∃ t : Nat, y = (t : Int) ∧ i ≤ t ∧ t ≤ j + 1 ∧ j + 1 ≤ t + m ∧ scanUp p d j t = scanUp p d j i) (j + 1) ⟨i, rfl, Nat.le_refl _, hij, by omega, rfl⟩ (by omega) ?_
  rintro m y ⟨t, rfl, h1, h2, h3, h4⟩
  rw [hf t h1 h2]
  rw [scanUp] at h4
  by_cases hc : (decide (t ≤ j) && p d[t]!) = true
  · rw [if_pos hc] at h4 ⊢
    have : t ≤ j := by simp only [Bool.and_eq_true, decide_eq_true_eq] at hc; exact hc.1
    exact .inl ⟨_, m - 1, rfl, by omega, t + 1, rfl, by omega, by omega, by omega, h4⟩
  · rw [if_neg hc] at h4 ⊢
    exact .inr (by rw [h4])
theorem Czr {R : Type} {f : Int → Option (Step3 Int Int R)} {k : Int → Option R} (p : α → Bool) (d : Array α) (i j : Nat) (hi : 1 ≤ i) (hj : j < 1000000)
    (hf : ∀ t, t ≤ j → f ((t : Nat) : Int) = if decide (i ≤ t) && p d[t]! then some (.next ((t - 1 : Nat) : Int)) else some (.out ((t : Nat) : Int))) : andK (iter f NN (j : Int)) k = k ((scanDown p d i j : Nat) : Int) := by
  refine yzm _ (fun m (y : Int) => ∃ t : Nat, y = (t : Int) ∧ t ≤ j ∧ t ≤ m ∧ scanDown p d i t = scanDown p d i j) j ⟨j, rfl, Nat.le_refl _, Nat.le_refl _, rfl⟩ (by omega) ?_
  rintro m y ⟨t, rfl, h1, h2, h4⟩
  rw [hf t h1]
  cases t with
  | zero =>
    rw [scanDown] at h4
    rw [decide_eq_false (by omega), Bool.false_and, if_neg (show ¬ false = true by decide)]
    exact .inr (by rw [← h4])
  | succ t =>
    rw [scanDown] at h4
    by_cases hc : (decide (i ≤ t + 1) && p d[t + 1]!) = true
    · rw [if_pos hc] at h4 ⊢
      exact .inl ⟨_, m - 1, rfl, by omega, t, rfl, by omega, by omega, h4⟩
    · rw [if_neg hc] at h4 ⊢
      exact .inr (by rw [h4])
theorem vz6 (p q : α → Bool) (hq : ∀ x, q x = !p x) (d : Array α) {i j : Nat} (hi : 1 ≤ i) (hij : i ≤ j + 1) : i ≤ scanUp p d j i ∧ scanUp p d j i ≤ j + 1 ∧ scanDown q d (scanUp p d j i) j ≤ j ∧ scanUp p d j i ≤ scanDown q d (scanUp p d j i) j + 1 ∧ ¬ scanUp p d j i = scanDown q d (scanUp p d j i) j := by
  obtain ⟨a1, a2, a3, a4⟩ := scanUp_spec p d j _ i rfl
  obtain ⟨b1, b2, b3, b4⟩ := scanDown_spec q d (scanUp p d j i) j
  refine ⟨a1, a2 hij, b1, b2 (a2 hij), fun h => ?_⟩
  have h1 := a4 (by omega)
  have h2 := b4 (by omega) (by omega)
  rw [hq, ← h, h1] at h2; cases h2
theorem Dz0 (hc : nz7 S cmp lt) (hl : lo + n ≤ l.length) (hn : n ≤ 1000000) (d : Array α) (Hd : Ok S n d) (a b p : Nat) (hap : a ≤ p) (hpb : p < b) (hb : b ≤ n) :
    fz8 cmp (W l lo d) lo n (a : Int) (b : Int) (p : Int) = some (((partitionEqual lt d a b p).1 : Int), W l lo (partitionEqual lt d a b p).2) := by
  have hd := Hd.1
  unfold fz8 partitionEqual
  have hW := qzm (l := l) (lo := lo) (d := d) (by omega)
  simp only [Int.toNat_natCast]
  rw [az4 (by omega), az4 (by omega), az4 (by omega), az4 (by omega), az4 (by omega), az4 (by omega), az4 (by omega), az4 (by rw [List.length_set]; omega), qzn (by omega) (by omega) (by omega), wn (by omega), lzl (by omega) (by omega)]
  have Hd1 : Ok S n (swp d a p) := Hd.swp (by omega) (by omega)
  generalize swp d a p = d1 at *
  have hd1 := Hd1.1
  refine ozy (fun m (y : List α × Int × Int) => ∃ (i j : Nat) (e : Array α), y.1 = W l lo e ∧ y.2.1 = (i : Int) ∧ y.2.2 = (j : Int) ∧ Ok S n e ∧ a < i ∧ i ≤ j + 1 ∧ j < b ∧ j + 1 ≤ i + m ∧ partEqLoop lt a i j e = partEqLoop lt a (a + 1) (b - 1) d1) b ⟨a + 1, b - 1, d1, rfl, rfl, rfl, Hd1, by omega, by omega, by omega, by omega, rfl⟩ (by omega) ?_
  rintro m ⟨l1, y1, y2⟩ ⟨i, j, e, hl1, hy1, hy2, He, hai, hij, hjb, hm, heq⟩
  have he := He.1
  simp only at hl1 hy1 hy2 ⊢
  subst hl1; subst hy1; subst hy2
  have hW := qzm (l := l) (lo := lo) (d := e) (by omega)
  rw [partEqLoop_eq] at heq
  obtain ⟨s1, s2, s3, s4, s5⟩ := vz6 (fun x => !lt e[a]! x) (fun x => lt e[a]! x) (fun x => by simp) e (i := i) (j := j) (by omega) hij
  rw [up_o (fun x => !lt e[a]! x) e i j hij (by omega) (fun t ht1 ht2 => by
    by_cases htj : t ≤ j
    · obtain ⟨z, z1, z2⟩ := lzq hc hl He (i := a) (j := t) (by omega) (by omega)
      simp only [Int.toNat_natCast]
      rw [az7 (by omega), az4 (by omega), az4 (by omega), az4 (by omega), az4 (by omega), z1, decide_eq_true htj]
      simp only [Option.bind_some, az5, z2, Bool.true_and]
      rw [wn (by omega)]
      cases lt e[a]! e[t]! <;> rfl
    · rw [az6 (by omega), az5, decide_eq_false htj]; rfl)]
  generalize scanUp (fun x => !lt e[a]! x) e j i = i2 at *
  rw [Czr (fun x => lt e[a]! x) e i2 j (by omega) (by omega) (fun t ht => by
    by_cases hit : i2 ≤ t
    · obtain ⟨z, z1, z2⟩ := lzq hc hl He (i := a) (j := t) (by omega) (by omega)
      simp only [Int.toNat_natCast]
      rw [az7 (by omega), az4 (by omega), az4 (by omega), az4 (by omega), az4 (by omega), z1, decide_eq_true hit]
      simp only [Option.bind_some, az5, z2, Bool.true_and]
      rw [lzl (by omega) (by omega)]
      cases lt e[a]! e[t]! <;> rfl
    · rw [az6 (by omega), az5, decide_eq_false hit]; rfl)]
  generalize scanDown (fun x => lt e[a]! x) e i2 j = j2 at *
  by_cases hgt : i2 > j2
  · rw [if_pos hgt] at heq
    rw [az7 (by omega)]
    exact .inr (.inl ⟨_, rfl, by rw [← heq]⟩)
  · rw [if_neg hgt] at heq
    simp only [Int.toNat_natCast]
    rw [az6 (by omega), az4 (by omega), az4 (by omega), az4 (by omega), az4 (by omega), az4 (by omega), az4 (by omega), az4 (by omega), az4 (by rw [List.length_set]; omega), qzn (by omega) (by omega) (by omega), wn (by omega), lzl (by omega) (by omega)]
    exact .inl ⟨_, m - 2, rfl, by omega, i2 + 1, j2 - 1, _, rfl, rfl, rfl, He.swp (by omega) (by omega), by omega, by omega, by omega, by omega, heq⟩
theorem Iz2 (hc : nz7 S cmp lt) (hl : lo + n ≤ l.length) (hn : n ≤ 1000000) (d : Array α) (Hd : Ok S n d) (a b p : Nat) (hap : a ≤ p) (hpb : p < b) (hb : b ≤ n) :
    kzt cmp (W l lo d) lo n (a : Int) (b : Int) (p : Int) = some (((partition lt d a b p).1 : Int), (partition lt d a b p).2.1, W l lo (partition lt d a b p).2.2) := by
  have hd := Hd.1
  unfold kzt partition
  have hW := qzm (l := l) (lo := lo) (d := d) (by omega)
  simp only [Int.toNat_natCast]
  rw [az4 (by omega), az4 (by omega), az4 (by omega), az4 (by omega), az4 (by omega), az4 (by omega), az4 (by omega), az4 (by rw [List.length_set]; omega)]
  simp only [qzn (l := l) (lo := lo) (d := d) (i := a) (j := p) (by omega) (by omega) (by omega)]
  rw [wn (by omega)]
  simp only [lzl (n := b) (by omega) (by omega)]
  have He : Ok S n (swp d a p) := Hd.swp (by omega) (by omega)
  generalize swp d a p = e at *
  have hd1 := He.1
  clear hW
  have hW := qzm (l := l) (lo := lo) (d := e) (by omega)
  obtain ⟨s1, s2, s3, s4, s5⟩ := vz6 (fun x => lt x e[a]!) (fun x => !lt x e[a]!) (fun x => rfl) e (i := a + 1) (j := b - 1) (by omega) (by omega)
  rw [up_o (fun x => lt x e[a]!) e (a + 1) (b - 1) (by omega) (by omega) (fun t ht1 ht2 => by
    by_cases htj : t ≤ b - 1
    · obtain ⟨z, z1, z2⟩ := lzq hc hl He (i := t) (j := a) (by omega) (by omega)
      simp only [Int.toNat_natCast]
      rw [az7 (by omega), az4 (by omega), az4 (by omega), az4 (by omega), az4 (by omega), z1, decide_eq_true htj]
      simp only [Option.bind_some, az5, z2, Bool.true_and]
      rw [wn (by omega)]
      cases lt e[t]! e[a]! <;> rfl
    · rw [az6 (by omega), az5, decide_eq_false htj]; rfl)]
  generalize scanUp (fun x => lt x e[a]!) e (b - 1) (a + 1) = i1 at *
  rw [Czr (fun x => !lt x e[a]!) e i1 (b - 1) (by omega) (by omega) (fun t ht => by
    by_cases hit : i1 ≤ t
    · obtain ⟨z, z1, z2⟩ := lzq hc hl He (i := t) (j := a) (by omega) (by omega)
      simp only [Int.toNat_natCast]
      rw [az7 (by omega), az4 (by omega), az4 (by omega), az4 (by omega), az4 (by omega), z1, decide_eq_true hit]
      simp only [Option.bind_some, az5, z2, Bool.true_and]
      rw [lzl (by omega) (by omega)]
      cases lt e[t]! e[a]! <;> rfl
    · rw [az6 (by omega), az5, decide_eq_false hit]; rfl)]
  generalize scanDown (fun x => !lt x e[a]!) e i1 (b - 1) = j1 at *
  simp only [Int.toNat_natCast]
  by_cases hgt : i1 > j1
  · rw [az7 (by omega), if_pos hgt, az4 (by omega), az4 (by omega), az4 (by omega), az4 (by omega), az4 (by omega), az4 (by omega), az4 (by omega), az4 (by rw [List.length_set]; omega), qzn (by omega) (by omega) (by omega)]
  · rw [az6 (by omega), if_neg hgt, az4 (by omega), az4 (by omega), az4 (by omega), az4 (by omega), az4 (by omega), az4 (by omega), az4 (by omega), az4 (by rw [List.length_set]; omega), qzn (by omega) (by omega) (by omega), wn (by omega), lzl (by omega) (by omega)]
    have Hd2 : Ok S n (swp e i1 j1) := He.swp (by omega) (by omega)
    generalize swp e i1 j1 = d2 at *
    have hd2 := Hd2.1
    refine ozy (fun m (y : List α × Int × Int) => ∃ (i j : Nat) (e : Array α), y.1 = W l lo e ∧ y.2.1 = (i : Int) ∧ y.2.2 = (j : Int) ∧ Ok S n e ∧ a < i ∧ i ≤ j + 1 ∧ j < b ∧ j + 1 ≤ i + m ∧ partLoop lt a i j e = partLoop lt a (i1 + 1) (j1 - 1) d2) b ⟨i1 + 1, j1 - 1, d2, rfl, rfl, rfl, Hd2, by omega, by omega, by omega, by omega, rfl⟩ (by omega) ?_
    rintro m ⟨l1, y1, y2⟩ ⟨i, j, e, hl1, hy1, hy2, He, hai, hij, hjb, hm, heq⟩
    have he := He.1
    simp only at hl1 hy1 hy2 ⊢
    subst hl1; subst hy1; subst hy2
    have hW := qzm (l := l) (lo := lo) (d := e) (by omega)
    rw [partLoop_eq] at heq
    obtain ⟨s1, s2, s3, s4, s5⟩ := vz6 (fun x => lt x e[a]!) (fun x => !lt x e[a]!) (fun x => rfl) e (i := i) (j := j) (by omega) hij
    rw [up_o (fun x => lt x e[a]!) e i j hij (by omega) (fun t ht1 ht2 => by
      by_cases htj : t ≤ j
      · obtain ⟨z, z1, z2⟩ := lzq hc hl He (i := t) (j := a) (by omega) (by omega)
        simp only [Int.toNat_natCast]
        rw [az7 (by omega), az4 (by omega), az4 (by omega), az4 (by omega), az4 (by omega), z1, decide_eq_true htj]
        simp only [Option.bind_some, az5, z2, Bool.true_and]
        rw [wn (by omega)]
        cases lt e[t]! e[a]! <;> rfl
      · rw [az6 (by omega), az5, decide_eq_false htj]; rfl)]
    generalize scanUp (fun x => lt x e[a]!) e j i = i2 at *
    rw [Czr (fun x => !lt x e[a]!) e i2 j (by omega) (by omega) (fun t ht => by
      by_cases hit : i2 ≤ t
      · obtain ⟨z, z1, z2⟩ := lzq hc hl He (i := t) (j := a) (by omega) (by omega)
        simp only [Int.toNat_natCast]
        rw [az7 (by omega), az4 (by omega), az4 (by omega), az4 (by omega), az4 (by omega), z1, decide_eq_true hit]
        simp only [Option.bind_some, az5, z2, Bool.true_and]
        rw [lzl (by omega) (by omega)]
        cases lt e[t]! e[a]! <;> rfl
      · rw [az6 (by omega), az5, decide_eq_false hit]; rfl)]
    generalize scanDown (fun x => !lt x e[a]!) e i2 j = j2 at *
    by_cases hgt : i2 > j2
    · rw [if_pos hgt] at heq
      rw [az7 (by omega)]
      refine .inr (.inl ⟨_, rfl, ?_⟩)
      rw [← heq]
      simp only [Int.toNat_natCast]
      rw [az4 (by omega), az4 (by omega), az4 (by omega), az4 (by omega), az4 (by omega), az4 (by omega), az4 (by omega), az4 (by rw [List.length_set]; omega), qzn (by omega) (by omega) (by omega)]
    · rw [if_neg hgt] at heq
      simp only [Int.toNat_natCast]
      rw [az6 (by omega), az4 (by omega), az4 (by omega), az4 (by omega), az4 (by omega), az4 (by omega), az4 (by omega), az4 (by omega), az4 (by rw [List.length_set]; omega), qzn (by omega) (by omega) (by omega), wn (by omega), lzl (by omega) (by omega)]
      exact .inl ⟨_, m - 2, rfl, by omega, i2 + 1, j2 - 1, _, rfl, rfl, rfl, He.swp (by omega) (by omega), by omega, by omega, by omega, by omega, heq⟩
end
open Go.Sort (swp size_swp PermIn SortedIn Below SWO swp_permIn permIn_refl permIn_trans insertionSort_holds heapSort_holds partialInsertionSort_holds partition_holds partitionEqual_holds reverseRange_holds choosePivot_holds round_eq round_part choosePivot partition partitionEqual reverseRange partialInsertionSort)
def Rd {σ τ R : Type} (I : Nat → σ → Prop) (P : R → Prop) (m : Nat) (o : Option (Step3 σ τ R)) : Prop := (∃ x' m', o = some (.next x') ∧ m' < m ∧ I m' x') ∨ ∃ r, o = some (.fin r) ∧ P r
theorem Izi {σ τ R : Type} {f : σ → Option (Step3 σ τ R)} {k : τ → Option R} {P : R → Prop} {x : σ} (I : Nat → σ → Prop) (m : Nat) (h0 : I m x) (hN : m < 4294967296) (hr : ∀ m x, I m x → Rd I P m (f x)) : ∃ r, andK (iter f NN x) k = some r ∧ P r :=
  ezm I (fun _ => False) m h0 hN (fun m x hi => (hr m x hi).elim .inl fun h => .inr (.inr h)) (fun _ h => h.elim)
theorem Azt {τ R : Type} {A : Option (Step3 Unit τ R)} {k : τ → Option R} {G : Option R → Prop} (Q : τ → Prop) (h : (∃ y, A = some (.out y) ∧ Q y) ∨ ∃ r, A = some (.fin r) ∧ G (some r)) (hk : ∀ y, Q y → G (k y)) : G (andC A k) := by
  rcases h with ⟨y, rfl, h⟩ | ⟨r, rfl, h⟩
  · exact hk y h
  · exact h
section
variable {α : Type} [Inhabited α] {l : List α} {lo n : Nat} {cmp : α → α → Option Int} {lt : α → α → Bool} {S : α → Prop} {npow : Int → Option Int} {xnext : Int → Option (Int × Int)}
theorem wu (n : Int) : IntKind.u64.wrap n = n % 18446744073709551616 := rfl
theorem Jzg (x : Int) (P : Nat) (h1 : 1 ≤ P) (h2 : P ≤ 4000000) : ∃ t : Nat, IntKind.i64.wrap (IntKind.u64.wrap (((BitVec.ofInt 64 x &&& BitVec.ofInt 64 (IntKind.u64.wrap ((P : Int) - 1))).toNat : Int))) = (t : Int) ∧ t < P := by
  have e1 : IntKind.u64.wrap ((P : Int) - 1) = ((P - 1 : Nat) : Int) := by
    rw [wu]; omega
  have e2 : (BitVec.ofInt 64 ((P - 1 : Nat) : Int)).toNat = P - 1 := by simp; omega
  have h3 : (BitVec.ofInt 64 x &&& BitVec.ofInt 64 ((P - 1 : Nat) : Int)).toNat ≤ P - 1 := by
    rw [BitVec.toNat_and, e2]; exact Nat.and_le_right
  rw [e1]
  generalize (BitVec.ofInt 64 x &&& BitVec.ofInt 64 ((P - 1 : Nat) : Int)).toNat = t at h3
  have e3 : IntKind.u64.wrap (t : Int) = (t : Int) := by rw [wu]; omega
  exact ⟨t, by rw [e3, w64 (by omega) (by omega)], by omega⟩
def NpOk (npow : Int → Option Int) : Prop := ∀ m : Nat, 8 ≤ m → m ≤ 1000000 → ∃ P : Nat, npow (m : Int) = some (P : Int) ∧ 1 ≤ P ∧ P ≤ 2 * m
def XnOk (xnext : Int → Option (Int × Int)) : Prop := ∀ x, ∃ y, xnext x = some y
theorem Fze (hnp : NpOk npow) (hxn : XnOk xnext) (hl : lo + n ≤ l.length) (hn : n ≤ 1000000) (d : Array α) (Hd : Ok S n d) (a b : Nat) (ha : a ≤ b) (hb : b ≤ n) :
    ∃ e, fzv cmp npow xnext (W l lo d) lo n (a : Int) (b : Int) = some (W l lo e) ∧ PermIn a b d e := by
  have hd := Hd.1
  unfold fzv
  have e1 : IntKind.i64.wrap ((b : Int) - (a : Int)) = ((b - a : Nat) : Int) := by rw [w64 (by omega) (by omega)]; omega
  have e2 : IntKind.i64.wrap ((((b - a : Nat) : Int)).tdiv 4) = (((b - a) / 4 : Nat) : Int) := by
    rw [Int.tdiv_eq_ediv_of_nonneg (by omega), w64 (by omega) (by omega)]; omega
  have e4 : IntKind.i64.wrap ((((b - a) / 4 : Nat) : Int) * 2) = (((b - a) / 4 * 2 : Nat) : Int) := by rw [w64 (by omega) (by omega)]; omega
  have e7 : IntKind.i64.wrap ((a : Int) + (((b - a) / 4 * 2 : Nat) : Int)) = ((a + (b - a) / 4 * 2 : Nat) : Int) := by rw [w64 (by omega) (by omega)]; omega
  simp only [e1, e2, e4, e7]
  by_cases h8 : b - a ≥ 8
  · obtain ⟨P, p1, p2, p3⟩ := hnp (b - a) h8 (by omega)
    rw [az7 (by omega), p1, wn (by omega), lzl (by omega) (by omega)]
    simp only [Option.bind_some]
    suffices h : ∃ r, _ = some r ∧ ∃ e, r = W l lo e ∧ PermIn a b d e by
      obtain ⟨r, h1, e, rfl, h2⟩ := h
      exact ⟨e, h1, h2⟩
    refine ezm (fun m (y : List α × Int × Int) => ∃ (t : Nat) (e : Array α), y.1 = W l lo e ∧ y.2.2 = (t : Int) ∧ Ok S n e ∧ a ≤ t ∧ t ≤ a + (b - a) / 4 * 2 + 2 ∧ n + 3 ≤ t + m ∧ PermIn a b d e) (fun y => ∃ e, y = W l lo e ∧ PermIn a b d e) (n + 3) ⟨a + (b - a) / 4 * 2 - 1, d, rfl, rfl, Hd, by omega, by omega, by omega, permIn_refl _ _ _⟩ (by omega) ?_ (fun y hy => ⟨_, rfl, hy⟩)
    rintro m ⟨l1, y1, y2⟩ ⟨t, e, hl1, hy, He, h1, h2, h3, h4⟩
    have he := He.1
    simp only at hl1 hy ⊢
    subst hl1; subst hy
    have hW := qzm (l := l) (lo := lo) (d := e) (by omega)
    by_cases ht : t ≤ a + (b - a) / 4 * 2 + 1
    · obtain ⟨x, hx⟩ := hxn y1
      obtain ⟨o, o1, o2⟩ := Jzg x.1 P p2 (by omega)
      rw [az7 (by omega), hx]
      simp only [Option.bind_some]
      rw [o1]
      have hA : (bif decide ((o : Int) ≥ ((b - a : Nat) : Int)) then some (Step3.out (IntKind.i64.wrap ((o : Int) - ((b - a : Nat) : Int)))) else some (Step3.out (o : Int)) : Option (Step3 Unit Int (Step3 (List α × Int × Int) (List α) (List α)))) = some (.out ((if o ≥ b - a then o - (b - a) else o : Nat) : Int)) := by
        by_cases ho : o ≥ b - a
        · rw [az7 (by omega), if_pos ho, w64 (by omega) (by omega)]
          congr 2; omega
        · rw [az6 (by omega), if_neg ho]
      rw [Azs hA]
      have ho : (if o ≥ b - a then o - (b - a) else o) < b - a := by split <;> omega
      generalize (if o ≥ b - a then o - (b - a) else o) = q at ho
      have e9 : IntKind.i64.wrap ((a : Int) + (q : Int)) = ((a + q : Nat) : Int) := by rw [w64 (by omega) (by omega)]; omega
      simp only [e9, Int.toNat_natCast]
      rw [az4 (by omega), az4 (by omega), az4 (by omega), az4 (by omega), az4 (by omega), az4 (by omega), az4 (by omega), az4 (by rw [List.length_set]; omega), qzn (by omega) (by omega) (by omega), wn (by omega)]
      exact .inl ⟨_, m - 1, rfl, by omega, t + 1, _, rfl, rfl, He.swp (by omega) (by omega), by omega, by omega, by omega, permIn_trans _ _ _ _ _ h4 (swp_permIn _ _ _ _ _ (by omega) (by omega) (by omega) (by omega) (by omega))⟩
    · rw [az6 (by omega)]
      exact .inr (.inl ⟨_, rfl, e, rfl, h4⟩)
  · rw [az6 (by omega)]
    exact ⟨d, rfl, permIn_refl _ _ _⟩
def Fz1 (l : List α) (lo : Nat) (lt : α → α → Bool) (d : Array α) (a b : Nat) (r : List α) : Prop := ∃ e, r = W l lo e ∧ PermIn a b d e ∧ SortedIn lt a b e
theorem Jzq (hc : nz7 S cmp lt) (hS : SWO lt) (hnp : NpOk npow) (hxn : XnOk xnext) (hl : lo + n ≤ l.length) (hn : n ≤ 1000000) {rec : (List α) × Nat × Nat × Int × Int × Int → Option (List α)} (d : Array α) (Hd : Ok S n d) (a b L : Nat) (hab : a ≤ b) (hb : b ≤ n) (hB : Below lt a b d) (hLb : L ≤ 1000)
    (hrec : ∀ (e : Array α) (x y L : Nat), L ≤ 1000 → Ok S n e → x ≤ y → y ≤ n → y - x < b - a → Below lt x y e → ∃ r, rec (W l lo e, lo, n, (x : Int), (y : Int), (L : Int)) = some r ∧ Fz1 l lo lt e x y r) :
    ∃ r, pzs cmp npow xnext rec (W l lo d) lo n (a : Int) (b : Int) (L : Int) = some r ∧ Fz1 l lo lt d a b r := by
  have hd := Hd.1
  unfold pzs
  refine Izi (fun m (y : List α × Int × Int × Int × Bool × Bool) => ∃ (e : Array α) (a1 b1 L : Nat), y.1 = W l lo e ∧ y.2.1 = (a1 : Int) ∧ y.2.2.1 = (b1 : Int) ∧ (y.2.2.2.1 = (L : Int) ∧ L ≤ 1000) ∧ Ok S n e ∧ a ≤ a1 ∧ a1 ≤ b1 ∧ b1 ≤ b ∧ b1 - a1 ≤ m ∧ Below lt a1 b1 e ∧ ∀ R, PermIn a1 b1 e R → SortedIn lt a1 b1 R → PermIn a b d R ∧ SortedIn lt a b R)
    (b - a) ⟨d, a, b, L, rfl, rfl, rfl, ⟨rfl, hLb⟩, Hd, Nat.le_refl _, hab, Nat.le_refl _, Nat.le_refl _, hB, fun R h1 h2 => ⟨h1, h2⟩⟩ (by omega) ?_
  rintro m ⟨l1, y1, y2, y3, wb, wp⟩ ⟨e, a1, b1, L, hl1, hy1, hy2, ⟨hy3, hLb⟩, He, ha1, hab1, hb1, hm, hB1, hfin⟩
  have he := He.1
  simp only at hl1 hy1 hy2 hy3 ⊢
  subst hl1; subst hy1; subst hy2; subst hy3
  have e1 : IntKind.i64.wrap ((b1 : Int) - (a1 : Int)) = ((b1 - a1 : Nat) : Int) := by rw [w64 (by omega) (by omega)]; omega
  simp only [e1]
  have hbe : b1 ≤ e.size := by omega
  by_cases h12 : b1 - a1 ≤ 12
  · obtain ⟨q1, q2⟩ := insertionSort_holds (lt := lt) hS e a1 b1 hab1 hbe
    rw [az7 (by omega), Jzp hc hl hn e He a1 b1 (by omega) (by omega)]
    exact .inr ⟨_, rfl, _, rfl, hfin _ q1 q2⟩
  rw [az6 (by omega)]
  by_cases hL : L = 0
  · obtain ⟨q1, q2⟩ := heapSort_holds (lt := lt) hS e a1 b1 hab1 hbe
    rw [fzh (by omega), Iz1 hc hl hn e He a1 b1 (by omega) (by omega)]
    exact .inr ⟨_, rfl, _, rfl, hfin _ q1 q2⟩
  rw [ezt (by omega)]
  refine Azt (fun y : List α × Int => ∃ (d1 : Array α) (L' : Nat), y = (W l lo d1, (L' : Int)) ∧ L' ≤ 1000 ∧ PermIn a1 b1 e d1) (.inl ?_) ?_
  · cases wb with
    | false =>
      obtain ⟨d1, q1, q2⟩ := Fze (cmp := cmp) hnp hxn hl hn e He a1 b1 hab1 (by omega)
      simp only [Bool.not_false, cond_true]
      rw [q1]
      simp only [Option.bind_some]
      rw [lzl (by omega) (by omega)]
      exact ⟨_, rfl, d1, L - 1, rfl, by omega, q2⟩
    | true => exact ⟨_, rfl, e, L, rfl, hLb, permIn_refl _ _ _⟩
  rintro _ ⟨d1, L', rfl, hL', s1⟩
  have hd1' : Ok S n d1 := He.perm s1 (by omega)
  have hd1 := hd1'.1
  have b1d : b1 ≤ d1.size := by omega
  have hc0 := choosePivot_holds lt d1 a1 b1 (by omega)
  simp only
  rw [Czz hc hl hn d1 hd1' a1 b1 (by omega) (by omega)]
  simp only [Option.bind_some]
  generalize choosePivot lt d1 a1 b1 = c at hc0 ⊢
  refine Azt (fun y : List α × Int × Int => ∃ (d2 : Array α) (pv : Nat) (h : Int), y = (W l lo d2, (pv : Int), h) ∧ PermIn a1 b1 d1 d2 ∧ a1 ≤ pv ∧ pv < b1) (.inl ?_) ?_
  · by_cases hh : Fzi c.2 = 2
    · rw [fzh hh, Bzx hl hn d1 hd1' a1 b1 (by omega) (by omega)]
      have e2 : IntKind.i64.wrap ((c.1 : Int) - (a1 : Int)) = ((c.1 - a1 : Nat) : Int) := by rw [w64 (by omega) (by omega)]; omega
      have e3 : IntKind.i64.wrap (((b1 - 1 : Nat) : Int) - ((c.1 - a1 : Nat) : Int)) = ((b1 - 1 - (c.1 - a1) : Nat) : Int) := by rw [w64 (by omega) (by omega)]; omega
      simp only [Option.bind_some]
      rw [lzl (by omega) (by omega), e2, e3]
      exact ⟨_, rfl, _, _, 1, rfl, reverseRange_holds d1 a1 b1 hab1 b1d, by omega, by omega⟩
    · rw [ezt hh]
      exact ⟨_, rfl, d1, c.1, Fzi c.2, rfl, permIn_refl _ _ _, hc0.1, hc0.2⟩
  rintro _ ⟨d2, pv, h, rfl, s2, hp1, hp2⟩
  have hd2' : Ok S n d2 := hd1'.perm s2 (by omega)
  have hd2 := hd2'.1
  have B2 : Below lt a1 b1 d2 := (hB1.perm hbe s1).perm b1d s2
  simp only [fz6, az5]
  refine Azt (fun y : List α => ∃ d3 : Array α, y = W l lo d3 ∧ PermIn a1 b1 d2 d3) ?_ ?_
  · generalize (bif wb then bif wp then h == 1 else false else false) = bb
    cases bb with
    | false => exact .inl ⟨_, rfl, d2, rfl, permIn_refl _ _ _⟩
    | true =>
      obtain ⟨q1, q2⟩ := partialInsertionSort_holds (lt := lt) hS d2 a1 b1 (by omega) (by omega) B2
      simp only [cond_true]
      rw [Bzw hc hl hn d2 hd2' a1 b1 (by omega) (by omega)]
      simp only [Option.bind_some]
      cases hps : (partialInsertionSort lt d2 a1 b1).2 with
      | false => exact .inl ⟨_, rfl, _, rfl, q1⟩
      | true => exact .inr ⟨_, rfl, .inr ⟨_, rfl, _, rfl, hfin _ (permIn_trans _ _ _ _ _ (permIn_trans _ _ _ _ _ s1 s2) q1) (q2 hps)⟩⟩
  rintro _ ⟨d3, rfl, s3⟩
  have hd3' : Ok S n d3 := hd2'.perm s3 (by omega)
  have hd3 := hd3'.1
  have B3 : Below lt a1 b1 d3 := B2.perm (by omega) s3
  have P3 : PermIn a1 b1 e d3 := permIn_trans _ _ _ _ _ (permIn_trans _ _ _ _ _ s1 s2) s3
  have hW := qzm (l := l) (lo := lo) (d := d3) (by omega)
  refine Azt (fun y : Bool => y = (decide (a1 > 0) && !lt d3[a1 - 1]! d3[pv]!)) (.inl ?_) ?_
  · by_cases h0 : a1 > 0
    · obtain ⟨z, z1, z2⟩ := lzq hc hl hd3' (i := a1 - 1) (j := pv) (by omega) (by omega)
      rw [az7 (by omega), lzl (by omega) (by omega)]
      simp only [Int.toNat_natCast]
      rw [az4 (by omega), az4 (by omega), az4 (by omega), az4 (by omega), z1]
      simp only [Option.bind_some, z2]
      exact ⟨_, rfl, by rw [decide_eq_true h0]; rfl⟩
    · rw [az6 (by omega)]
      exact ⟨_, rfl, by rw [decide_eq_false h0]; rfl⟩
  rintro _ rfl
  cases hb0 : (decide (a1 > 0) && !lt d3[a1 - 1]! d3[pv]!) with
  | true =>
    simp only [Bool.and_eq_true, decide_eq_true_eq, Bool.not_eq_true'] at hb0
    obtain ⟨g1, g2, g3, g4, g5⟩ := round_eq (mid := (partitionEqual lt d3 a1 b1 pv).1) (d4 := (partitionEqual lt d3 a1 b1 pv).2) hS (partitionEqual_holds lt) hb0.1 hp1 hp2 (by omega) B3 hb0.2 rfl
    simp only [cond_true]
    have hge : ∀ i, a1 ≤ i → i < b1 → lt d3[i]! d3[pv]! = false := fun i hi hi' => by
      rcases B3 with h0 | hB
      · omega
      · exact hS.ntrans _ _ _ (hB i hi hi') hb0.2
    have Hd4 : Ok S n (partitionEqual lt d3 a1 b1 pv).2 := hd3'.perm (partitionEqual_holds lt hS d3 a1 b1 pv hp1 hp2 (by omega) hge).2.2.1 (by omega)
    rw [Dz0 hc hl hn d3 hd3' a1 b1 pv hp1 hp2 (by omega)]
    simp only [Option.bind_some]
    refine .inl ⟨_, b1 - (partitionEqual lt d3 a1 b1 pv).1, rfl, by omega, _, _, b1, L', rfl, rfl, rfl, ⟨rfl, hL'⟩, Hd4, by omega, g2, hb1, Nat.le_refl _, g4, fun R h1 h2 => ?_⟩
    obtain ⟨q1, q2⟩ := g5 R h1 h2
    exact hfin R (permIn_trans _ _ _ _ _ P3 q1) q2
  | false =>
    obtain ⟨g1, g2, g3, g4, g5, g6, g7⟩ := round_part (mid := (partition lt d3 a1 b1 pv).1) (ap := (partition lt d3 a1 b1 pv).2.1) (d4 := (partition lt d3 a1 b1 pv).2.2) hS (partition_holds lt) hp1 hp2 (by omega) B3 rfl
    simp only [cond_false]
    have Hd4 : Ok S n (partition lt d3 a1 b1 pv).2.2 := hd3'.perm (partition_holds lt hS d3 a1 b1 pv hp1 hp2 (by omega)).2.2.1 (by omega)
    rw [Iz2 hc hl hn d3 hd3' a1 b1 pv hp1 hp2 (by omega)]
    simp only [Option.bind_some]
    generalize (partition lt d3 a1 b1 pv).1 = mid at *
    generalize (partition lt d3 a1 b1 pv).2.1 = ap at *
    generalize (partition lt d3 a1 b1 pv).2.2 = d4 at *
    have e4 : IntKind.i64.wrap ((mid : Int) + 1) = ((mid + 1 : Nat) : Int) := wn (by omega)
    simp only [e4]
    cases decide (IntKind.i64.wrap ((mid : Int) - (a1 : Int)) < IntKind.i64.wrap ((b1 : Int) - (mid : Int))) with
    | true =>
      obtain ⟨r, r1, E, rfl, r2, r3⟩ := hrec d4 a1 mid L' hL' Hd4 g1 (by omega) (by omega) g4
      obtain ⟨w1, w2⟩ := g6 E r2 r3
      simp only [cond_true]
      rw [r1]
      simp only [Option.bind_some]
      refine .inl ⟨_, b1 - (mid + 1), rfl, by omega, E, mid + 1, b1, L', rfl, rfl, rfl, ⟨rfl, hL'⟩, Hd4.perm r2 (by omega), by omega, by omega, hb1, Nat.le_refl _, w1, fun R h1 h2 => ?_⟩
      obtain ⟨q1, q2⟩ := w2 R h1 h2
      exact hfin R (permIn_trans _ _ _ _ _ P3 q1) q2
    | false =>
      obtain ⟨r, r1, E, rfl, r2, r3⟩ := hrec d4 (mid + 1) b1 L' hL' Hd4 (by omega) (by omega) (by omega) g5
      obtain ⟨w1, w2⟩ := g7 E r2 r3
      simp only [cond_false]
      rw [r1]
      simp only [Option.bind_some]
      refine .inl ⟨_, mid - a1, rfl, by omega, E, a1, mid, L', rfl, rfl, rfl, ⟨rfl, hL'⟩, Hd4.perm r2 (by omega), ha1, g1, by omega, Nat.le_refl _, w1, fun R h1 h2 => ?_⟩
      obtain ⟨q1, q2⟩ := w2 R h1 h2
      exact hfin R (permIn_trans _ _ _ _ _ P3 q1) q2
noncomputable def uza (cmp : α → α → Option Int) (npow : Int → Option Int) (xnext : Int → Option (Int × Int)) : Nat → (List α) × Nat × Nat × Int × Int × Int → Option (List α)
  | 0, _ => none
  | N + 1, a => pzs cmp npow xnext (uza cmp npow xnext N) a.1 a.2.1 a.2.2.1 a.2.2.2.1 a.2.2.2.2.1 a.2.2.2.2.2
theorem wzx (hc : nz7 S cmp lt) (hS : SWO lt) (hnp : NpOk npow) (hxn : XnOk xnext) (hl : lo + n ≤ l.length) (hn : n ≤ 1000000) : ∀ (N : Nat) (d : Array α) (a b L : Nat), L ≤ 1000 → Ok S n d → a ≤ b → b ≤ n → b - a < N → Below lt a b d →
    ∃ r, uza cmp npow xnext N (W l lo d, lo, n, (a : Int), (b : Int), (L : Int)) = some r ∧ Fz1 l lo lt d a b r
  | 0, _, _, _, _, _, _, _, _, h, _ => by omega
  | N + 1, d, a, b, L, hL, hd, hab, hb, h, hB => Jzq hc hS hnp hxn hl hn d hd a b L hab hb hB hL fun e x y L hL he hx hy hxy hB' => wzx hc hS hnp hxn hl hn N e x y L hL he hx hy (by omega) hB'
end
open Go.Proofs
open Go.Sort (PermIn SortedIn SWO)
noncomputable def Hzb (i : Nat) : Bool := match (eza (i : Int)).o with
  | some k => decide (0 ≤ k) && (decide (k ≤ 8) && (decide (i = 0) || decide (2 ^ k.toNat ≤ 2 * i)))
  | none => false
theorem Kz3 : (List.range 256).all Hzb = true := by kernel_rfl
theorem Hzc {i : Nat} (h : i < 256) : ∃ k : Nat, (eza (i : Int)).o = some (k : Int) ∧ k ≤ 8 ∧ (1 ≤ i → 2 ^ k ≤ 2 * i) := by
  have h1 := List.all_eq_true.1 Kz3 i (List.mem_range.2 h)
  unfold Hzb at h1
  split at h1
  · rename_i k hk
    simp only [Bool.and_eq_true, Bool.or_eq_true, decide_eq_true_eq] at h1
    exact ⟨k.toNat, by rw [hk, Int.toNat_of_nonneg h1.1], by omega, fun hi => by
      rcases h1.2.2 with h | h
      · omega
      · exact h⟩
  · cases h1
theorem fd16 (n : Nat) : Int.fdiv (n : Int) (2 ^ (min (16 : Int).toNat 64)) = ((n / 65536 : Nat) : Int) := by
  have : (2 : Int) ^ (min (16 : Int).toNat 64) = 65536 := by decide
  rw [this, Int.fdiv_eq_ediv_of_nonneg _ (by decide)]; omega
theorem fd8 (n : Nat) : Int.fdiv (n : Int) (2 ^ (min (8 : Int).toNat 64)) = ((n / 256 : Nat) : Int) := by
  have : (2 : Int) ^ (min (8 : Int).toNat 64) = 256 := by decide
  rw [this, Int.fdiv_eq_ediv_of_nonneg _ (by decide)]; omega
set_option maxRecDepth 100000 in
theorem Fzx (n : Nat) (hn : n ≤ 1000000) : ∃ k : Nat, (fza (n : Int)).o = some (k : Int) ∧ k ≤ 24 ∧ (1 ≤ n → 2 ^ k ≤ 2 * n) := by
  have e : (fza (n : Int)).o = (eza (n : Int)).o := by
    show (lz5 (n : Int)).run NN = _
    simp only [lz5, T.run]
    cases (eza (n : Int)).o <;> rfl
  rw [e]
  by_cases h1 : n < 256
  · obtain ⟨k, k1, k2, k3⟩ := Hzc h1
    exact ⟨k, k1, by omega, k3⟩
  · have hm : ∀ (m s : Nat), m < 256 → s ≤ 16 → (∀ k, (fz9 (m : Int)).run NN = some ((k : Nat) : Int) → k ≤ 8 → (fz9 (n : Int)).run NN = some (((s + k : Nat)) : Int)) → 2 ^ s * m ≤ n → 1 ≤ m → ∃ k : Nat, (eza (n : Int)).o = some (k : Int) ∧ k ≤ 24 ∧ (1 ≤ n → 2 ^ k ≤ 2 * n) := fun m s hm hs h hle h1 => by
      obtain ⟨k, k1, k2, k3⟩ := Hzc hm
      refine ⟨s + k, h k k1 k2, by omega, fun _ => ?_⟩
      rw [Nat.pow_add]
      have := Nat.mul_le_mul_left (2 ^ s) (k3 h1)
      have e3 : 2 ^ s * (2 * m) = 2 * (2 ^ s * m) := by rw [Nat.mul_left_comm]
      omega
    have fin : ∀ {C : Prop} [Decidable C] {q : Int} {s k : Nat}, s ≤ 16 → k ≤ 8 → grd C (some (IntKind.i64.wrap (0 + q))) = some (k : Int) → IntKind.i64.wrap q = q → grd C (some (IntKind.i64.wrap ((s : Int) + q))) = some ((s + k : Nat) : Int) := fun {C _ q s k} hs hk h hq => by
      obtain ⟨h1, h2⟩ := grd_some.1 h
      rw [az4 h1]
      simp only [Option.some.injEq] at h2
      rw [Int.zero_add, hq] at h2
      rw [h2, w64 (by omega) (by omega)]; congr 1
    by_cases h2 : n < 65536
    · refine hm (n / 256) 8 (by omega) (by decide) (fun k hk k8 => ?_) (by omega) (by omega)
      simp only [fz9, T.run] at hk ⊢
      rw [az6 (by omega), az5] at hk ⊢
      simp only at hk ⊢
      rw [az6 (by omega), az5] at hk ⊢
      simp only at hk ⊢
      rw [az6 (by omega), az5] at hk
      rw [az7 (by omega), az5, fd8]
      have e8 : IntKind.i64.wrap (0 + 8) = ((8 : Nat) : Int) := by decide
      simp only [e8] at hk ⊢
      exact fin (by decide) k8 hk (Kzv _)
    · refine hm (n / 65536) 16 (by omega) (by decide) (fun k hk k8 => ?_) (by omega) (by omega)
      simp only [fz9, T.run] at hk ⊢
      rw [az6 (by omega), az5] at hk ⊢
      simp only at hk ⊢
      rw [az6 (by omega), az5] at hk
      rw [az7 (by omega), az5, fd16]
      simp only at hk ⊢
      rw [az6 (by omega), az5] at hk
      rw [az6 (by omega), az5]
      have e8 : IntKind.i64.wrap (0 + 16) = ((16 : Nat) : Int) := by decide
      simp only [e8] at hk ⊢
      exact fin (by decide) k8 hk (Kzv _)
theorem u64n {n : Nat} (h : n ≤ 1000000) : IntKind.u64.wrap (n : Int) = (n : Int) := by rw [wu]; omega
noncomputable abbrev qz1 : Int → Option Int := fun x => (ez2 x).o
noncomputable abbrev kzi : Int → Option (Int × Int) := fun x => (izt x).o
theorem Izl : NpOk qz1 := fun m h8 hm => by
  obtain ⟨k, k1, k2, k3⟩ := Fzx m hm
  refine ⟨2 ^ k, ?_, Nat.one_le_two_pow, k3 (by omega)⟩
  show (fzo (m : Int)).run NN = _
  simp only [fzo, T.run]
  rw [u64n hm, k1]
  simp only [Option.bind_some, Int.toNat_natCast]
  have hle := k3 (by omega)
  rw [az4 (by omega), Nat.min_eq_left (by omega), wu]
  have hp : (2 : Int) ^ k = ((2 ^ k : Nat) : Int) := by simp
  rw [hp]
  generalize 2 ^ k = P at hle
  congr 1; omega
theorem Jzc : XnOk kzi := fun _ => ⟨_, rfl⟩
section
variable {α : Type} [Inhabited α]
theorem Az7 {l : List α} {lo n : Nat} {S : α → Prop} (hl : lo + n ≤ l.length) (hs : ∀ x ∈ (l.drop lo).take n, S x) : Ok S n ((l.drop lo).take n).toArray := by
  have h : ((l.drop lo).take n).length = n := by rw [List.length_take, List.length_drop]; omega
  refine ⟨by rw [List.size_toArray, h], fun i hi => ?_⟩
  rw [getElem!_pos _ i (by rw [List.size_toArray, h]; exact hi), List.getElem_toArray]
  exact hs _ (List.getElem_mem _)
theorem szl {l : List α} {lo n : Nat} {lt : α → α → Bool} {r : List α} (hl : lo + n ≤ l.length) (h : Fz1 l lo lt ((l.drop lo).take n).toArray 0 n r) :
    ∃ s, r = l.take lo ++ s ++ l.drop (lo + n) ∧ s.Perm ((l.drop lo).take n) ∧ s.Pairwise fun a b => lt b a = false := by
  obtain ⟨e, rfl, h1, h2⟩ := h
  have hs : ((l.drop lo).take n).toArray.size = n := by simp only [List.size_toArray, List.length_take, List.length_drop]; omega
  have he : e.size = n := by rw [h1.1]; exact hs
  refine ⟨e.toList, by unfold W; rw [he], ?_, ?_⟩
  · have h3 := h1.2.2
    have e1 : (e.extract 0 n).toList = e.toList := by
      rw [Array.toList_extract]; simp only [List.extract_eq_take_drop, List.drop_zero, Nat.sub_zero]
      exact List.take_of_length_le (by simp [he])
    have e2 : (((l.drop lo).take n).toArray.extract 0 n).toList = (l.drop lo).take n := by rw [Array.toList_extract]; simp [List.take_take]
    rw [e1, e2] at h3; exact h3
  · refine List.pairwise_iff_getElem.2 fun i j hi hj hij => ?_
    have hi' : i < e.size := by simpa using hi
    have hj' : j < e.size := by simpa using hj
    have := h2 i j (Nat.zero_le _) hij (by omega)
    simpa [hi', hj'] using this
end
open Go.Proofs
open Go.Sort (SWO)
noncomputable abbrev dz3 : (Int × Int) → (Int × Int) → Option Int := fun x y => (azk x y).o
theorem qzu (l : List (Int × Int)) (lo n : Nat) (a b : Int) : (ezg l lo n a b).o = fzw dz3 l lo n a b := by
  show (czb l lo n a b).run NN = _
  simp only [czb, T.run]; rfl
theorem vzl (l : List (Int × Int)) (lo n : Nat) (a b c : Int) : (dzn l lo n a b c).o = lz4 dz3 l lo n a b c := by
  show (dzo l lo n a b c).run NN = _
  simp only [dzo, T.run]; rfl
theorem vzf (l : List (Int × Int)) (lo n : Nat) (a b : Int) : (fzk l lo n a b).o = mzu dz3 l lo n a b := by
  show (dzl l lo n a b).run NN = _
  simp only [dzl, T.run, vzl]; rfl
theorem zz0 (l : List (Int × Int)) (lo n : Nat) (a b c : Int) : (czh l lo n a b c).o = ozv dz3 l lo n a b c := by
  show (ez3 l lo n a b c).run NN = _
  simp only [ez3, T.run]; rfl
theorem tz1 (l : List (Int × Int)) (lo n : Nat) (a b c d : Int) : (ez0 l lo n a b c d).o = qzt dz3 l lo n a b c d := by
  show (ez1 l lo n a b c d).run NN = _
  simp only [ez1, T.run, zz0]; rfl
theorem qz0 (l : List (Int × Int)) (lo n : Nat) (a b : Int) : (bz9 l lo n a b).o = dzg dz3 l lo n a b := by
  show (cz3 l lo n a b).run NN = _
  simp only [cz3, T.run, tz1]; rfl
theorem sz9 (l : List (Int × Int)) (lo n : Nat) (a b : Int) : (ezy l lo n a b).o = iz9 dz3 l lo n a b := by
  show (czs l lo n a b).run NN = _
  simp only [czs, T.run, tz1, qz0]; rfl
theorem rzo (l : List (Int × Int)) (lo n : Nat) (a b : Int) : (ezl l lo n a b).o = gzs dz3 l lo n a b := by
  show (czm l lo n a b).run NN = _
  simp only [czm, T.run]; rfl
theorem lzo (l : List (Int × Int)) (lo n : Nat) (a b : Int) : (czy l lo n a b).o = cze dz3 l lo n a b := by
  show (bzg l lo n a b).run NN = _
  simp only [bzg, T.run]; rfl
theorem qz2 (l : List (Int × Int)) (lo n : Nat) (a b c : Int) : (ez8 l lo n a b c).o = fz8 dz3 l lo n a b c := by
  show (cz4 l lo n a b c).run NN = _
  simp only [cz4, T.run]; rfl
theorem uzu (l : List (Int × Int)) (lo n : Nat) (a b c : Int) : (fzg l lo n a b c).o = kzt dz3 l lo n a b c := by
  show (dza l lo n a b c).run NN = _
  simp only [dza, T.run]; rfl
theorem qzo (l : List (Int × Int)) (lo n : Nat) (a b : Int) : (ezf l lo n a b).o = fzv dz3 qz1 kzi l lo n a b := by
  show (cza l lo n a b).run NN = _
  simp only [cza, T.run]; rfl
theorem zz1 (lo n : Nat) : ∀ (N : Nat) (l : List (Int × Int)) (a b L : Int), (RecS.fix cz6 N).o (l, lo, n, a, b, L) = uza dz3 qz1 kzi N (l, lo, n, a, b, L)
  | 0, _, _, _, _ => rfl
  | N + 1, l, a, b, L => by
    show (dzu (RecS.fix cz6 N) l lo n a b L).run NN = pzs dz3 qz1 kzi (uza dz3 qz1 kzi N) l lo n a b L
    have ih : ∀ (l : List (Int × Int)) (a b L : Int), ((RecS.fix cz6 N).C (l, lo, n, a, b, L)).o = uza dz3 qz1 kzi N (l, lo, n, a, b, L) := fun l a b L => zz1 lo n N l a b L
    simp only [dzu, T.run, ih, qzu, vzf, qzo, sz9, rzo, lzo, qz2, uzu]; rfl
theorem Czb {S : (Int × Int) → Prop} {lt : (Int × Int) → (Int × Int) → Bool} (hc : nz7 S dz3 lt) (hS : SWO lt) (l : List (Int × Int)) (lo n : Nat) (hl : lo + n ≤ l.length) (hn : n ≤ 1000000) (hs : ∀ x ∈ (l.drop lo).take n, S x) :
    ∃ s, (fzr l lo n).o = some (l.take lo ++ s ++ l.drop (lo + n)) ∧ s.Perm ((l.drop lo).take n) ∧ s.Pairwise fun a b => lt b a = false := by
  obtain ⟨k, k1, k2, -⟩ := Fzx n hn
  have hok := Az7 hl hs
  obtain ⟨r, r1, r2⟩ := wzx (l := l) (lo := lo) hc hS Izl Jzc hl hn NN ((l.drop lo).take n).toArray 0 n k (by omega) hok (Nat.zero_le _) (Nat.le_refl _) (by show n - 0 < 4294967296; omega) (.inl rfl)
  obtain ⟨s, rfl, s2, s3⟩ := szl hl r2
  refine ⟨s, ?_, s2, s3⟩
  rw [Czd hl] at r1
  show (dzr l lo n).run NN = _
  have hC : (fzt l lo n 0 (n : Int) (k : Int)).o = _ := (zz1 lo n NN l 0 (n : Int) (k : Int)).trans r1
  simp only [dzr, T.run]
  rw [u64n hn, k1]
  simp only [Option.bind_some]
  rw [hC]; rfl
open Go.Proofs
open Go.Sort (SWO)
noncomputable abbrev fzy (pts : List (List Int)) (ax : Int) : Int → Int → Option Int := fun x y => (azm x y pts ax).o
theorem szf (pts : List (List Int)) (ax : Int) (l : List Int) (lo n : Nat) (a b : Int) : (ezz l lo n a b pts ax).o = fzw (fzy pts ax) l lo n a b := by
  show (czu l lo n a b pts ax).run NN = _
  simp only [czu, T.run]; rfl
theorem zzg (pts : List (List Int)) (ax : Int) (l : List Int) (lo n : Nat) (a b c : Int) : (ez4 l lo n a b c pts ax).o = lz4 (fzy pts ax) l lo n a b c := by
  show (ez5 l lo n a b c pts ax).run NN = _
  simp only [ez5, T.run]; rfl
theorem yze (pts : List (List Int)) (ax : Int) (l : List Int) (lo n : Nat) (a b : Int) : (gz8 l lo n a b pts ax).o = mzu (fzy pts ax) l lo n a b := by
  show (dzz l lo n a b pts ax).run NN = _
  simp only [dzz, T.run, zzg]; rfl
theorem Cz1 (pts : List (List Int)) (ax : Int) (l : List Int) (lo n : Nat) (a b c : Int) : (dz2 l lo n a b c pts ax).o = ozv (fzy pts ax) l lo n a b c := by
  show (ezr l lo n a b c pts ax).run NN = _
  simp only [ezr, T.run]; rfl
theorem vzx (pts : List (List Int)) (ax : Int) (l : List Int) (lo n : Nat) (a b c d : Int) : (ezp l lo n a b c d pts ax).o = qzt (fzy pts ax) l lo n a b c d := by
  show (ezq l lo n a b c d pts ax).run NN = _
  simp only [ezq, T.run, Cz1]; rfl
theorem rzd (pts : List (List Int)) (ax : Int) (l : List Int) (lo n : Nat) (a b : Int) : (bzi l lo n a b pts ax).o = dzg (fzy pts ax) l lo n a b := by
  show (czk l lo n a b pts ax).run NN = _
  simp only [czk, T.run, vzx]; rfl
theorem tzx (pts : List (List Int)) (ax : Int) (l : List Int) (lo n : Nat) (a b : Int) : (fzf l lo n a b pts ax).o = iz9 (fzy pts ax) l lo n a b := by
  show (dz9 l lo n a b pts ax).run NN = _
  simp only [dz9, T.run, vzx, rzd]; rfl
theorem tzc (pts : List (List Int)) (ax : Int) (l : List Int) (lo n : Nat) (a b : Int) : (fz5 l lo n a b pts ax).o = gzs (fzy pts ax) l lo n a b := by
  show (dz0 l lo n a b pts ax).run NN = _
  simp only [dz0, T.run]; rfl
theorem mzy (pts : List (List Int)) (ax : Int) (l : List Int) (lo n : Nat) (a b : Int) : (dzc l lo n a b pts ax).o = cze (fzy pts ax) l lo n a b := by
  show (bzm l lo n a b pts ax).run NN = _
  simp only [bzm, T.run]; rfl
theorem rzk (pts : List (List Int)) (ax : Int) (l : List Int) (lo n : Nat) (a b c : Int) : (ezk l lo n a b c pts ax).o = fz8 (fzy pts ax) l lo n a b c := by
  show (czl l lo n a b c pts ax).run NN = _
  simp only [czl, T.run]; rfl
theorem xzb (pts : List (List Int)) (ax : Int) (l : List Int) (lo n : Nat) (a b c : Int) : (fzs l lo n a b c pts ax).o = kzt (fzy pts ax) l lo n a b c := by
  show (dzs l lo n a b c pts ax).run NN = _
  simp only [dzs, T.run]; rfl
theorem sz8 (pts : List (List Int)) (ax : Int) (l : List Int) (lo n : Nat) (a b : Int) : (ezx l lo n a b pts ax).o = fzv (fzy pts ax) qz1 kzi l lo n a b := by
  show (czr l lo n a b pts ax).run NN = _
  simp only [czr, T.run]; rfl
theorem Ez2 (pts : List (List Int)) (ax : Int) (lo n : Nat) : ∀ (N : Nat) (l : List Int) (a b L : Int), (RecS.fix czv N).o (l, lo, n, a, b, L, pts, ax) = uza (fzy pts ax) qz1 kzi N (l, lo, n, a, b, L)
  | 0, _, _, _, _ => rfl
  | N + 1, l, a, b, L => by
    show (ezi (RecS.fix czv N) l lo n a b L pts ax).run NN = pzs (fzy pts ax) qz1 kzi (uza (fzy pts ax) qz1 kzi N) l lo n a b L
    have ih : ∀ (l : List Int) (a b L : Int), ((RecS.fix czv N).C (l, lo, n, a, b, L, pts, ax)).o = uza (fzy pts ax) qz1 kzi N (l, lo, n, a, b, L) := fun l a b L => Ez2 pts ax lo n N l a b L
    simp only [ezi, T.run, ih, szf, yze, sz8, tzx, tzc, mzy, rzk, xzb]; rfl
theorem Gzs (pts : List (List Int)) (ax : Int) {S : Int → Prop} {lt : Int → Int → Bool} (hc : nz7 S (fzy pts ax) lt) (hS : SWO lt) (l : List Int) (lo n : Nat) (hl : lo + n ≤ l.length) (hn : n ≤ 1000000) (hs : ∀ x ∈ (l.drop lo).take n, S x) :
    ∃ s, (hzi l lo n pts ax).o = some (l.take lo ++ s ++ l.drop (lo + n)) ∧ s.Perm ((l.drop lo).take n) ∧ s.Pairwise fun a b => lt b a = false := by
  obtain ⟨k, k1, k2, -⟩ := Fzx n hn
  have hok := Az7 hl hs
  obtain ⟨r, r1, r2⟩ := wzx (l := l) (lo := lo) hc hS Izl Jzc hl hn NN ((l.drop lo).take n).toArray 0 n k (by omega) hok (Nat.zero_le _) (Nat.le_refl _) (by show n - 0 < 4294967296; omega) (.inl rfl)
  obtain ⟨s, rfl, s2, s3⟩ := szl hl r2
  refine ⟨s, ?_, s2, s3⟩
  rw [Czd hl] at r1
  show (fz2 l lo n pts ax).run NN = _
  have hC : (gzm l lo n 0 (n : Int) (k : Int) pts ax).o = _ := (Ez2 pts ax lo n NN l 0 (n : Int) (k : Int)).trans r1
  simp only [fz2, T.run]
  rw [u64n hn, k1]
  simp only [Option.bind_some]
  rw [hC]; rfl
open Go.Proofs
open Go.Sort (SWO)
noncomputable abbrev azi : az1 → az1 → Option Int := fun x y => (azp x y).o
theorem jzw (l : List az1) (lo n : Nat) (a b : Int) : (czg l lo n a b).o = fzw azi l lo n a b := by
  show (bz8 l lo n a b).run NN = _
  simp only [bz8, T.run]; rfl
theorem nz4 (l : List az1) (lo n : Nat) (a b c : Int) : (bzn l lo n a b c).o = lz4 azi l lo n a b c := by
  show (bzo l lo n a b c).run NN = _
  simp only [bzo, T.run]; rfl
theorem mzv (l : List az1) (lo n : Nat) (a b : Int) : (dzb l lo n a b).o = mzu azi l lo n a b := by
  show (bzl l lo n a b).run NN = _
  simp only [bzl, T.run, nz4]; rfl
theorem ozh (l : List az1) (lo n : Nat) (a b c : Int) : (bz1 l lo n a b c).o = ozv azi l lo n a b c := by
  show (bzy l lo n a b c).run NN = _
  simp only [bzy, T.run]; rfl
theorem izv (l : List az1) (lo n : Nat) (a b c d : Int) : (bzw l lo n a b c d).o = qzt azi l lo n a b c d := by
  show (bzx l lo n a b c d).run NN = _
  simp only [bzx, T.run, ozh]; rfl
theorem jzm (l : List az1) (lo n : Nat) (a b : Int) : (azs l lo n a b).o = dzg azi l lo n a b := by
  show (bz4 l lo n a b).run NN = _
  simp only [bz4, T.run, izv]; rfl
theorem kzy (l : List az1) (lo n : Nat) (a b : Int) : (czt l lo n a b).o = iz9 azi l lo n a b := by
  show (bzc l lo n a b).run NN = _
  simp only [bzc, T.run, izv, jzm]; rfl
theorem kzo (l : List az1) (lo n : Nat) (a b : Int) : (czn l lo n a b).o = gzs azi l lo n a b := by
  show (bza l lo n a b).run NN = _
  simp only [bza, T.run]; rfl
theorem hzf (l : List az1) (lo n : Nat) (a b : Int) : (bzq l lo n a b).o = cze azi l lo n a b := by
  show (azu l lo n a b).run NN = _
  simp only [azu, T.run]; rfl
theorem jzo (l : List az1) (lo n : Nat) (a b c : Int) : (cz8 l lo n a b c).o = fz8 azi l lo n a b c := by
  show (bz5 l lo n a b c).run NN = _
  simp only [bz5, T.run]; rfl
theorem mz8 (l : List az1) (lo n : Nat) (a b c : Int) : (dz5 l lo n a b c).o = kzt azi l lo n a b c := by
  show (bzj l lo n a b c).run NN = _
  simp only [bzj, T.run]; rfl
theorem jzt (l : List az1) (lo n : Nat) (a b : Int) : (czf l lo n a b).o = fzv azi qz1 kzi l lo n a b := by
  show (bz7 l lo n a b).run NN = _
  simp only [bz7, T.run]; rfl
theorem lz7 (lo n : Nat) : ∀ (N : Nat) (l : List az1) (a b L : Int), (RecS.fix azz N).o (l, lo, n, a, b, L) = uza azi qz1 kzi N (l, lo, n, a, b, L)
  | 0, _, _, _, _ => rfl
  | N + 1, l, a, b, L => by
    show (bzu (RecS.fix azz N) l lo n a b L).run NN = pzs azi qz1 kzi (uza azi qz1 kzi N) l lo n a b L
    have ih : ∀ (l : List az1) (a b L : Int), ((RecS.fix azz N).C (l, lo, n, a, b, L)).o = uza azi qz1 kzi N (l, lo, n, a, b, L) := fun l a b L => lz7 lo n N l a b L
    simp only [bzu, T.run, ih, jzw, mzv, jzt, kzy, kzo, hzf, jzo, mz8]; rfl
theorem qz5 {S : az1 → Prop} {lt : az1 → az1 → Bool} (hc : nz7 S azi lt) (hS : SWO lt) (l : List az1) (lo n : Nat) (hl : lo + n ≤ l.length) (hn : n ≤ 1000000) (hs : ∀ x ∈ (l.drop lo).take n, S x) :
    ∃ s, (azx l lo n).o = some (l.take lo ++ s ++ l.drop (lo + n)) ∧ s.Perm ((l.drop lo).take n) ∧ s.Pairwise fun a b => lt b a = false := by
  obtain ⟨k, k1, k2, -⟩ := Fzx n hn
  have hok := Az7 hl hs
  obtain ⟨r, r1, r2⟩ := wzx (l := l) (lo := lo) hc hS Izl Jzc hl hn NN ((l.drop lo).take n).toArray 0 n k (by omega) hok (Nat.zero_le _) (Nat.le_refl _) (by show n - 0 < 4294967296; omega) (.inl rfl)
  obtain ⟨s, rfl, s2, s3⟩ := szl hl r2
  refine ⟨s, ?_, s2, s3⟩
  rw [Czd hl] at r1
  show (azy l lo n).run NN = _
  have hC : (dzm l lo n 0 (n : Int) (k : Int)).o = _ := (lz7 lo n NN l 0 (n : Int) (k : Int)).trans r1
  simp only [azy, T.run]
  rw [u64n hn, k1]
  simp only [Option.bind_some]
  rw [hC]; rfl
end Go.Abs
