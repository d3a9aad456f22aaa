/-
  M2 (a part of a claim: our own text).
-/
import Derived.Test.YtkjkbdobenmgbaaGreatXNM1
namespace Go.Abs
open Go.Proofs
set_option maxHeartbeats 8000000 in
set_option maxRecDepth 20000 in
noncomputable def dzs (a0 : (List Int)) (a1 : Nat) (a2 : Nat) (a3 : Int) (a4 : Int) (a5 : Int) (a6 : (List (List Int))) (a7 : Int) : T (Int × Bool × (List Int)) :=
 .grd (0 ≤ a5 ∧ a5 < ((a2 : Nat) : Int)) <|
 .grd ((a1 + ((a5).toNat)) < a0.length) <|
 .grd (0 ≤ a3 ∧ a3 < ((a2 : Nat) : Int)) <|
 .grd ((a1 + ((a3).toNat)) < a0.length) <|
 .grd (0 ≤ a3 ∧ a3 < ((a2 : Nat) : Int)) <|
 .conv 1013 (azq 1 az0 a0 3 (a1 + ((a3).toNat)) (a0.getD (a1 + ((a5).toNat)) default)) <|
 .grd ((a1 + ((a3).toNat)) < a0.length ∧ 0 ≤ (a1 + ((a3).toNat))) <|
 .grd (0 ≤ a5 ∧ a5 < ((a2 : Nat) : Int)) <|
 .conv 1015 (azq 1 az0 (a0.set (a1 + ((a3).toNat)) (a0.getD (a1 + ((a5).toNat)) default)) 3 (a1 + ((a5).toNat)) (a0.getD (a1 + ((a3).toNat)) default)) <|
 .grd ((a1 + ((a5).toNat)) < (a0.set (a1 + ((a3).toNat)) (a0.getD (a1 + ((a5).toNat)) default)).length ∧ 0 ≤ (a1 + ((a5).toNat))) <|
 .loop (fun (x1891 : Int) => ⟨[(0, .view 0 1 a1 a2), (1, pz a3), (4, .func 121 [] [.ptr 1 0, .ptr 2 0]), (12, pz x1891), (13, pz (IntKind.i64.wrap (a4 - 1)))], [(0, vecO 1 az0 ((a0.set (a1 + ((a3).toNat)) (a0.getD (a1 + ((a5).toNat)) default)).set (a1 + ((a5).toNat)) (a0.getD (a1 + ((a3).toNat)) default)) 3), (1, .box [.pure (encL 1 (encL 1 az0) a6)]), (2, .box [pz a7])], [], 3⟩)
 (.exit 0) (fun (y1912 : Int) => ⟨[(0, .view 0 1 a1 a2), (1, pz a3), (4, .func 121 [] [.ptr 1 0, .ptr 2 0]), (12, pz y1912), (13, pz (IntKind.i64.wrap (a4 - 1)))], [(0, vecO 1 az0 ((a0.set (a1 + ((a3).toNat)) (a0.getD (a1 + ((a5).toNat)) default)).set (a1 + ((a5).toNat)) (a0.getD (a1 + ((a3).toNat)) default)) 3), (1, .box [.pure (encL 1 (encL 1 az0) a6)]), (2, .box [pz a7])], [], 3⟩)
 (fun x1891 => .cut 1 (fun (y1929 : Bool) => ⟨[(0, .view 0 1 a1 a2), (1, pz a3), (4, .func 121 [] [.ptr 1 0, .ptr 2 0]), (12, pz x1891), (13, pz (IntKind.i64.wrap (a4 - 1))), (47, .pure (.bool y1929))], [(0, vecO 1 az0 ((a0.set (a1 + ((a3).toNat)) (a0.getD (a1 + ((a5).toNat)) default)).set (a1 + ((a5).toNat)) (a0.getD (a1 + ((a3).toNat)) default)) 3), (1, .box [.pure (encL 1 (encL 1 az0) a6)]), (2, .box [pz a7])], [], 3⟩)
 (.br (decide (x1891 ≤ (IntKind.i64.wrap (a4 - 1))))
 (.grd (0 ≤ x1891 ∧ x1891 < ((a2 : Nat) : Int)) <|
 .grd ((a1 + ((x1891).toNat)) < ((a0.set (a1 + ((a3).toNat)) (a0.getD (a1 + ((a5).toNat)) default)).set (a1 + ((a5).toNat)) (a0.getD (a1 + ((a3).toNat)) default)).length) <|
 .name 3008 ((((a0.set (a1 + ((a3).toNat)) (a0.getD (a1 + ((a5).toNat)) default)).set (a1 + ((a5).toNat)) (a0.getD (a1 + ((a3).toNat)) default)).getD (a1 + ((x1891).toNat)) default)) fun z1930 =>
 .grd (0 ≤ a3 ∧ a3 < ((a2 : Nat) : Int)) <|
 .grd ((a1 + ((a3).toNat)) < ((a0.set (a1 + ((a3).toNat)) (a0.getD (a1 + ((a5).toNat)) default)).set (a1 + ((a5).toNat)) (a0.getD (a1 + ((a3).toNat)) default)).length) <|
 .name 3012 ((((a0.set (a1 + ((a3).toNat)) (a0.getD (a1 + ((a5).toNat)) default)).set (a1 + ((a5).toNat)) (a0.getD (a1 + ((a3).toNat)) default)).getD (a1 + ((a3).toNat)) default)) fun z1931 =>
 .call (azm z1930 z1931 a6 a7) [(0, 1), (1, 2)] fun y1932 =>
 .ret (.out (decide (y1932 < 0))))
 (.ret (.out false))) fun y1929 =>
 .br y1929
 (.ret (.next (IntKind.i64.wrap (x1891 + 1))))
 (.ret (.out x1891)))
 (IntKind.i64.wrap (a3 + 1)) [] fun y1912 =>
 .loop (fun (x2017 : Int) => ⟨[(0, .view 0 1 a1 a2), (1, pz a3), (4, .func 121 [] [.ptr 1 0, .ptr 2 0]), (12, pz y1912), (13, pz x2017)], [(0, vecO 1 az0 ((a0.set (a1 + ((a3).toNat)) (a0.getD (a1 + ((a5).toNat)) default)).set (a1 + ((a5).toNat)) (a0.getD (a1 + ((a3).toNat)) default)) 3), (1, .box [.pure (encL 1 (encL 1 az0) a6)]), (2, .box [pz a7])], [], 3⟩)
 (.exit 2) (fun (y2038 : Int) => ⟨[(0, .view 0 1 a1 a2), (1, pz a3), (4, .func 121 [] [.ptr 1 0, .ptr 2 0]), (12, pz y1912), (13, pz y2038)], [(0, vecO 1 az0 ((a0.set (a1 + ((a3).toNat)) (a0.getD (a1 + ((a5).toNat)) default)).set (a1 + ((a5).toNat)) (a0.getD (a1 + ((a3).toNat)) default)) 3), (1, .box [.pure (encL 1 (encL 1 az0) a6)]), (2, .box [pz a7])], [], 3⟩)
 (fun x2017 => .cut 1 (fun (y2055 : Bool) => ⟨[(0, .view 0 1 a1 a2), (1, pz a3), (4, .func 121 [] [.ptr 1 0, .ptr 2 0]), (12, pz y1912), (13, pz x2017), (66, .pure (.bool y2055))], [(0, vecO 1 az0 ((a0.set (a1 + ((a3).toNat)) (a0.getD (a1 + ((a5).toNat)) default)).set (a1 + ((a5).toNat)) (a0.getD (a1 + ((a3).toNat)) default)) 3), (1, .box [.pure (encL 1 (encL 1 az0) a6)]), (2, .box [pz a7])], [], 3⟩)
 (.br (decide (y1912 ≤ x2017))
 (.grd (0 ≤ x2017 ∧ x2017 < ((a2 : Nat) : Int)) <|
 .grd ((a1 + ((x2017).toNat)) < ((a0.set (a1 + ((a3).toNat)) (a0.getD (a1 + ((a5).toNat)) default)).set (a1 + ((a5).toNat)) (a0.getD (a1 + ((a3).toNat)) default)).length) <|
 .name 5008 ((((a0.set (a1 + ((a3).toNat)) (a0.getD (a1 + ((a5).toNat)) default)).set (a1 + ((a5).toNat)) (a0.getD (a1 + ((a3).toNat)) default)).getD (a1 + ((x2017).toNat)) default)) fun z2056 =>
 .grd (0 ≤ a3 ∧ a3 < ((a2 : Nat) : Int)) <|
 .grd ((a1 + ((a3).toNat)) < ((a0.set (a1 + ((a3).toNat)) (a0.getD (a1 + ((a5).toNat)) default)).set (a1 + ((a5).toNat)) (a0.getD (a1 + ((a3).toNat)) default)).length) <|
 .name 5012 ((((a0.set (a1 + ((a3).toNat)) (a0.getD (a1 + ((a5).toNat)) default)).set (a1 + ((a5).toNat)) (a0.getD (a1 + ((a3).toNat)) default)).getD (a1 + ((a3).toNat)) default)) fun z2057 =>
 .call (azm z2056 z2057 a6 a7) [(0, 1), (1, 2)] fun y2058 =>
 .ret (.out (!(decide (y2058 < 0)))))
 (.ret (.out false))) fun y2055 =>
 .br y2055
 (.ret (.next (IntKind.i64.wrap (x2017 - 1))))
 (.ret (.out x2017)))
 (IntKind.i64.wrap (a4 - 1)) [] fun y2038 =>
 .br (decide (y1912 > y2038))
 (.grd (0 ≤ a3 ∧ a3 < ((a2 : Nat) : Int)) <|
 .grd ((a1 + ((a3).toNat)) < ((a0.set (a1 + ((a3).toNat)) (a0.getD (a1 + ((a5).toNat)) default)).set (a1 + ((a5).toNat)) (a0.getD (a1 + ((a3).toNat)) default)).length) <|
 .name 8007 ((((a0.set (a1 + ((a3).toNat)) (a0.getD (a1 + ((a5).toNat)) default)).set (a1 + ((a5).toNat)) (a0.getD (a1 + ((a3).toNat)) default)).getD (a1 + ((a3).toNat)) default)) fun z2065 =>
 .grd (0 ≤ y2038 ∧ y2038 < ((a2 : Nat) : Int)) <|
 .grd ((a1 + ((y2038).toNat)) < ((a0.set (a1 + ((a3).toNat)) (a0.getD (a1 + ((a5).toNat)) default)).set (a1 + ((a5).toNat)) (a0.getD (a1 + ((a3).toNat)) default)).length) <|
 .name 8011 ((((a0.set (a1 + ((a3).toNat)) (a0.getD (a1 + ((a5).toNat)) default)).set (a1 + ((a5).toNat)) (a0.getD (a1 + ((a3).toNat)) default)).getD (a1 + ((y2038).toNat)) default)) fun z2066 =>
 .grd (0 ≤ y2038 ∧ y2038 < ((a2 : Nat) : Int)) <|
 .conv 8013 (azq 1 az0 ((a0.set (a1 + ((a3).toNat)) (a0.getD (a1 + ((a5).toNat)) default)).set (a1 + ((a5).toNat)) (a0.getD (a1 + ((a3).toNat)) default)) 3 (a1 + ((y2038).toNat)) z2065) <|
 .grd ((a1 + ((y2038).toNat)) < ((a0.set (a1 + ((a3).toNat)) (a0.getD (a1 + ((a5).toNat)) default)).set (a1 + ((a5).toNat)) (a0.getD (a1 + ((a3).toNat)) default)).length ∧ 0 ≤ (a1 + ((y2038).toNat))) <|
 .grd (0 ≤ a3 ∧ a3 < ((a2 : Nat) : Int)) <|
 .conv 8015 (azq 1 az0 (((a0.set (a1 + ((a3).toNat)) (a0.getD (a1 + ((a5).toNat)) default)).set (a1 + ((a5).toNat)) (a0.getD (a1 + ((a3).toNat)) default)).set (a1 + ((y2038).toNat)) z2065) 3 (a1 + ((a3).toNat)) z2066) <|
 .grd ((a1 + ((a3).toNat)) < (((a0.set (a1 + ((a3).toNat)) (a0.getD (a1 + ((a5).toNat)) default)).set (a1 + ((a5).toNat)) (a0.getD (a1 + ((a3).toNat)) default)).set (a1 + ((y2038).toNat)) z2065).length ∧ 0 ≤ (a1 + ((a3).toNat))) <|
 .ret (y2038, true, ((((a0.set (a1 + ((a3).toNat)) (a0.getD (a1 + ((a5).toNat)) default)).set (a1 + ((a5).toNat)) (a0.getD (a1 + ((a3).toNat)) default)).set (a1 + ((y2038).toNat)) z2065).set (a1 + ((a3).toNat)) z2066)))
 (.grd (0 ≤ y2038 ∧ y2038 < ((a2 : Nat) : Int)) <|
 .grd ((a1 + ((y2038).toNat)) < ((a0.set (a1 + ((a3).toNat)) (a0.getD (a1 + ((a5).toNat)) default)).set (a1 + ((a5).toNat)) (a0.getD (a1 + ((a3).toNat)) default)).length) <|
 .name 10007 ((((a0.set (a1 + ((a3).toNat)) (a0.getD (a1 + ((a5).toNat)) default)).set (a1 + ((a5).toNat)) (a0.getD (a1 + ((a3).toNat)) default)).getD (a1 + ((y2038).toNat)) default)) fun z2069 =>
 .grd (0 ≤ y1912 ∧ y1912 < ((a2 : Nat) : Int)) <|
 .grd ((a1 + ((y1912).toNat)) < ((a0.set (a1 + ((a3).toNat)) (a0.getD (a1 + ((a5).toNat)) default)).set (a1 + ((a5).toNat)) (a0.getD (a1 + ((a3).toNat)) default)).length) <|
 .name 10011 ((((a0.set (a1 + ((a3).toNat)) (a0.getD (a1 + ((a5).toNat)) default)).set (a1 + ((a5).toNat)) (a0.getD (a1 + ((a3).toNat)) default)).getD (a1 + ((y1912).toNat)) default)) fun z2070 =>
 .grd (0 ≤ y1912 ∧ y1912 < ((a2 : Nat) : Int)) <|
 .conv 10013 (azq 1 az0 ((a0.set (a1 + ((a3).toNat)) (a0.getD (a1 + ((a5).toNat)) default)).set (a1 + ((a5).toNat)) (a0.getD (a1 + ((a3).toNat)) default)) 3 (a1 + ((y1912).toNat)) z2069) <|
 .grd ((a1 + ((y1912).toNat)) < ((a0.set (a1 + ((a3).toNat)) (a0.getD (a1 + ((a5).toNat)) default)).set (a1 + ((a5).toNat)) (a0.getD (a1 + ((a3).toNat)) default)).length ∧ 0 ≤ (a1 + ((y1912).toNat))) <|
 .grd (0 ≤ y2038 ∧ y2038 < ((a2 : Nat) : Int)) <|
 .conv 10015 (azq 1 az0 (((a0.set (a1 + ((a3).toNat)) (a0.getD (a1 + ((a5).toNat)) default)).set (a1 + ((a5).toNat)) (a0.getD (a1 + ((a3).toNat)) default)).set (a1 + ((y1912).toNat)) z2069) 3 (a1 + ((y2038).toNat)) z2070) <|
 .grd ((a1 + ((y2038).toNat)) < (((a0.set (a1 + ((a3).toNat)) (a0.getD (a1 + ((a5).toNat)) default)).set (a1 + ((a5).toNat)) (a0.getD (a1 + ((a3).toNat)) default)).set (a1 + ((y1912).toNat)) z2069).length ∧ 0 ≤ (a1 + ((y2038).toNat))) <|
 .loop (fun (x3099 : ((List Int) × Int × Int)) => ⟨[(0, .view 0 1 a1 a2), (1, pz a3), (4, .func 121 [] [.ptr 1 0, .ptr 2 0]), (12, pz x3099.2.1), (13, pz x3099.2.2)], [(0, vecO 1 az0 x3099.1 3), (1, .box [.pure (encL 1 (encL 1 az0) a6)]), (2, .box [pz a7])], [], 3⟩)
 (.exit 4) (fun (y3356 : ((List Int) × Int)) => ⟨[(0, .view 0 1 a1 a2), (1, pz a3), (13, pz y3356.2)], [(0, vecO 1 az0 y3356.1 3), (1, .box [.pure (encL 1 (encL 1 az0) a6)]), (2, .box [pz a7])], [], 3⟩)
 (fun x3099 => .loop (fun (x3441 : Int) => ⟨[(0, .view 0 1 a1 a2), (1, pz a3), (4, .func 121 [] [.ptr 1 0, .ptr 2 0]), (12, pz x3441), (13, pz x3099.2.2)], [(0, vecO 1 az0 x3099.1 3), (1, .box [.pure (encL 1 (encL 1 az0) a6)]), (2, .box [pz a7])], [], 3⟩)
 (.exit 6) (fun (y3462 : Int) => ⟨[(0, .view 0 1 a1 a2), (1, pz a3), (4, .func 121 [] [.ptr 1 0, .ptr 2 0]), (12, pz y3462), (13, pz x3099.2.2)], [(0, vecO 1 az0 x3099.1 3), (1, .box [.pure (encL 1 (encL 1 az0) a6)]), (2, .box [pz a7])], [], 3⟩)
 (fun x3441 => .cut 1 (fun (y3479 : Bool) => ⟨[(0, .view 0 1 a1 a2), (1, pz a3), (4, .func 121 [] [.ptr 1 0, .ptr 2 0]), (12, pz x3441), (13, pz x3099.2.2), (120, .pure (.bool y3479))], [(0, vecO 1 az0 x3099.1 3), (1, .box [.pure (encL 1 (encL 1 az0) a6)]), (2, .box [pz a7])], [], 3⟩)
 (.br (decide (x3441 ≤ x3099.2.2))
 (.grd (0 ≤ x3441 ∧ x3441 < ((a2 : Nat) : Int)) <|
 .grd ((a1 + ((x3441).toNat)) < x3099.1.length) <|
 .name 13008 ((x3099.1.getD (a1 + ((x3441).toNat)) default)) fun z3480 =>
 .grd (0 ≤ a3 ∧ a3 < ((a2 : Nat) : Int)) <|
 .grd ((a1 + ((a3).toNat)) < x3099.1.length) <|
 .name 13012 ((x3099.1.getD (a1 + ((a3).toNat)) default)) fun z3481 =>
 .call (azm z3480 z3481 a6 a7) [(0, 1), (1, 2)] fun y3482 =>
 .ret (.out (decide (y3482 < 0))))
 (.ret (.out false))) fun y3479 =>
 .br y3479
 (.ret (.next (IntKind.i64.wrap (x3441 + 1))))
 (.ret (.out x3441)))
 x3099.2.1 [] fun y3462 =>
 .loop (fun (x3567 : Int) => ⟨[(0, .view 0 1 a1 a2), (1, pz a3), (4, .func 121 [] [.ptr 1 0, .ptr 2 0]), (12, pz y3462), (13, pz x3567)], [(0, vecO 1 az0 x3099.1 3), (1, .box [.pure (encL 1 (encL 1 az0) a6)]), (2, .box [pz a7])], [], 3⟩)
 (.exit 8) (fun (y3588 : Int) => ⟨[(0, .view 0 1 a1 a2), (1, pz a3), (4, .func 121 [] [.ptr 1 0, .ptr 2 0]), (12, pz y3462), (13, pz y3588)], [(0, vecO 1 az0 x3099.1 3), (1, .box [.pure (encL 1 (encL 1 az0) a6)]), (2, .box [pz a7])], [], 3⟩)
 (fun x3567 => .cut 1 (fun (y3605 : Bool) => ⟨[(0, .view 0 1 a1 a2), (1, pz a3), (4, .func 121 [] [.ptr 1 0, .ptr 2 0]), (12, pz y3462), (13, pz x3567), (139, .pure (.bool y3605))], [(0, vecO 1 az0 x3099.1 3), (1, .box [.pure (encL 1 (encL 1 az0) a6)]), (2, .box [pz a7])], [], 3⟩)
 (.br (decide (y3462 ≤ x3567))
 (.grd (0 ≤ x3567 ∧ x3567 < ((a2 : Nat) : Int)) <|
 .grd ((a1 + ((x3567).toNat)) < x3099.1.length) <|
 .name 15008 ((x3099.1.getD (a1 + ((x3567).toNat)) default)) fun z3606 =>
 .grd (0 ≤ a3 ∧ a3 < ((a2 : Nat) : Int)) <|
 .grd ((a1 + ((a3).toNat)) < x3099.1.length) <|
 .name 15012 ((x3099.1.getD (a1 + ((a3).toNat)) default)) fun z3607 =>
 .call (azm z3606 z3607 a6 a7) [(0, 1), (1, 2)] fun y3608 =>
 .ret (.out (!(decide (y3608 < 0)))))
 (.ret (.out false))) fun y3605 =>
 .br y3605
 (.ret (.next (IntKind.i64.wrap (x3567 - 1))))
 (.ret (.out x3567)))
 x3099.2.2 [] fun y3588 =>
 .br (decide (y3462 > y3588))
 (.ret (.out (x3099.1, y3588)))
 (.grd (0 ≤ y3588 ∧ y3588 < ((a2 : Nat) : Int)) <|
 .grd ((a1 + ((y3588).toNat)) < x3099.1.length) <|
 .name 18007 ((x3099.1.getD (a1 + ((y3588).toNat)) default)) fun z3611 =>
 .grd (0 ≤ y3462 ∧ y3462 < ((a2 : Nat) : Int)) <|
 .grd ((a1 + ((y3462).toNat)) < x3099.1.length) <|
 .name 18011 ((x3099.1.getD (a1 + ((y3462).toNat)) default)) fun z3612 =>
 .grd (0 ≤ y3462 ∧ y3462 < ((a2 : Nat) : Int)) <|
 .conv 18013 (azq 1 az0 x3099.1 3 (a1 + ((y3462).toNat)) z3611) <|
 .grd ((a1 + ((y3462).toNat)) < x3099.1.length ∧ 0 ≤ (a1 + ((y3462).toNat))) <|
 .grd (0 ≤ y3588 ∧ y3588 < ((a2 : Nat) : Int)) <|
 .conv 18015 (azq 1 az0 (x3099.1.set (a1 + ((y3462).toNat)) z3611) 3 (a1 + ((y3588).toNat)) z3612) <|
 .grd ((a1 + ((y3588).toNat)) < (x3099.1.set (a1 + ((y3462).toNat)) z3611).length ∧ 0 ≤ (a1 + ((y3588).toNat))) <|
 .ret (.next (((x3099.1.set (a1 + ((y3462).toNat)) z3611).set (a1 + ((y3588).toNat)) z3612), (IntKind.i64.wrap (y3462 + 1)), (IntKind.i64.wrap (y3588 - 1))))))
 (((((a0.set (a1 + ((a3).toNat)) (a0.getD (a1 + ((a5).toNat)) default)).set (a1 + ((a5).toNat)) (a0.getD (a1 + ((a3).toNat)) default)).set (a1 + ((y1912).toNat)) z2069).set (a1 + ((y2038).toNat)) z2070), (IntKind.i64.wrap (y1912 + 1)), (IntKind.i64.wrap (y2038 - 1))) [] fun y3356 =>
 .grd (0 ≤ a3 ∧ a3 < ((a2 : Nat) : Int)) <|
 .grd ((a1 + ((a3).toNat)) < y3356.1.length) <|
 .grd (0 ≤ y3356.2 ∧ y3356.2 < ((a2 : Nat) : Int)) <|
 .grd ((a1 + ((y3356.2).toNat)) < y3356.1.length) <|
 .grd (0 ≤ y3356.2 ∧ y3356.2 < ((a2 : Nat) : Int)) <|
 .conv 21013 (azq 1 az0 y3356.1 3 (a1 + ((y3356.2).toNat)) (y3356.1.getD (a1 + ((a3).toNat)) default)) <|
 .grd ((a1 + ((y3356.2).toNat)) < y3356.1.length ∧ 0 ≤ (a1 + ((y3356.2).toNat))) <|
 .grd (0 ≤ a3 ∧ a3 < ((a2 : Nat) : Int)) <|
 .conv 21015 (azq 1 az0 (y3356.1.set (a1 + ((y3356.2).toNat)) (y3356.1.getD (a1 + ((a3).toNat)) default)) 3 (a1 + ((a3).toNat)) (y3356.1.getD (a1 + ((y3356.2).toNat)) default)) <|
 .grd ((a1 + ((a3).toNat)) < (y3356.1.set (a1 + ((y3356.2).toNat)) (y3356.1.getD (a1 + ((a3).toNat)) default)).length ∧ 0 ≤ (a1 + ((a3).toNat))) <|
 .ret (y3356.2, false, ((y3356.1.set (a1 + ((y3356.2).toNat)) (y3356.1.getD (a1 + ((a3).toNat)) default)).set (a1 + ((a3).toNat)) (y3356.1.getD (a1 + ((y3356.2).toNat)) default))))
noncomputable def fzs (a0 : (List Int)) (a1 : Nat) (a2 : Nat) (a3 : Int) (a4 : Int) (a5 : Int) (a6 : (List (List Int))) (a7 : Int) : CallS (Int × Bool × (List Int)) :=
  mkC [] hd Tryz.func181 (by kernel_rfl) (dzs a0 a1 a2 a3 a4 a5 a6 a7) 3 [.view 0 1 a1 a2, pz a3, pz a4, pz a5, .func 121 [] [.ptr 1 0, .ptr 2 0]] [(0, vecO 1 az0 a0 3), (1, .box [.pure (encL 1 (encL 1 az0) a6)]), (2, .box [pz a7])] (fun r => .tup [pz r.1, .pure (.bool r.2.1)]) (fun r => [(0, vecO 1 az0 r.2.2 3), (1, .box [.pure (encL 1 (encL 1 az0) a6)]), (2, .box [pz a7])]) (by kernel_rfl)
noncomputable def fzo (a0 : Int) : T Int :=
 .call (fza (IntKind.u64.wrap a0)) [] fun y1 =>
 .grd (0 ≤ y1) <|
 .ret (IntKind.u64.wrap (1 * 2 ^ (min (y1).toNat 64)))
noncomputable def ez2 (a0 : Int) : CallS Int :=
  mkC [] hd Tryz.func183 (by kernel_rfl) (fzo a0) 0 [pz a0] [] (fun r => .pure (.int .u64 r)) (fun _ => []) (by kernel_rfl)
noncomputable def vzc (a0 : Int) : T (Int × Int) :=
 .ok (0 ≤ (13 : Int)) (by decide) <|
 .name 1007 ((IntKind.u64.wrap (((BitVec.ofInt 64 a0 ^^^ BitVec.ofInt 64 (IntKind.u64.wrap (a0 * 2 ^ (min (13 : Int).toNat 64)))).toNat : Int)))) fun z8 =>
 .ok (0 ≤ (7 : Int)) (by decide) <|
 .ok (0 ≤ (17 : Int)) (by decide) <|
 .name 3006 ((IntKind.u64.wrap ((IntKind.u64.wrap (((BitVec.ofInt 64 z8 ^^^ BitVec.ofInt 64 (z8.fdiv (2 ^ (min (7 : Int).toNat 64)))).toNat : Int))) * 2 ^ (min (17 : Int).toNat 64)))) fun z11 =>
 .name 3007 ((IntKind.u64.wrap (((BitVec.ofInt 64 (IntKind.u64.wrap (((BitVec.ofInt 64 z8 ^^^ BitVec.ofInt 64 (z8.fdiv (2 ^ (min (7 : Int).toNat 64)))).toNat : Int))) ^^^ BitVec.ofInt 64 z11).toNat : Int)))) fun z12 =>
 .ret (z12, z12)
noncomputable def izt (a0 : Int) : CallS (Int × Int) :=
  mkC [] hd Tryz.func184 (by kernel_rfl) (vzc a0) 1 [.ptr 0 0] [(0, .box [.pure (.int .u64 a0)])] (fun r => .pure (.int .u64 r.1)) (fun r => [(0, .box [.pure (.int .u64 r.2)])]) (by kernel_rfl)
noncomputable def czr (a0 : (List Int)) (a1 : Nat) (a2 : Nat) (a3 : Int) (a4 : Int) (a5 : (List (List Int))) (a6 : Int) : T (List Int) :=
 .br (decide ((IntKind.i64.wrap (a4 - a3)) ≥ 8))
 (.call (ez2 (IntKind.i64.wrap (a4 - a3))) [] fun y51 =>
 .ok ((4 : Int) ≠ 0) (by decide) <|
 .name 4005 ((IntKind.i64.wrap ((IntKind.i64.wrap (a3 + (IntKind.i64.wrap ((IntKind.i64.wrap ((IntKind.i64.wrap (a4 - a3)).tdiv 4)) * 2)))) - 1))) fun z53 =>
 .loop (fun (x69 : ((List Int) × Int × Int)) => ⟨[(0, .view 0 1 a1 a2), (1, pz a3), (8, pz (IntKind.i64.wrap (a4 - a3))), (9, .ptr 3 0), (10, .pure (.int .u64 y51)), (11, pz x69.2.2)], [(0, vecO 1 az0 x69.1 3), (1, .box [.pure (encL 1 (encL 1 az0) a5)]), (2, .box [pz a6]), (3, .box [.pure (.int .u64 x69.2.1)])], [], 4⟩)
 (.exit 0) (fun (y84 : (List Int)) => ⟨[], [(0, vecO 1 az0 y84 3), (1, .box [.pure (encL 1 (encL 1 az0) a5)]), (2, .box [pz a6])], [], 3⟩)
 (fun x69 => .ok ((4 : Int) ≠ 0) (by decide) <|
 .name 5006 ((IntKind.i64.wrap ((IntKind.i64.wrap (a3 + (IntKind.i64.wrap ((IntKind.i64.wrap ((IntKind.i64.wrap (a4 - a3)).tdiv 4)) * 2)))) + 1))) fun z88 =>
 .br (decide (x69.2.2 ≤ z88))
 (.call (izt x69.2.1) [(0, 3)] fun y96 =>
 .name 7004 ((IntKind.i64.wrap (IntKind.u64.wrap (((BitVec.ofInt 64 y96.1 &&& BitVec.ofInt 64 (IntKind.u64.wrap (y51 - 1))).toNat : Int))))) fun z97 =>
 .cut 0 (fun (y98 : Int) => ⟨[(0, .view 0 1 a1 a2), (1, pz a3), (8, pz (IntKind.i64.wrap (a4 - a3))), (9, .ptr 3 0), (10, .pure (.int .u64 y51)), (11, pz x69.2.2), (12, pz y98)], [(0, vecO 1 az0 x69.1 3), (1, .box [.pure (encL 1 (encL 1 az0) a5)]), (2, .box [pz a6]), (3, .box [.pure (.int .u64 y96.2)])], [], 4⟩)
 (.br (decide (z97 ≥ (IntKind.i64.wrap (a4 - a3))))
 (.ret (.out (IntKind.i64.wrap (z97 - (IntKind.i64.wrap (a4 - a3))))))
 (.ret (.out z97))) fun y98 =>
 .grd (0 ≤ (IntKind.i64.wrap (a3 + y98)) ∧ (IntKind.i64.wrap (a3 + y98)) < ((a2 : Nat) : Int)) <|
 .grd ((a1 + (((IntKind.i64.wrap (a3 + y98))).toNat)) < x69.1.length) <|
 .grd (0 ≤ x69.2.2 ∧ x69.2.2 < ((a2 : Nat) : Int)) <|
 .grd ((a1 + ((x69.2.2).toNat)) < x69.1.length) <|
 .grd (0 ≤ x69.2.2 ∧ x69.2.2 < ((a2 : Nat) : Int)) <|
 .conv 10017 (azq 1 az0 x69.1 3 (a1 + ((x69.2.2).toNat)) (x69.1.getD (a1 + (((IntKind.i64.wrap (a3 + y98))).toNat)) default)) <|
 .grd ((a1 + ((x69.2.2).toNat)) < x69.1.length ∧ 0 ≤ (a1 + ((x69.2.2).toNat))) <|
 .grd (0 ≤ (IntKind.i64.wrap (a3 + y98)) ∧ (IntKind.i64.wrap (a3 + y98)) < ((a2 : Nat) : Int)) <|
 .conv 10019 (azq 1 az0 (x69.1.set (a1 + ((x69.2.2).toNat)) (x69.1.getD (a1 + (((IntKind.i64.wrap (a3 + y98))).toNat)) default)) 3 (a1 + (((IntKind.i64.wrap (a3 + y98))).toNat)) (x69.1.getD (a1 + ((x69.2.2).toNat)) default)) <|
 .grd ((a1 + (((IntKind.i64.wrap (a3 + y98))).toNat)) < (x69.1.set (a1 + ((x69.2.2).toNat)) (x69.1.getD (a1 + (((IntKind.i64.wrap (a3 + y98))).toNat)) default)).length ∧ 0 ≤ (a1 + (((IntKind.i64.wrap (a3 + y98))).toNat))) <|
 .ret (.next (((x69.1.set (a1 + ((x69.2.2).toNat)) (x69.1.getD (a1 + (((IntKind.i64.wrap (a3 + y98))).toNat)) default)).set (a1 + (((IntKind.i64.wrap (a3 + y98))).toNat)) (x69.1.getD (a1 + ((x69.2.2).toNat)) default)), y96.2, (IntKind.i64.wrap (x69.2.2 + 1)))))
 (.ret (.out x69.1)))
 (a0, (IntKind.u64.wrap (IntKind.i64.wrap (a4 - a3))), z53) [] fun y84 =>
 .ret y84)
 (.ret a0)
noncomputable def ezx (a0 : (List Int)) (a1 : Nat) (a2 : Nat) (a3 : Int) (a4 : Int) (a5 : (List (List Int))) (a6 : Int) : CallS (List Int) :=
  mkC [] hd Tryz.func176 (by kernel_rfl) (czr a0 a1 a2 a3 a4 a5 a6) 3 [.view 0 1 a1 a2, pz a3, pz a4, .func 121 [] [.ptr 1 0, .ptr 2 0]] [(0, vecO 1 az0 a0 3), (1, .box [.pure (encL 1 (encL 1 az0) a5)]), (2, .box [pz a6])] (fun _ => .tup []) (fun r => [(0, vecO 1 az0 r 3), (1, .box [.pure (encL 1 (encL 1 az0) a5)]), (2, .box [pz a6])]) (by kernel_rfl)
abbrev ezh := RecS Tryz.prog 146 3 ((List Int) × Nat × Nat × Int × Int × Int × (List (List Int)) × Int) (List Int) (fun a => [.view 0 1 a.2.1 a.2.2.1, pz a.2.2.2.1, pz a.2.2.2.2.1, pz a.2.2.2.2.2.1, .func 121 [] [.ptr 1 0, .ptr 2 0]]) (fun a => [(0, vecO 1 az0 a.1 3), (1, .box [.pure (encL 1 (encL 1 az0) a.2.2.2.2.2.2.1)]), (2, .box [pz a.2.2.2.2.2.2.2])]) (fun _ _ => .tup []) (fun a r => [(0, vecO 1 az0 r 3), (1, .box [.pure (encL 1 (encL 1 az0) a.2.2.2.2.2.2.1)]), (2, .box [pz a.2.2.2.2.2.2.2])])
noncomputable def ezi (rec : ezh) (a0 : (List Int)) (a1 : Nat) (a2 : Nat) (a3 : Int) (a4 : Int) (a5 : Int) (a6 : (List (List Int))) (a7 : Int) : T (List Int) :=
 .loop (fun (x194 : ((List Int) × Int × Int × Int × Bool × Bool)) => ⟨[(0, .view 0 1 a1 a2), (1, pz x194.2.1), (2, pz x194.2.2.1), (3, pz x194.2.2.2.1), (4, .func 121 [] [.ptr 1 0, .ptr 2 0]), (10, .pure (.bool x194.2.2.2.2.1)), (11, .pure (.bool x194.2.2.2.2.2))], [(0, vecO 1 az0 x194.1 3), (1, .box [.pure (encL 1 (encL 1 az0) a6)]), (2, .box [pz a7])], [], 3⟩)
 .ret (fun (_ : U0) => ⟨[], [], [], 3⟩)
 (fun x194 => .br (decide ((IntKind.i64.wrap (x194.2.2.1 - x194.2.1)) ≤ 12))
 (.call (ezz x194.1 a1 a2 x194.2.1 x194.2.2.1 a6 a7) [(0, 0), (1, 1), (2, 2)] fun y245 =>
 .ret (.fin y245))
 (.br (x194.2.2.2.1 == 0)
 (.call (gz8 x194.1 a1 a2 x194.2.1 x194.2.2.1 a6 a7) [(0, 0), (1, 1), (2, 2)] fun y247 =>
 .ret (.fin y247))
 (.cut 0 (fun (y252 : ((List Int) × Int)) => ⟨[(0, .view 0 1 a1 a2), (1, pz x194.2.1), (2, pz x194.2.2.1), (3, pz y252.2), (4, .func 121 [] [.ptr 1 0, .ptr 2 0]), (10, .pure (.bool x194.2.2.2.2.1)), (11, .pure (.bool x194.2.2.2.2.2)), (12, pz (IntKind.i64.wrap (x194.2.2.1 - x194.2.1)))], [(0, vecO 1 az0 y252.1 3), (1, .box [.pure (encL 1 (encL 1 az0) a6)]), (2, .box [pz a7])], [], 3⟩)
 (.br (!x194.2.2.2.2.1)
 (.call (ezx x194.1 a1 a2 x194.2.1 x194.2.2.1 a6 a7) [(0, 0), (1, 1), (2, 2)] fun y254 =>
 .ret (.out (y254, (IntKind.i64.wrap (x194.2.2.2.1 - 1)))))
 (.ret (.out (x194.1, x194.2.2.2.1)))) fun y252 =>
 .call (fzf y252.1 a1 a2 x194.2.1 x194.2.2.1 a6 a7) [(0, 0), (1, 1), (2, 2)] fun y256 =>
 .cut 0 (fun (y261 : ((List Int) × Int × Int)) => ⟨[(0, .view 0 1 a1 a2), (1, pz x194.2.1), (2, pz x194.2.2.1), (3, pz y252.2), (4, .func 121 [] [.ptr 1 0, .ptr 2 0]), (10, .pure (.bool x194.2.2.2.2.1)), (11, .pure (.bool x194.2.2.2.2.2)), (12, pz (IntKind.i64.wrap (x194.2.2.1 - x194.2.1))), (13, pz y261.2.1), (14, pz y261.2.2)], [(0, vecO 1 az0 y261.1 3), (1, .box [.pure (encL 1 (encL 1 az0) a6)]), (2, .box [pz a7])], [], 3⟩)
 (.br (y256.2 == 2)
 (.call (fz5 y252.1 a1 a2 x194.2.1 x194.2.2.1 a6 a7) [(0, 0), (1, 1), (2, 2)] fun y263 =>
 .ret (.out (y263, (IntKind.i64.wrap ((IntKind.i64.wrap (x194.2.2.1 - 1)) - (IntKind.i64.wrap (y256.1 - x194.2.1)))), 1)))
 (.ret (.out (y252.1, y256.1, y256.2)))) fun y261 =>
 .cut 0 (fun (y270 : (List Int)) => ⟨[(0, .view 0 1 a1 a2), (1, pz x194.2.1), (2, pz x194.2.2.1), (3, pz y252.2), (4, .func 121 [] [.ptr 1 0, .ptr 2 0]), (10, .pure (.bool x194.2.2.2.2.1)), (11, .pure (.bool x194.2.2.2.2.2)), (12, pz (IntKind.i64.wrap (x194.2.2.1 - x194.2.1))), (13, pz y261.2.1)], [(0, vecO 1 az0 y270 3), (1, .box [.pure (encL 1 (encL 1 az0) a6)]), (2, .box [pz a7])], [], 3⟩)
 (.cut 0 (fun (y271 : Bool) => ⟨[(0, .view 0 1 a1 a2), (1, pz x194.2.1), (2, pz x194.2.2.1), (3, pz y252.2), (4, .func 121 [] [.ptr 1 0, .ptr 2 0]), (10, .pure (.bool x194.2.2.2.2.1)), (11, .pure (.bool x194.2.2.2.2.2)), (12, pz (IntKind.i64.wrap (x194.2.2.1 - x194.2.1))), (13, pz y261.2.1), (75, .pure (.bool y271))], [(0, vecO 1 az0 y261.1 3), (1, .box [.pure (encL 1 (encL 1 az0) a6)]), (2, .box [pz a7])], [], 3⟩)
 (.br x194.2.2.2.2.1
 (.br x194.2.2.2.2.2
 (.ret (.out (y261.2.2 == 1)))
 (.ret (.out false)))
 (.ret (.out false))) fun y271 =>
 .br y271
 (.call (dzc y261.1 a1 a2 x194.2.1 x194.2.2.1 a6 a7) [(0, 0), (1, 1), (2, 2)] fun y273 =>
 .br y273.1
 (.ret (.fin (.fin y273.2)))
 (.ret (.out y273.2)))
 (.ret (.out y261.1))) fun y270 =>
 .cut 1 (fun (y282 : Bool) => ⟨[(0, .view 0 1 a1 a2), (1, pz x194.2.1), (2, pz x194.2.2.1), (3, pz y252.2), (4, .func 121 [] [.ptr 1 0, .ptr 2 0]), (10, .pure (.bool x194.2.2.2.2.1)), (11, .pure (.bool x194.2.2.2.2.2)), (12, pz (IntKind.i64.wrap (x194.2.2.1 - x194.2.1))), (13, pz y261.2.1), (97, .pure (.bool y282))], [(0, vecO 1 az0 y270 3), (1, .box [.pure (encL 1 (encL 1 az0) a6)]), (2, .box [pz a7])], [], 3⟩)
 (.br (decide (x194.2.1 > 0))
 (.grd (0 ≤ (IntKind.i64.wrap (x194.2.1 - 1)) ∧ (IntKind.i64.wrap (x194.2.1 - 1)) < ((a2 : Nat) : Int)) <|
 .grd ((a1 + (((IntKind.i64.wrap (x194.2.1 - 1))).toNat)) < y270.length) <|
 .grd (0 ≤ y261.2.1 ∧ y261.2.1 < ((a2 : Nat) : Int)) <|
 .grd ((a1 + ((y261.2.1).toNat)) < y270.length) <|
 .call (azm (y270.getD (a1 + (((IntKind.i64.wrap (x194.2.1 - 1))).toNat)) default) (y270.getD (a1 + ((y261.2.1).toNat)) default) a6 a7) [(0, 1), (1, 2)] fun y283 =>
 .ret (.out (!(decide (y283 < 0)))))
 (.ret (.out false))) fun y282 =>
 .br y282
 (.call (ezk y270 a1 a2 x194.2.1 x194.2.2.1 y261.2.1 a6 a7) [(0, 0), (1, 1), (2, 2)] fun y285 =>
 .ret (.next (y285.2, y285.1, x194.2.2.1, y252.2, x194.2.2.2.2.1, x194.2.2.2.2.2)))
 (.call (fzs y270 a1 a2 x194.2.1 x194.2.2.1 y261.2.1 a6 a7) [(0, 0), (1, 1), (2, 2)] fun y287 =>
 .ok ((8 : Int) ≠ 0) (by decide) <|
 .br (decide ((IntKind.i64.wrap (y287.1 - x194.2.1)) < (IntKind.i64.wrap (x194.2.2.1 - y287.1))))
 (.call (rec.C (y287.2.2, a1, a2, x194.2.1, y287.1, y252.2, a6, a7)) [(0, 0), (1, 1), (2, 2)] fun y289 =>
 .ret (.next (y289, (IntKind.i64.wrap (y287.1 + 1)), x194.2.2.1, y252.2, (decide ((IntKind.i64.wrap (y287.1 - x194.2.1)) ≥ (IntKind.i64.wrap ((IntKind.i64.wrap (x194.2.2.1 - x194.2.1)).tdiv 8)))), y287.2.1)))
 (.call (rec.C (y287.2.2, a1, a2, (IntKind.i64.wrap (y287.1 + 1)), x194.2.2.1, y252.2, a6, a7)) [(0, 0), (1, 1), (2, 2)] fun y291 =>
 .ret (.next (y291, x194.2.1, y287.1, y252.2, (decide ((IntKind.i64.wrap (x194.2.2.1 - y287.1)) ≥ (IntKind.i64.wrap ((IntKind.i64.wrap (x194.2.2.1 - x194.2.1)).tdiv 8)))), y287.2.1)))))))
 (a0, a3, a4, a5, true, true) [] fun _ =>
 .stop
noncomputable def czv : ezh → ezh := RecS.next [] hd Tryz.func146 (by kernel_rfl) (fun rec a => ezi rec a.1 a.2.1 a.2.2.1 a.2.2.2.1 a.2.2.2.2.1 a.2.2.2.2.2.1 a.2.2.2.2.2.2.1 a.2.2.2.2.2.2.2) (fun rec a => by kernel_rfl)
noncomputable def gzm (a0 : (List Int)) (a1 : Nat) (a2 : Nat) (a3 : Int) (a4 : Int) (a5 : Int) (a6 : (List (List Int))) (a7 : Int) : CallS (List Int) := (RecS.fix czv NN).C (a0, a1, a2, a3, a4, a5, a6, a7)
noncomputable def fz2 (a0 : (List Int)) (a1 : Nat) (a2 : Nat) (a3 : (List (List Int))) (a4 : Int) : T (List Int) :=
 .call (fza (IntKind.u64.wrap ((a2 : Nat) : Int))) [] fun y3 =>
 .call (gzm a0 a1 a2 0 ((a2 : Nat) : Int) y3 a3 a4) [(0, 0), (1, 1), (2, 2)] fun y4 =>
 .ret y4
noncomputable def hzi (a0 : (List Int)) (a1 : Nat) (a2 : Nat) (a3 : (List (List Int))) (a4 : Int) : CallS (List Int) :=
  mkC [] hd Tryz.func120 (by kernel_rfl) (fz2 a0 a1 a2 a3 a4) 3 [.view 0 1 a1 a2, .func 121 [] [.ptr 1 0, .ptr 2 0]] [(0, vecO 1 az0 a0 3), (1, .box [.pure (encL 1 (encL 1 az0) a3)]), (2, .box [pz a4])] (fun _ => .tup []) (fun r => [(0, vecO 1 az0 r 3), (1, .box [.pure (encL 1 (encL 1 az0) a3)]), (2, .box [pz a4])]) (by kernel_rfl)
abbrev izf := RecS Tryz.prog 119 5 ((List Int) × Nat × Nat × Int × (List (List Int)) × (List aze)) (Int × (List Int) × (List aze)) (fun a => [.view 0 1 a.2.1 a.2.2.1, pz a.2.2.2.1, .ptr 1 0, .ptr 2 0, .ptr 4 0]) (fun a => [(0, vecO 1 az0 a.1 3), (1, .box [.pure (encL 1 (encL 1 az0) a.2.2.2.2.1)]), (2, .box [.vec 3]), (3, vecO 4 azf a.2.2.2.2.2 157), (4, .box [.func 119 [] [.ptr 1 0, .ptr 2 0, .ptr 4 0]])]) (fun _ r => pz r.1) (fun a r => [(0, vecO 1 az0 r.2.1 3), (1, .box [.pure (encL 1 (encL 1 az0) a.2.2.2.2.1)]), (2, .box [.vec 5]), (3, .gone), (4, .box [.func 119 [] [.ptr 1 0, .ptr 2 0, .ptr 4 0]]), (5, vecO 4 azf r.2.2 157)])
noncomputable def izg (rec : izf) (a0 : (List Int)) (a1 : Nat) (a2 : Nat) (a3 : Int) (a4 : (List (List Int))) (a5 : (List aze)) : T (Int × (List Int) × (List aze)) :=
 .br (((a2 : Nat) : Int) == 0)
 (.ret ((-1), a0, a5))
 (.grd (0 ≤ (0 : Int) ∧ (0 : Int) < ((a4.length : Nat) : Int)) <|
 .grd ((((a4.getD ((0 : Int).toNat) default).length : Nat) : Int) ≠ 0) <|
 .call (hzi a0 a1 a2 a4 (a3.tmod (((a4.getD ((0 : Int).toNat) default).length : Nat) : Int))) [(0, 0), (1, 1), (2, 645)] fun y10 =>
 .ok ((2 : Int) ≠ 0) (by decide) <|
 .grd (0 ≤ (IntKind.i64.wrap (((a2 : Nat) : Int).tdiv 2)) ∧ (IntKind.i64.wrap (((a2 : Nat) : Int).tdiv 2)) < ((a2 : Nat) : Int)) <|
 .grd ((a1 + (((IntKind.i64.wrap (((a2 : Nat) : Int).tdiv 2))).toNat)) < y10.length) <|
 .conv 6007 (ezu 4 azf ([(⟨(y10.getD (a1 + (((IntKind.i64.wrap (((a2 : Nat) : Int).tdiv 2))).toNat)) default), (a3.tmod (((a4.getD ((0 : Int).toNat) default).length : Nat) : Int)), 0, 0⟩ : aze)] : (List aze)) 157) <|
 .conv 6008 (gzg 4 azf a5 ([(⟨(y10.getD (a1 + (((IntKind.i64.wrap (((a2 : Nat) : Int).tdiv 2))).toNat)) default), (a3.tmod (((a4.getD ((0 : Int).toNat) default).length : Nat) : Int)), 0, 0⟩ : aze)] : (List aze)) 157) <|
 .grd ((a5.length + ([(⟨(y10.getD (a1 + (((IntKind.i64.wrap (((a2 : Nat) : Int).tdiv 2))).toNat)) default), (a3.tmod (((a4.getD ((0 : Int).toNat) default).length : Nat) : Int)), 0, 0⟩ : aze)] : (List aze)).length) * 32 ≤ 140737488355328 ∧ (a5.length + ([(⟨(y10.getD (a1 + (((IntKind.i64.wrap (((a2 : Nat) : Int).tdiv 2))).toNat)) default), (a3.tmod (((a4.getD ((0 : Int).toNat) default).length : Nat) : Int)), 0, 0⟩ : aze)] : (List aze)).length) ≤ maxLen) <|
 .grd (0 ≤ (0 : Int) ∧ (0 : Int) ≤ (IntKind.i64.wrap (((a2 : Nat) : Int).tdiv 2)) ∧ (IntKind.i64.wrap (((a2 : Nat) : Int).tdiv 2)) ≤ ((a2 : Nat) : Int)) <|
 .call (rec.C (y10, (a1 + ((0 : Int).toNat)), ((((IntKind.i64.wrap (((a2 : Nat) : Int).tdiv 2))).toNat) - ((0 : Int).toNat)), (IntKind.i64.wrap (a3 + 1)), a4, (a5 ++ ([(⟨(y10.getD (a1 + (((IntKind.i64.wrap (((a2 : Nat) : Int).tdiv 2))).toNat)) default), (a3.tmod (((a4.getD ((0 : Int).toNat) default).length : Nat) : Int)), 0, 0⟩ : aze)] : (List aze))))) [(0, 0), (1, 1), (2, 2), (3, 1925), (4, 4)] fun y12 =>
 .grd (0 ≤ (IntKind.i64.wrap ((IntKind.i64.wrap (((a2 : Nat) : Int).tdiv 2)) + 1)) ∧ (IntKind.i64.wrap ((IntKind.i64.wrap (((a2 : Nat) : Int).tdiv 2)) + 1)) ≤ ((a2 : Nat) : Int) ∧ ((a2 : Nat) : Int) ≤ ((a2 : Nat) : Int)) <|
 .call (rec.C (y12.2.1, (a1 + (((IntKind.i64.wrap ((IntKind.i64.wrap (((a2 : Nat) : Int).tdiv 2)) + 1))).toNat)), (((((a2 : Nat) : Int)).toNat) - (((IntKind.i64.wrap ((IntKind.i64.wrap (((a2 : Nat) : Int).tdiv 2)) + 1))).toNat)), (IntKind.i64.wrap (a3 + 1)), a4, y12.2.2)) [(0, 0), (1, 1), (2, 2), (3, 2437), (4, 4)] fun y14 =>
 .grd (0 ≤ ((a5.length : Nat) : Int) ∧ ((a5.length : Nat) : Int) < ((y14.2.2.length : Nat) : Int)) <|
 .conv 9008 (azq 4 azf y14.2.2 157 ((((a5.length : Nat) : Int)).toNat) (⟨(y14.2.2.getD ((((a5.length : Nat) : Int)).toNat) default).Point, (y14.2.2.getD ((((a5.length : Nat) : Int)).toNat) default).Axis, y12.1, (y14.2.2.getD ((((a5.length : Nat) : Int)).toNat) default).High⟩ : aze)) <|
 .grd ((((a5.length : Nat) : Int)).toNat < y14.2.2.length ∧ 0 ≤ (((a5.length : Nat) : Int)).toNat) <|
 .grd (0 ≤ ((a5.length : Nat) : Int) ∧ ((a5.length : Nat) : Int) < (((y14.2.2.set ((((a5.length : Nat) : Int)).toNat) (⟨(y14.2.2.getD ((((a5.length : Nat) : Int)).toNat) default).Point, (y14.2.2.getD ((((a5.length : Nat) : Int)).toNat) default).Axis, y12.1, (y14.2.2.getD ((((a5.length : Nat) : Int)).toNat) default).High⟩ : aze)).length : Nat) : Int)) <|
 .conv 9011 (azq 4 azf (y14.2.2.set ((((a5.length : Nat) : Int)).toNat) (⟨(y14.2.2.getD ((((a5.length : Nat) : Int)).toNat) default).Point, (y14.2.2.getD ((((a5.length : Nat) : Int)).toNat) default).Axis, y12.1, (y14.2.2.getD ((((a5.length : Nat) : Int)).toNat) default).High⟩ : aze)) 157 ((((a5.length : Nat) : Int)).toNat) (⟨((y14.2.2.set ((((a5.length : Nat) : Int)).toNat) (⟨(y14.2.2.getD ((((a5.length : Nat) : Int)).toNat) default).Point, (y14.2.2.getD ((((a5.length : Nat) : Int)).toNat) default).Axis, y12.1, (y14.2.2.getD ((((a5.length : Nat) : Int)).toNat) default).High⟩ : aze)).getD ((((a5.length : Nat) : Int)).toNat) default).Point, ((y14.2.2.set ((((a5.length : Nat) : Int)).toNat) (⟨(y14.2.2.getD ((((a5.length : Nat) : Int)).toNat) default).Point, (y14.2.2.getD ((((a5.length : Nat) : Int)).toNat) default).Axis, y12.1, (y14.2.2.getD ((((a5.length : Nat) : Int)).toNat) default).High⟩ : aze)).getD ((((a5.length : Nat) : Int)).toNat) default).Axis, ((y14.2.2.set ((((a5.length : Nat) : Int)).toNat) (⟨(y14.2.2.getD ((((a5.length : Nat) : Int)).toNat) default).Point, (y14.2.2.getD ((((a5.length : Nat) : Int)).toNat) default).Axis, y12.1, (y14.2.2.getD ((((a5.length : Nat) : Int)).toNat) default).High⟩ : aze)).getD ((((a5.length : Nat) : Int)).toNat) default).Low, y14.1⟩ : aze)) <|
 .grd ((((a5.length : Nat) : Int)).toNat < (y14.2.2.set ((((a5.length : Nat) : Int)).toNat) (⟨(y14.2.2.getD ((((a5.length : Nat) : Int)).toNat) default).Point, (y14.2.2.getD ((((a5.length : Nat) : Int)).toNat) default).Axis, y12.1, (y14.2.2.getD ((((a5.length : Nat) : Int)).toNat) default).High⟩ : aze)).length ∧ 0 ≤ (((a5.length : Nat) : Int)).toNat) <|
 .ret (((a5.length : Nat) : Int), y14.2.1, ((y14.2.2.set ((((a5.length : Nat) : Int)).toNat) (⟨(y14.2.2.getD ((((a5.length : Nat) : Int)).toNat) default).Point, (y14.2.2.getD ((((a5.length : Nat) : Int)).toNat) default).Axis, y12.1, (y14.2.2.getD ((((a5.length : Nat) : Int)).toNat) default).High⟩ : aze)).set ((((a5.length : Nat) : Int)).toNat) (⟨((y14.2.2.set ((((a5.length : Nat) : Int)).toNat) (⟨(y14.2.2.getD ((((a5.length : Nat) : Int)).toNat) default).Point, (y14.2.2.getD ((((a5.length : Nat) : Int)).toNat) default).Axis, y12.1, (y14.2.2.getD ((((a5.length : Nat) : Int)).toNat) default).High⟩ : aze)).getD ((((a5.length : Nat) : Int)).toNat) default).Point, ((y14.2.2.set ((((a5.length : Nat) : Int)).toNat) (⟨(y14.2.2.getD ((((a5.length : Nat) : Int)).toNat) default).Point, (y14.2.2.getD ((((a5.length : Nat) : Int)).toNat) default).Axis, y12.1, (y14.2.2.getD ((((a5.length : Nat) : Int)).toNat) default).High⟩ : aze)).getD ((((a5.length : Nat) : Int)).toNat) default).Axis, ((y14.2.2.set ((((a5.length : Nat) : Int)).toNat) (⟨(y14.2.2.getD ((((a5.length : Nat) : Int)).toNat) default).Point, (y14.2.2.getD ((((a5.length : Nat) : Int)).toNat) default).Axis, y12.1, (y14.2.2.getD ((((a5.length : Nat) : Int)).toNat) default).High⟩ : aze)).getD ((((a5.length : Nat) : Int)).toNat) default).Low, y14.1⟩ : aze))))
noncomputable def dzp : izf → izf := RecS.next [] hd Tryz.func119 (by kernel_rfl) (fun rec a => izg rec a.1 a.2.1 a.2.2.1 a.2.2.2.1 a.2.2.2.2.1 a.2.2.2.2.2) (fun rec a => by kernel_rfl)
noncomputable def lzx (a0 : (List Int)) (a1 : Nat) (a2 : Nat) (a3 : Int) (a4 : (List (List Int))) (a5 : (List aze)) : CallS (Int × (List Int) × (List aze)) := (RecS.fix dzp NN).C (a0, a1, a2, a3, a4, a5)
noncomputable def jzx (a0 : (List (List Int))) : T (List aze) :=
 .call (gz0 a0) [] fun y4 =>
 .br (!y4)
 (.ret nl)
 (.conv 4002 (Bzt 1 az0 3 (((a0.length : Nat) : Int)).toNat 0) <|
 .grd (0 ≤ ((a0.length : Nat) : Int) ∧ ((a0.length : Nat) : Int) ≤ ((a0.length : Nat) : Int) ∧ ((a0.length : Nat) : Int) ≤ 9223372036854775807 ∧ ((a0.length : Nat) : Int) * 8 ≤ 140737488355328) <|
 .loop (fun (x9 : ((List Int) × Int)) => ⟨[(1, .ptr 0 0), (2, .ptr 1 0), (3, .vec 3), (14, pz (((List.replicate (((a0.length : Nat) : Int)).toNat (0 : Int)).length : Nat) : Int)), (15, pz x9.2)], [(0, .box [.pure (encL 1 (encL 1 az0) a0)]), (1, .box [.vec 2]), (2, .nilv), (3, vecO 1 az0 x9.1 3)], [.func 117 [] [.ptr 1 0]], 4⟩)
 (.exit 0) (fun (y10 : (List Int)) => ⟨[(1, .ptr 0 0), (2, .ptr 1 0), (3, .vec 3)], [(0, .box [.pure (encL 1 (encL 1 az0) a0)]), (1, .box [.vec 2]), (2, .nilv), (3, vecO 1 az0 y10 3)], [.func 117 [] [.ptr 1 0]], 4⟩)
 (fun x9 => .br (decide (x9.2 < (((List.replicate (((a0.length : Nat) : Int)).toNat (0 : Int)).length : Nat) : Int)))
 (.grd (0 ≤ x9.2 ∧ x9.2 < ((x9.1.length : Nat) : Int)) <|
 .conv 8004 (azq 1 az0 x9.1 3 ((x9.2).toNat) x9.2) <|
 .grd ((x9.2).toNat < x9.1.length ∧ 0 ≤ (x9.2).toNat) <|
 .ret (.next ((x9.1.set ((x9.2).toNat) x9.2), (IntKind.i64.wrap (x9.2 + 1)))))
 (.ret (.out x9.1)))
 ((List.replicate (((a0.length : Nat) : Int)).toNat (0 : Int)), 0) [] fun y10 =>
 .call (lzx y10 0 y10.length 0 a0 nl) [(0, 3), (1, 0), (2, 1), (3, 2), (4, 4)] fun y12 =>
 .ret y12.2.2)
noncomputable def hzm (a0 : (List (List Int))) : CallS (List aze) :=
  mkC [⟨117, Fzg⟩] hd Tryz.func72 (by kernel_rfl) (jzx a0) 0 [.pure (encL 1 (encL 1 az0) a0)] [] (fun r => .pure (encL 4 azf r)) (fun _ => []) (by kernel_rfl)
set_option maxHeartbeats 8000000 in
set_option maxRecDepth 20000 in
noncomputable def izj (a0 : (List (List Int))) (a1 : (List aze)) : T ((List Int) × Bool) :=
 .conv 1002 (Bzt 1 az0 3 (((a1.length : Nat) : Int)).toNat 0) <|
 .grd (0 ≤ ((a1.length : Nat) : Int) ∧ ((a1.length : Nat) : Int) ≤ ((a1.length : Nat) : Int) ∧ ((a1.length : Nat) : Int) ≤ 9223372036854775807 ∧ ((a1.length : Nat) : Int) * 8 ≤ 140737488355328) <|
 .loop (fun (x1129 : ((List Int) × Int)) => ⟨[(0, .pure (encL 1 (encL 1 az0) a0)), (1, .pure (encL 4 azf a1)), (6, .vec 0), (17, pz (((List.replicate (((a1.length : Nat) : Int)).toNat (0 : Int)).length : Nat) : Int)), (18, pz x1129.2)], [(0, vecO 1 az0 x1129.1 3)], [], 1⟩)
 (.exit 0) (fun (y1130 : (List Int)) => ⟨[(0, .pure (encL 1 (encL 1 az0) a0)), (1, .pure (encL 4 azf a1)), (6, .vec 0)], [(0, vecO 1 az0 y1130 3)], [], 1⟩)
 (fun x1129 => .br (decide (x1129.2 < (((List.replicate (((a1.length : Nat) : Int)).toNat (0 : Int)).length : Nat) : Int)))
 (.grd (0 ≤ x1129.2 ∧ x1129.2 < ((x1129.1.length : Nat) : Int)) <|
 .conv 5003 (azq 1 az0 x1129.1 3 ((x1129.2).toNat) (-1)) <|
 .grd ((x1129.2).toNat < x1129.1.length ∧ 0 ≤ (x1129.2).toNat) <|
 .ret (.next ((x1129.1.set ((x1129.2).toNat) (-1)), (IntKind.i64.wrap (x1129.2 + 1)))))
 (.ret (.out x1129.1)))
 ((List.replicate (((a1.length : Nat) : Int)).toNat (0 : Int)), 0) [] fun y1130 =>
 .conv 7002 (Bzt 1 encB 4 (((a0.length : Nat) : Int)).toNat false) <|
 .grd (0 ≤ ((a0.length : Nat) : Int) ∧ ((a0.length : Nat) : Int) ≤ ((a0.length : Nat) : Int) ∧ ((a0.length : Nat) : Int) ≤ 9223372036854775807 ∧ ((a0.length : Nat) : Int) * 1 ≤ 140737488355328) <|
 .loop (fun (x1875 : ((List Int) × (List Bool) × Int)) => ⟨[(0, .pure (encL 1 (encL 1 az0) a0)), (1, .pure (encL 4 azf a1)), (6, .vec 0), (8, .vec 1), (28, .pure (encL 4 azf a1)), (29, pz ((a1.length : Nat) : Int)), (30, pz x1875.2.2)], [(0, vecO 1 az0 x1875.1 3), (1, vecO 1 encB x1875.2.1 4)], [], 2⟩)
 (.exit 2) (fun (y2062 : (List Int)) => ⟨[(6, .vec 0)], [(0, vecO 1 az0 y2062 3)], [], 1⟩)
 (fun x1875 => .br (decide (x1875.2.2 < ((a1.length : Nat) : Int)))
 (.grd (0 ≤ x1875.2.2 ∧ x1875.2.2 < ((a1.length : Nat) : Int)) <|
 .cut 1 (fun (y2157 : Bool) => ⟨[(0, .pure (encL 1 (encL 1 az0) a0)), (1, .pure (encL 4 azf a1)), (6, .vec 0), (8, .vec 1), (9, pz x1875.2.2), (10, .ptr 2 0), (28, .pure (encL 4 azf a1)), (29, pz ((a1.length : Nat) : Int)), (30, pz x1875.2.2), (51, .pure (.bool y2157))], [(0, vecO 1 az0 x1875.1 3), (1, vecO 1 encB x1875.2.1 4), (2, .box [pz ((a1.getD ((x1875.2.2).toNat) default).Point), pz ((a1.getD ((x1875.2.2).toNat) default).Axis), pz ((a1.getD ((x1875.2.2).toNat) default).Low), pz ((a1.getD ((x1875.2.2).toNat) default).High)])], [], 3⟩)
 (.br (decide (((a1.getD ((x1875.2.2).toNat) default).Point) < 0))
 (.ret (.out true))
 (.br (decide (((a1.getD ((x1875.2.2).toNat) default).Point) ≥ ((a0.length : Nat) : Int)))
 (.ret (.out true))
 (.grd (0 ≤ ((a1.getD ((x1875.2.2).toNat) default).Point) ∧ ((a1.getD ((x1875.2.2).toNat) default).Point) < ((x1875.2.1.length : Nat) : Int)) <|
 .grd (((a1.getD ((x1875.2.2).toNat) default).Point).toNat < x1875.2.1.length) <|
 .ret (.out (x1875.2.1.getD (((a1.getD ((x1875.2.2).toNat) default).Point).toNat) default))))) fun y2157 =>
 .br y2157
 (.ret (.fin (nl, false)))
 (.grd (0 ≤ ((a1.getD ((x1875.2.2).toNat) default).Point) ∧ ((a1.getD ((x1875.2.2).toNat) default).Point) < ((x1875.2.1.length : Nat) : Int)) <|
 .conv 13004 (azq 1 encB x1875.2.1 4 (((a1.getD ((x1875.2.2).toNat) default).Point).toNat) true) <|
 .grd (((a1.getD ((x1875.2.2).toNat) default).Point).toNat < x1875.2.1.length ∧ 0 ≤ ((a1.getD ((x1875.2.2).toNat) default).Point).toNat) <|
 .cut 1 (fun (y2159 : Bool) => ⟨[(0, .pure (encL 1 (encL 1 az0) a0)), (1, .pure (encL 4 azf a1)), (6, .vec 0), (8, .vec 1), (9, pz x1875.2.2), (10, .ptr 2 0), (28, .pure (encL 4 azf a1)), (29, pz ((a1.length : Nat) : Int)), (30, pz x1875.2.2), (67, .pure (.bool y2159))], [(0, vecO 1 az0 x1875.1 3), (1, vecO 1 encB (x1875.2.1.set (((a1.getD ((x1875.2.2).toNat) default).Point).toNat) true) 4), (2, .box [pz ((a1.getD ((x1875.2.2).toNat) default).Point), pz ((a1.getD ((x1875.2.2).toNat) default).Axis), pz ((a1.getD ((x1875.2.2).toNat) default).Low), pz ((a1.getD ((x1875.2.2).toNat) default).High)])], [], 3⟩)
 (.br (decide (((a1.getD ((x1875.2.2).toNat) default).Axis) < 0))
 (.ret (.out true))
 (.grd (0 ≤ (0 : Int) ∧ (0 : Int) < ((a0.length : Nat) : Int)) <|
 .ret (.out (decide (((a1.getD ((x1875.2.2).toNat) default).Axis) ≥ (((a0.getD ((0 : Int).toNat) default).length : Nat) : Int)))))) fun y2159 =>
 .br y2159
 (.ret (.fin (nl, false)))
 (.conv 16004 (ezu 1 az0 ([(a1.getD ((x1875.2.2).toNat) default).Low, (a1.getD ((x1875.2.2).toNat) default).High] : (List Int)) 3) <|
 .name 16005 (((([(a1.getD ((x1875.2.2).toNat) default).Low, (a1.getD ((x1875.2.2).toNat) default).High] : (List Int)).length : Nat) : Int)) fun z2205 =>
 .loop (fun (x2220 : ((List Int) × Int)) => ⟨[(0, .pure (encL 1 (encL 1 az0) a0)), (1, .pure (encL 4 azf a1)), (6, .vec 0), (8, .vec 1), (9, pz x1875.2.2), (28, .pure (encL 4 azf a1)), (29, pz ((a1.length : Nat) : Int)), (30, pz x1875.2.2), (72, .vec 2), (73, pz z2205), (74, pz x2220.2)], [(0, vecO 1 az0 x2220.1 3), (1, vecO 1 encB (x1875.2.1.set (((a1.getD ((x1875.2.2).toNat) default).Point).toNat) true) 4), (2, vecO 1 az0 ([(a1.getD ((x1875.2.2).toNat) default).Low, (a1.getD ((x1875.2.2).toNat) default).High] : (List Int)) 3)], [], 3⟩)
 (.exit 4) (fun (y2234 : (List Int)) => ⟨[(0, .pure (encL 1 (encL 1 az0) a0)), (1, .pure (encL 4 azf a1)), (6, .vec 0), (8, .vec 1), (9, pz x1875.2.2), (28, .pure (encL 4 azf a1)), (29, pz ((a1.length : Nat) : Int)), (30, pz x1875.2.2)], [(0, vecO 1 az0 y2234 3), (1, vecO 1 encB (x1875.2.1.set (((a1.getD ((x1875.2.2).toNat) default).Point).toNat) true) 4)], [], 2⟩)
 (fun x2220 => .br (decide (x2220.2 < z2205))
 (.cut 0 (fun (y2243 : (List Int)) => ⟨[(0, .pure (encL 1 (encL 1 az0) a0)), (1, .pure (encL 4 azf a1)), (6, .vec 0), (8, .vec 1), (9, pz x1875.2.2), (28, .pure (encL 4 azf a1)), (29, pz ((a1.length : Nat) : Int)), (30, pz x1875.2.2), (72, .vec 2), (73, pz z2205), (74, pz x2220.2)], [(0, vecO 1 az0 y2243 3), (1, vecO 1 encB (x1875.2.1.set (((a1.getD ((x1875.2.2).toNat) default).Point).toNat) true) 4), (2, vecO 1 az0 ([(a1.getD ((x1875.2.2).toNat) default).Low, (a1.getD ((x1875.2.2).toNat) default).High] : (List Int)) 3)], [], 3⟩)
 (.grd (0 ≤ x2220.2 ∧ x2220.2 < ((([(a1.getD ((x1875.2.2).toNat) default).Low, (a1.getD ((x1875.2.2).toNat) default).High] : (List Int)).length : Nat) : Int)) <|
 .grd ((x2220.2).toNat < ([(a1.getD ((x1875.2.2).toNat) default).Low, (a1.getD ((x1875.2.2).toNat) default).High] : (List Int)).length) <|
 .name 18001 ((([(a1.getD ((x1875.2.2).toNat) default).Low, (a1.getD ((x1875.2.2).toNat) default).High] : (List Int)).getD ((x2220.2).toNat) default)) fun z2245 =>
 .br (z2245 == (-1))
 (.ret (.out x2220.1))
 (.cut 1 (fun (y2247 : Bool) => ⟨[(0, .pure (encL 1 (encL 1 az0) a0)), (1, .pure (encL 4 azf a1)), (6, .vec 0), (8, .vec 1), (9, pz x1875.2.2), (12, pz z2245), (28, .pure (encL 4 azf a1)), (29, pz ((a1.length : Nat) : Int)), (30, pz x1875.2.2), (72, .vec 2), (73, pz z2205), (74, pz x2220.2), (95, .pure (.bool y2247))], [(0, vecO 1 az0 x2220.1 3), (1, vecO 1 encB (x1875.2.1.set (((a1.getD ((x1875.2.2).toNat) default).Point).toNat) true) 4), (2, vecO 1 az0 ([(a1.getD ((x1875.2.2).toNat) default).Low, (a1.getD ((x1875.2.2).toNat) default).High] : (List Int)) 3)], [], 3⟩)
 (.br (decide (z2245 ≤ x1875.2.2))
 (.ret (.out true))
 (.br (decide (z2245 ≥ ((a1.length : Nat) : Int)))
 (.ret (.out true))
 (.grd (0 ≤ z2245 ∧ z2245 < ((x2220.1.length : Nat) : Int)) <|
 .grd ((z2245).toNat < x2220.1.length) <|
 .ret (.out ((x2220.1.getD ((z2245).toNat) default) != (-1)))))) fun y2247 =>
 .br y2247
 (.ret (.fin (.fin (.fin (nl, false)))))
 (.grd (0 ≤ z2245 ∧ z2245 < ((x2220.1.length : Nat) : Int)) <|
 .conv 22004 (azq 1 az0 x2220.1 3 ((z2245).toNat) x1875.2.2) <|
 .grd ((z2245).toNat < x2220.1.length ∧ 0 ≤ (z2245).toNat) <|
 .ret (.out (x2220.1.set ((z2245).toNat) x1875.2.2))))) fun y2243 =>
 .ret (.next (y2243, (IntKind.i64.wrap (x2220.2 + 1)))))
 (.ret (.out x2220.1)))
 (x1875.1, 0) [] fun y2234 =>
 .cut 0 (fun (y2248 : Bool) => ⟨[(0, .pure (encL 1 (encL 1 az0) a0)), (1, .pure (encL 4 azf a1)), (6, .vec 0), (8, .vec 1), (28, .pure (encL 4 azf a1)), (29, pz ((a1.length : Nat) : Int)), (30, pz x1875.2.2), (109, .pure (.bool y2248))], [(0, vecO 1 az0 y2234 3), (1, vecO 1 encB (x1875.2.1.set (((a1.getD ((x1875.2.2).toNat) default).Point).toNat) true) 4)], [], 2⟩)
 (.br (decide (x1875.2.2 > 0))
 (.grd (0 ≤ x1875.2.2 ∧ x1875.2.2 < ((y2234.length : Nat) : Int)) <|
 .grd ((x1875.2.2).toNat < y2234.length) <|
 .ret (.out ((y2234.getD ((x1875.2.2).toNat) default) == (-1))))
 (.ret (.out false))) fun y2248 =>
 .br y2248
 (.ret (.fin (nl, false)))
 (.ret (.next (y2234, (x1875.2.1.set (((a1.getD ((x1875.2.2).toNat) default).Point).toNat) true), (IntKind.i64.wrap (x1875.2.2 + 1))))))))
 (.ret (.out x1875.1)))
 (y1130, (List.replicate (((a0.length : Nat) : Int)).toNat (false : Bool)), 0) [] fun y2062 =>
 .ret (y2062, true)
noncomputable def izi (a0 : (List (List Int))) (a1 : (List aze)) : CallS ((List Int) × Bool) :=
  mkC [] hd Tryz.func170 (by kernel_rfl) (izj a0 a1) 0 [.pure (encL 1 (encL 1 az0) a0), .pure (encL 4 azf a1)] [] (fun r => .tup [.pure (encL 1 az0 r.1), .pure (.bool r.2)]) (fun _ => []) (by kernel_rfl)
noncomputable def izh (a0 : (List (List Int))) (a1 : (List aze)) (a2 : (List Int)) : T Bool :=
 .loop (fun (x125 : Int) => ⟨[(0, .pure (encL 1 (encL 1 az0) a0)), (1, .pure (encL 4 azf a1)), (2, .pure (encL 1 az0 a2)), (12, .pure (encL 4 azf a1)), (13, pz ((a1.length : Nat) : Int)), (14, pz x125)], [], [], 0⟩)
 (.exit 0) (fun (_ : U0) => ⟨[], [], [], 0⟩)
 (fun x125 => .br (decide (x125 < ((a1.length : Nat) : Int)))
 (.grd (0 ≤ x125 ∧ x125 < ((a1.length : Nat) : Int)) <|
 .grd (0 ≤ x125 ∧ x125 < ((a2.length : Nat) : Int)) <|
 .loop (fun (x177 : (Int × Int)) => ⟨[(0, .pure (encL 1 (encL 1 az0) a0)), (1, .pure (encL 4 azf a1)), (2, .pure (encL 1 az0 a2)), (8, .ptr 0 0), (9, pz x177.1), (10, pz x177.2), (12, .pure (encL 4 azf a1)), (13, pz ((a1.length : Nat) : Int)), (14, pz x125)], [(0, .box [pz ((a1.getD ((x125).toNat) default).Point), pz ((a1.getD ((x125).toNat) default).Axis), pz ((a1.getD ((x125).toNat) default).Low), pz ((a1.getD ((x125).toNat) default).High)])], [], 1⟩)
 (.exit 2) (fun (_ : U0) => ⟨[(0, .pure (encL 1 (encL 1 az0) a0)), (1, .pure (encL 4 azf a1)), (2, .pure (encL 1 az0 a2)), (12, .pure (encL 4 azf a1)), (13, pz ((a1.length : Nat) : Int)), (14, pz x125)], [], [], 0⟩)
 (fun x177 => .br (x177.2 != (-1))
 (.grd (0 ≤ x177.2 ∧ x177.2 < ((a1.length : Nat) : Int)) <|
 .grd (0 ≤ x177.2 ∧ x177.2 < ((a1.length : Nat) : Int)) <|
 .call (hzn a0 ((a1.getD ((x177.2).toNat) default).Axis) ((a1.getD ((x125).toNat) default).Point) ((a1.getD ((x177.2).toNat) default).Point)) [] fun y186 =>
 .grd (0 ≤ x177.2 ∧ x177.2 < ((a1.length : Nat) : Int)) <|
 .br (!((decide (y186 < 0)) == (x177.1 == ((a1.getD ((x177.2).toNat) default).Low))))
 (.ret (.fin (.fin false)))
 (.grd (0 ≤ x177.2 ∧ x177.2 < ((a2.length : Nat) : Int)) <|
 .ret (.next (x177.2, (a2.getD ((x177.2).toNat) default)))))
 (.ret (.out .u)))
 (x125, (a2.getD ((x125).toNat) default)) [] fun _ =>
 .ret (.next (IntKind.i64.wrap (x125 + 1))))
 (.ret (.out .u)))
 0 [] fun _ =>
 .ret true
noncomputable def lzy (a0 : (List (List Int))) (a1 : (List aze)) (a2 : (List Int)) : CallS Bool :=
  mkC [] hd Tryz.func171 (by kernel_rfl) (izh a0 a1 a2) 0 [.pure (encL 1 (encL 1 az0) a0), .pure (encL 4 azf a1), .pure (encL 1 az0 a2)] [] (fun r => .pure (.bool r)) (fun _ => []) (by kernel_rfl)
noncomputable def jzy (a0 : (List (List Int))) (a1 : (List aze)) : T Bool :=
 .cut 3 (fun (y7 : Bool) => ⟨[(0, .pure (encL 1 (encL 1 az0) a0)), (1, .pure (encL 4 azf a1)), (4, .ptr 0 0), (16, .pure (.bool y7))], [(0, .box [.ff])], [.func 169 [] [.ptr 0 0]], 1⟩)
 (.call (gz0 a0) [] fun y8 =>
 .br (!y8)
 (.ret (.out true))
 (.ret (.out (((a1.length : Nat) : Int) != ((a0.length : Nat) : Int))))) fun y7 =>
 .br y7
 (.ret false)
 (.call (izi a0 a1) [] fun y10 =>
 .br y10.2
 (.call (lzy a0 a1 y10.1) [] fun y11 =>
 .ret y11)
 (.ret false))
noncomputable def oz7 (a0 : (List (List Int))) (a1 : (List aze)) : CallS Bool :=
  mkC [⟨169, Fzh⟩] hd Tryz.func140 (by kernel_rfl) (jzy a0 a1) 0 [.pure (encL 1 (encL 1 az0) a0), .pure (encL 4 azf a1)] [] (fun r => .pure (.bool r)) (fun _ => []) (by kernel_rfl)
noncomputable def lz6 (a0 : az8) (a1 : (List (List Int))) (a2 : (List aze)) (a3 : (List Int)) : T Bool :=
 .cut 2 (fun (y17 : Bool) => ⟨[(1, .pure (encL 1 (encL 1 az0) a1)), (4, .ptr 0 0), (30, .pure (.bool y17))], [(0, .box [.pure (encL 12 az9 a0.Joints), .pure (encL 5 azb a0.Masses)])], [], 1⟩)
 (.call (hz3 (⟨a0.Joints, a0.Masses⟩ : az8)) [] fun y18 =>
 .br (y18 != 0)
 (.ret (.out true))
 (.br (((a3.length : Nat) : Int) != ((a0.Joints.length : Nat) : Int))
 (.ret (.out true))
 (.call (hzo a3) [] fun y19 =>
 .br (!y19)
 (.ret (.out true))
 (.call (oz7 a1 a2) [] fun y20 =>
 .ret (.out (!y20)))))) fun y17 =>
 .br y17
 (.ret false)
 (.br (((a1.length : Nat) : Int) == 0)
 (.ret true)
 (.grd (0 ≤ (0 : Int) ∧ (0 : Int) < ((a1.length : Nat) : Int)) <|
 .ret ((((a1.getD ((0 : Int).toNat) default).length : Nat) : Int) == ((a0.Joints.length : Nat) : Int))))
noncomputable def pz5 (a0 : az8) (a1 : (List (List Int))) (a2 : (List aze)) (a3 : (List Int)) : CallS Bool :=
  mkC [] hd Tryz.func108 (by kernel_rfl) (lz6 a0 a1 a2 a3) 0 [.pure (azw a0), .pure (encL 1 (encL 1 az0) a1), .pure (encL 4 azf a2), .pure (encL 1 az0 a3)] [] (fun r => .pure (.bool r)) (fun _ => []) (by kernel_rfl)
noncomputable def jzb (a0 : czd) (a1 : Int) : T Int :=
 .grd (0 ≤ a1 ∧ a1 < ((a0.points.length : Nat) : Int)) <|
 .loop (fun (x71 : (Int × Int)) => ⟨[(2, .ptr 0 0), (5, pz x71.1), (13, .pure (encL 1 az0 (a0.points.getD ((a1).toNat) default))), (14, pz (((a0.points.getD ((a1).toNat) default).length : Nat) : Int)), (15, pz x71.2)], [(0, .box [.pure (encL 12 az9 a0.joints), .pure (encL 1 (encL 1 az0) a0.points), .pure (encL 4 azf a0.tree), .pure (encL 1 az0 a0.q)])], [], 1⟩)
 (.exit 0) (fun (y78 : Int) => ⟨[(5, pz y78)], [], [], 0⟩)
 (fun x71 => .br (decide (x71.2 < (((a0.points.getD ((a1).toNat) default).length : Nat) : Int)))
 (.grd (0 ≤ x71.2 ∧ x71.2 < (((a0.points.getD ((a1).toNat) default).length : Nat) : Int)) <|
 .grd (0 ≤ x71.2 ∧ x71.2 < ((a0.q.length : Nat) : Int)) <|
 .name 5006 ((IntKind.i64.wrap ((a0.q.getD ((x71.2).toNat) default) - ((a0.points.getD ((a1).toNat) default).getD ((x71.2).toNat) default)))) fun z83 =>
 .grd (0 ≤ x71.2 ∧ x71.2 < ((a0.joints.length : Nat) : Int)) <|
 .name 6012 ((IntKind.i64.wrap (x71.1 + (IntKind.i64.wrap (((a0.joints.getD ((x71.2).toNat) default).Weight) * (max z83 (IntKind.i64.wrap (0 - z83)))))))) fun z84 =>
 .ret (.next (z84, (IntKind.i64.wrap (x71.2 + 1)))))
 (.ret (.out x71.1)))
 (0, 0) [] fun y78 =>
 .ret y78
noncomputable def nz3 (a0 : czd) (a1 : Int) : CallS Int :=
  mkC [] hd Tryz.func143 (by kernel_rfl) (jzb a0 a1) 0 [.pure (lz2 a0), pz a1] [] (fun r => pz r) (fun _ => []) (by kernel_rfl)
noncomputable def kz2 (a0 : (List Int)) (a1 : (List Int)) (a2 : Int) : T ((List Int) × (List Int)) :=
 .conv 7 (ezu 1 az0 ([a2] : (List Int)) 3) <|
 .conv 8 (gzg 1 az0 a0 ([a2] : (List Int)) 3) <|
 .grd ((a0.length + ([a2] : (List Int)).length) * 8 ≤ 140737488355328 ∧ (a0.length + ([a2] : (List Int)).length) ≤ maxLen) <|
 .ret ((a0 ++ ([a2] : (List Int))), a1)
noncomputable def oz9 (a0 : (List Int)) (a1 : (List Int)) (a2 : Int) : CallS ((List Int) × (List Int)) :=
  mkC [] hd Tryz.func215 (by kernel_rfl) (kz2 a0 a1 a2) 4 [.ptr 0 0, .iface 3 (pz a2)] [(0, .box [.vec 1, .func 109 [] [.ptr 2 0]]), (1, vecO 1 az0 a0 3), (2, .box [.vec 3]), (3, vecO 1 az0 a1 2)] (fun _ => .tup []) (fun r => [(0, .box [.vec 4, .func 109 [] [.ptr 2 0]]), (1, .gone), (2, .box [.vec 3]), (3, vecO 1 az0 r.2 2), (4, vecO 1 az0 r.1 3)]) (by kernel_rfl)
noncomputable def uzv (a0 : (List Int)) (a1 : (List Int)) : T (Int × (List Int) × (List Int)) :=
 .ret (((a0.length : Nat) : Int), a0, a1)
noncomputable def fzb (a0 : (List Int)) (a1 : (List Int)) : CallS (Int × (List Int) × (List Int)) :=
  mkC [] hd Tryz.func113 (by kernel_rfl) (uzv a0 a1) 4 [.ptr 0 0] [(0, .box [.vec 1, .func 109 [] [.ptr 2 0]]), (1, vecO 1 az0 a0 3), (2, .box [.vec 3]), (3, vecO 1 az0 a1 2)] (fun r => pz r.1) (fun r => [(0, .box [.vec 1, .func 109 [] [.ptr 2 0]]), (1, vecO 1 az0 r.2.1 3), (2, .box [.vec 3]), (3, vecO 1 az0 r.2.2 2)]) (by kernel_rfl)
noncomputable def hz9 (a0 : Int) (a1 : Int) (a2 : (List Int)) : T (Bool × (List Int)) :=
 .grd (0 ≤ a0 ∧ a0 < ((a2.length : Nat) : Int)) <|
 .grd ((a0).toNat < a2.length) <|
 .grd (0 ≤ a1 ∧ a1 < ((a2.length : Nat) : Int)) <|
 .grd ((a1).toNat < a2.length) <|
 .call (hzy (a2.getD ((a0).toNat) default) (a2.getD ((a1).toNat) default)) [] fun y1 =>
 .call (bz6 a0 a1) [] fun y2 =>
 .conv 1012 (ezu 1 az0 ([y1, y2] : (List Int)) 3) <|
 .call (lzp ([y1, y2] : (List Int))) [] fun y3 =>
 .ret ((decide (y3 > 0)), a2)
noncomputable def kzg (a0 : Int) (a1 : Int) (a2 : (List Int)) : CallS (Bool × (List Int)) :=
  mkC [] hd Tryz.func109 (by kernel_rfl) (hz9 a0 a1 a2) 2 [pz a0, pz a1, .ptr 0 0] [(0, .box [.vec 1]), (1, vecO 1 az0 a2 2)] (fun r => .pure (.bool r.1)) (fun r => [(0, .box [.vec 1]), (1, vecO 1 az0 r.2 2)]) (by kernel_rfl)
noncomputable def kz1 (a0 : (List Int)) (a1 : (List Int)) (a2 : Int) (a3 : Int) : T (Bool × (List Int) × (List Int)) :=
 .grd (0 ≤ a2 ∧ a2 < ((a0.length : Nat) : Int)) <|
 .grd ((a2).toNat < a0.length) <|
 .grd (0 ≤ a3 ∧ a3 < ((a0.length : Nat) : Int)) <|
 .grd ((a3).toNat < a0.length) <|
 .call (kzg (a0.getD ((a2).toNat) default) (a0.getD ((a3).toNat) default) a1) [(0, 2), (1, 3)] fun y1 =>
 .ret (y1.1, a0, y1.2)
noncomputable def fzp (a0 : (List Int)) (a1 : (List Int)) (a2 : Int) (a3 : Int) : CallS (Bool × (List Int) × (List Int)) :=
  mkC [] hd Tryz.func213 (by kernel_rfl) (kz1 a0 a1 a2 a3) 4 [.ptr 0 0, pz a2, pz a3] [(0, .box [.vec 1, .func 109 [] [.ptr 2 0]]), (1, vecO 1 az0 a0 3), (2, .box [.vec 3]), (3, vecO 1 az0 a1 2)] (fun r => .pure (.bool r.1)) (fun r => [(0, .box [.vec 1, .func 109 [] [.ptr 2 0]]), (1, vecO 1 az0 r.2.1 3), (2, .box [.vec 3]), (3, vecO 1 az0 r.2.2 2)]) (by kernel_rfl)
noncomputable def kz3 (a0 : (List Int)) (a1 : (List Int)) (a2 : Int) (a3 : Int) : T ((List Int) × (List Int)) :=
 .grd (0 ≤ a3 ∧ a3 < ((a0.length : Nat) : Int)) <|
 .grd ((a3).toNat < a0.length) <|
 .grd (0 ≤ a2 ∧ a2 < ((a0.length : Nat) : Int)) <|
 .grd ((a2).toNat < a0.length) <|
 .grd (0 ≤ a2 ∧ a2 < ((a0.length : Nat) : Int)) <|
 .conv 25 (azq 1 az0 a0 3 ((a2).toNat) (a0.getD ((a3).toNat) default)) <|
 .grd ((a2).toNat < a0.length ∧ 0 ≤ (a2).toNat) <|
 .grd (0 ≤ a3 ∧ a3 < (((a0.set ((a2).toNat) (a0.getD ((a3).toNat) default)).length : Nat) : Int)) <|
 .conv 27 (azq 1 az0 (a0.set ((a2).toNat) (a0.getD ((a3).toNat) default)) 3 ((a3).toNat) (a0.getD ((a2).toNat) default)) <|
 .grd ((a3).toNat < (a0.set ((a2).toNat) (a0.getD ((a3).toNat) default)).length ∧ 0 ≤ (a3).toNat) <|
 .ret (((a0.set ((a2).toNat) (a0.getD ((a3).toNat) default)).set ((a3).toNat) (a0.getD ((a2).toNat) default)), a1)
noncomputable def fzq (a0 : (List Int)) (a1 : (List Int)) (a2 : Int) (a3 : Int) : CallS ((List Int) × (List Int)) :=
  mkC [] hd Tryz.func216 (by kernel_rfl) (kz3 a0 a1 a2 a3) 4 [.ptr 0 0, pz a2, pz a3] [(0, .box [.vec 1, .func 109 [] [.ptr 2 0]]), (1, vecO 1 az0 a0 3), (2, .box [.vec 3]), (3, vecO 1 az0 a1 2)] (fun _ => .tup []) (fun r => [(0, .box [.vec 1, .func 109 [] [.ptr 2 0]]), (1, vecO 1 az0 r.1 3), (2, .box [.vec 3]), (3, vecO 1 az0 r.2 2)]) (by kernel_rfl)
noncomputable def iz2 (a0 : (List Int)) (a1 : (List Int)) (a2 : Int) : T ((List Int) × (List Int)) :=
 .loop (fun (x12 : ((List Int) × (List Int) × Int)) => ⟨[(0, .iface 141 (.ptr 0 0)), (1, pz x12.2.2)], [(0, .box [.vec 1, .func 109 [] [.ptr 2 0]]), (1, vecO 1 az0 x12.1 3), (2, .box [.vec 3]), (3, vecO 1 az0 x12.2.1 2)], [], 4⟩)
 (.exit 0) (fun (y23 : ((List Int) × (List Int))) => ⟨[], [(0, .box [.vec 1, .func 109 [] [.ptr 2 0]]), (1, vecO 1 az0 y23.1 3), (2, .box [.vec 3]), (3, vecO 1 az0 y23.2 2)], [], 4⟩)
 (fun x12 => .ok ((2 : Int) ≠ 0) (by decide) <|
 .cut 1 (fun (y30 : ((List Int) × (List Int) × Bool)) => ⟨[(0, .iface 141 (.ptr 0 0)), (1, pz x12.2.2), (4, pz (IntKind.i64.wrap ((IntKind.i64.wrap (x12.2.2 - 1)).tdiv 2))), (17, .pure (.bool y30.2.2))], [(0, .box [.vec 1, .func 109 [] [.ptr 2 0]]), (1, vecO 1 az0 y30.1 3), (2, .box [.vec 3]), (3, vecO 1 az0 y30.2.1 2)], [], 4⟩)
 (.br ((IntKind.i64.wrap ((IntKind.i64.wrap (x12.2.2 - 1)).tdiv 2)) == x12.2.2)
 (.ret (.out (x12.1, x12.2.1, true)))
 (.call (fzp x12.1 x12.2.1 x12.2.2 (IntKind.i64.wrap ((IntKind.i64.wrap (x12.2.2 - 1)).tdiv 2))) [(0, 0), (1, 1), (2, 2), (3, 3)] fun y31 =>
 .ret (.out (y31.2.1, y31.2.2, (!y31.1))))) fun y30 =>
 .br y30.2.2
 (.ret (.out (y30.1, y30.2.1)))
 (.call (fzq y30.1 y30.2.1 (IntKind.i64.wrap ((IntKind.i64.wrap (x12.2.2 - 1)).tdiv 2)) x12.2.2) [(0, 0), (1, 1), (2, 2), (3, 3)] fun y33 =>
 .ret (.next (y33.1, y33.2, (IntKind.i64.wrap ((IntKind.i64.wrap (x12.2.2 - 1)).tdiv 2))))))
 (a0, a1, a2) [] fun y23 =>
 .ret (y23.1, y23.2)
noncomputable def iz1 (a0 : (List Int)) (a1 : (List Int)) (a2 : Int) : CallS ((List Int) × (List Int)) :=
  mkC [] hd Tryz.func172 (by kernel_rfl) (iz2 a0 a1 a2) 4 [.iface 141 (.ptr 0 0), pz a2] [(0, .box [.vec 1, .func 109 [] [.ptr 2 0]]), (1, vecO 1 az0 a0 3), (2, .box [.vec 3]), (3, vecO 1 az0 a1 2)] (fun _ => .tup []) (fun r => [(0, .box [.vec 1, .func 109 [] [.ptr 2 0]]), (1, vecO 1 az0 r.1 3), (2, .box [.vec 3]), (3, vecO 1 az0 r.2 2)]) (by kernel_rfl)
noncomputable def gzd (a0 : (List Int)) (a1 : (List Int)) (a2 : Int) : T ((List Int) × (List Int)) :=
 .call (oz9 a0 a1 a2) [(0, 0), (1, 1), (2, 2), (3, 3)] fun y2 =>
 .call (fzb y2.1 y2.2) [(0, 0), (1, 132), (2, 2), (3, 3)] fun y3 =>
 .call (iz1 y3.2.1 y3.2.2 (IntKind.i64.wrap (y3.1 - 1))) [(0, 0), (1, 132), (2, 2), (3, 3)] fun y4 =>
 .ret (y4.1, y4.2)
noncomputable def jzf (a0 : (List Int)) (a1 : (List Int)) (a2 : Int) : CallS ((List Int) × (List Int)) :=
  mkC [] hd Tryz.func144 (by kernel_rfl) (gzd a0 a1 a2) 4 [.iface 141 (.ptr 0 0), .iface 3 (pz a2)] [(0, .box [.vec 1, .func 109 [] [.ptr 2 0]]), (1, vecO 1 az0 a0 3), (2, .box [.vec 3]), (3, vecO 1 az0 a1 2)] (fun _ => .tup []) (fun r => [(0, .box [.vec 4, .func 109 [] [.ptr 2 0]]), (1, .gone), (2, .box [.vec 3]), (3, vecO 1 az0 r.2 2), (4, vecO 1 az0 r.1 3)]) (by kernel_rfl)
noncomputable def kz4 (a0 : (List Int)) (a1 : (List Int)) (a2 : Int) : T ((List Int) × (List Int)) :=
 .call (jzf a0 a1 a2) [(0, 0), (1, 1), (2, 2), (3, 3)] fun y1 =>
 .ret (y1.1, y1.2)
noncomputable def oza (a0 : (List Int)) (a1 : (List Int)) (a2 : Int) : CallS ((List Int) × (List Int)) :=
  mkC [] hd Tryz.func115 (by kernel_rfl) (kz4 a0 a1 a2) 4 [.ptr 0 0, pz a2] [(0, .box [.vec 1, .func 109 [] [.ptr 2 0]]), (1, vecO 1 az0 a0 3), (2, .box [.vec 3]), (3, vecO 1 az0 a1 2)] (fun _ => .tup []) (fun r => [(0, .box [.vec 4, .func 109 [] [.ptr 2 0]]), (1, .gone), (2, .box [.vec 3]), (3, vecO 1 az0 r.2 2), (4, vecO 1 az0 r.1 3)]) (by kernel_rfl)
noncomputable def gzf (a0 : (List Int)) (a1 : (List Int)) (a2 : Int) (a3 : Int) : T (Bool × (List Int) × (List Int)) :=
 .loop (fun (x89 : ((List Int) × (List Int) × Int)) => ⟨[(0, .iface 141 (.ptr 0 0)), (1, pz a2), (2, pz a3), (7, pz x89.2.2)], [(0, .box [.vec 1, .func 109 [] [.ptr 2 0]]), (1, vecO 1 az0 x89.1 3), (2, .box [.vec 3]), (3, vecO 1 az0 x89.2.1 2)], [], 4⟩)
 (.exit 0) (fun (y111 : ((List Int) × (List Int) × Int)) => ⟨[(1, pz a2), (7, pz y111.2.2)], [(0, .box [.vec 1, .func 109 [] [.ptr 2 0]]), (1, vecO 1 az0 y111.1 3), (2, .box [.vec 3]), (3, vecO 1 az0 y111.2.1 2)], [], 4⟩)
 (fun x89 => .cut 2 (fun (y113 : Bool) => ⟨[(0, .iface 141 (.ptr 0 0)), (1, pz a2), (2, pz a3), (7, pz x89.2.2), (8, pz (IntKind.i64.wrap ((IntKind.i64.wrap (2 * x89.2.2)) + 1))), (21, .pure (.bool y113))], [(0, .box [.vec 1, .func 109 [] [.ptr 2 0]]), (1, vecO 1 az0 x89.1 3), (2, .box [.vec 3]), (3, vecO 1 az0 x89.2.1 2)], [], 4⟩)
 (.br (decide ((IntKind.i64.wrap ((IntKind.i64.wrap (2 * x89.2.2)) + 1)) ≥ a3))
 (.ret (.out true))
 (.ret (.out (decide ((IntKind.i64.wrap ((IntKind.i64.wrap (2 * x89.2.2)) + 1)) < 0))))) fun y113 =>
 .br y113
 (.ret (.out (x89.1, x89.2.1, x89.2.2)))
 (.cut 1 (fun (y122 : ((List Int) × (List Int) × Int)) => ⟨[(0, .iface 141 (.ptr 0 0)), (1, pz a2), (2, pz a3), (7, pz x89.2.2), (9, pz y122.2.2)], [(0, .box [.vec 1, .func 109 [] [.ptr 2 0]]), (1, vecO 1 az0 y122.1 3), (2, .box [.vec 3]), (3, vecO 1 az0 y122.2.1 2)], [], 4⟩)
 (.cut 1 (fun (y125 : ((List Int) × (List Int) × Bool)) => ⟨[(0, .iface 141 (.ptr 0 0)), (1, pz a2), (2, pz a3), (7, pz x89.2.2), (9, pz (IntKind.i64.wrap ((IntKind.i64.wrap (2 * x89.2.2)) + 1))), (10, pz (IntKind.i64.wrap ((IntKind.i64.wrap ((IntKind.i64.wrap (2 * x89.2.2)) + 1)) + 1))), (33, .pure (.bool y125.2.2))], [(0, .box [.vec 1, .func 109 [] [.ptr 2 0]]), (1, vecO 1 az0 y125.1 3), (2, .box [.vec 3]), (3, vecO 1 az0 y125.2.1 2)], [], 4⟩)
 (.br (decide ((IntKind.i64.wrap ((IntKind.i64.wrap ((IntKind.i64.wrap (2 * x89.2.2)) + 1)) + 1)) < a3))
 (.call (fzp x89.1 x89.2.1 (IntKind.i64.wrap ((IntKind.i64.wrap ((IntKind.i64.wrap (2 * x89.2.2)) + 1)) + 1)) (IntKind.i64.wrap ((IntKind.i64.wrap (2 * x89.2.2)) + 1))) [(0, 0), (1, 1), (2, 2), (3, 3)] fun y126 =>
 .ret (.out (y126.2.1, y126.2.2, y126.1)))
 (.ret (.out (x89.1, x89.2.1, false)))) fun y125 =>
 .br y125.2.2
 (.ret (.out (y125.1, y125.2.1, (IntKind.i64.wrap ((IntKind.i64.wrap ((IntKind.i64.wrap (2 * x89.2.2)) + 1)) + 1)))))
 (.ret (.out (y125.1, y125.2.1, (IntKind.i64.wrap ((IntKind.i64.wrap (2 * x89.2.2)) + 1)))))) fun y122 =>
 .call (fzp y122.1 y122.2.1 y122.2.2 x89.2.2) [(0, 0), (1, 1), (2, 2), (3, 3)] fun y130 =>
 .br (!y130.1)
 (.ret (.out (y130.2.1, y130.2.2, x89.2.2)))
 (.call (fzq y130.2.1 y130.2.2 x89.2.2 y122.2.2) [(0, 0), (1, 1), (2, 2), (3, 3)] fun y132 =>
 .ret (.next (y132.1, y132.2, y122.2.2)))))
 (a0, a1, a2) [] fun y111 =>
 .ret ((decide (y111.2.2 > a2)), y111.1, y111.2.1)
noncomputable def gze (a0 : (List Int)) (a1 : (List Int)) (a2 : Int) (a3 : Int) : CallS (Bool × (List Int) × (List Int)) :=
  mkC [] hd Tryz.func173 (by kernel_rfl) (gzf a0 a1 a2 a3) 4 [.iface 141 (.ptr 0 0), pz a2, pz a3] [(0, .box [.vec 1, .func 109 [] [.ptr 2 0]]), (1, vecO 1 az0 a0 3), (2, .box [.vec 3]), (3, vecO 1 az0 a1 2)] (fun r => .pure (.bool r.1)) (fun r => [(0, .box [.vec 1, .func 109 [] [.ptr 2 0]]), (1, vecO 1 az0 r.2.1 3), (2, .box [.vec 3]), (3, vecO 1 az0 r.2.2 2)]) (by kernel_rfl)
noncomputable def lz8 (a0 : (List Int)) (a1 : (List Int)) : T (Int × (List Int) × (List Int)) :=
 .grd (0 ≤ (IntKind.i64.wrap (((a0.length : Nat) : Int) - 1)) ∧ (IntKind.i64.wrap (((a0.length : Nat) : Int) - 1)) < ((a0.length : Nat) : Int)) <|
 .grd (((IntKind.i64.wrap (((a0.length : Nat) : Int) - 1))).toNat < a0.length) <|
 .conv 3006 (Hz1 1 az0 a0 3 (IntKind.i64.wrap (((a0.length : Nat) : Int) - 1))) <|
 .grd (0 ≤ (IntKind.i64.wrap (((a0.length : Nat) : Int) - 1)) ∧ (IntKind.i64.wrap (((a0.length : Nat) : Int) - 1)) ≤ ((a0.length : Nat) : Int) ∧ 0 ≤ ((IntKind.i64.wrap (((a0.length : Nat) : Int) - 1))).toNat) <|
 .ret ((a0.getD (((IntKind.i64.wrap (((a0.length : Nat) : Int) - 1))).toNat) default), (a0.take (((IntKind.i64.wrap (((a0.length : Nat) : Int) - 1))).toNat)), a1)
noncomputable def pz8 (a0 : (List Int)) (a1 : (List Int)) : CallS (Int × (List Int) × (List Int)) :=
  mkC [] hd Tryz.func214 (by kernel_rfl) (lz8 a0 a1) 4 [.ptr 0 0] [(0, .box [.vec 1, .func 109 [] [.ptr 2 0]]), (1, vecO 1 az0 a0 3), (2, .box [.vec 3]), (3, vecO 1 az0 a1 2)] (fun r => .iface 3 (pz r.1)) (fun r => [(0, .box [.vec 4, .func 109 [] [.ptr 2 0]]), (1, .gone), (2, .box [.vec 3]), (3, vecO 1 az0 r.2.2 2), (4, vecO 1 az0 r.2.1 3)]) (by kernel_rfl)
noncomputable def hz6 (a0 : (List Int)) (a1 : (List Int)) : T (Int × (List Int) × (List Int)) :=
 .call (fzb a0 a1) [(0, 0), (1, 1), (2, 2), (3, 3)] fun y2 =>
 .call (fzq y2.2.1 y2.2.2 0 (IntKind.i64.wrap (y2.1 - 1))) [(0, 0), (1, 1), (2, 2), (3, 3)] fun y4 =>
 .call (gze y4.1 y4.2 0 (IntKind.i64.wrap (y2.1 - 1))) [(0, 0), (1, 1), (2, 2), (3, 3)] fun y6 =>
 .call (pz8 y6.2.1 y6.2.2) [(0, 0), (1, 1), (2, 2), (3, 3)] fun y7 =>
 .ret (y7.1, y7.2.1, y7.2.2)
noncomputable def kzf (a0 : (List Int)) (a1 : (List Int)) : CallS (Int × (List Int) × (List Int)) :=
  mkC [] hd Tryz.func145 (by kernel_rfl) (hz6 a0 a1) 4 [.iface 141 (.ptr 0 0)] [(0, .box [.vec 1, .func 109 [] [.ptr 2 0]]), (1, vecO 1 az0 a0 3), (2, .box [.vec 3]), (3, vecO 1 az0 a1 2)] (fun r => .iface 3 (pz r.1)) (fun r => [(0, .box [.vec 4, .func 109 [] [.ptr 2 0]]), (1, .gone), (2, .box [.vec 3]), (3, vecO 1 az0 r.2.2 2), (4, vecO 1 az0 r.2.1 3)]) (by kernel_rfl)
noncomputable def lz9 (a0 : (List Int)) (a1 : (List Int)) : T (Int × (List Int) × (List Int)) :=
 .call (kzf a0 a1) [(0, 0), (1, 1), (2, 2), (3, 3)] fun y1 =>
 .ret (y1.1, y1.2.1, y1.2.2)
noncomputable def izk (a0 : (List Int)) (a1 : (List Int)) : CallS (Int × (List Int) × (List Int)) :=
  mkC [] hd Tryz.func116 (by kernel_rfl) (lz9 a0 a1) 4 [.ptr 0 0] [(0, .box [.vec 1, .func 109 [] [.ptr 2 0]]), (1, vecO 1 az0 a0 3), (2, .box [.vec 3]), (3, vecO 1 az0 a1 2)] (fun r => pz r.1) (fun r => [(0, .box [.vec 4, .func 109 [] [.ptr 2 0]]), (1, .gone), (2, .box [.vec 3]), (3, vecO 1 az0 r.2.2 2), (4, vecO 1 az0 r.2.1 3)]) (by kernel_rfl)
noncomputable def hzd (a0 : Int) (a1 : Int) (a2 : (List Int)) (a3 : (List Int)) (a4 : Int) : T ((List Int) × (List Int)) :=
 .grd (0 ≤ a0 ∧ a0 < ((a2.length : Nat) : Int)) <|
 .conv 4 (azq 1 az0 a2 2 ((a0).toNat) a1) <|
 .grd ((a0).toNat < a2.length ∧ 0 ≤ (a0).toNat) <|
 .call (oza a3 (a2.set ((a0).toNat) a1) a0) [(0, 3), (1, 4), (2, 0), (3, 1)] fun y2 =>
 .call (fzb y2.1 y2.2) [(0, 3), (1, 454), (2, 0), (3, 1)] fun y4 =>
 .br (decide (y4.1 > a4))
 (.call (izk y4.2.1 y4.2.2) [(0, 3), (1, 454), (2, 0), (3, 1)] fun y5 =>
 .ret (y5.2.2, y5.2.1))
 (.ret (y4.2.2, y4.2.1))
noncomputable def hzb (a0 : Int) (a1 : Int) (a2 : (List Int)) (a3 : (List Int)) (a4 : Int) : CallS ((List Int) × (List Int)) :=
  mkC [] hd Tryz.func114 (by kernel_rfl) (hzd a0 a1 a2 a3 a4) 6 [pz a0, pz a1, .ptr 0 0, .ptr 2 0, .ptr 5 0] [(0, .box [.vec 1]), (1, vecO 1 az0 a2 2), (2, .box [.ptr 3 0]), (3, .box [.vec 4, .func 109 [] [.ptr 0 0]]), (4, vecO 1 az0 a3 3), (5, .box [pz a4])] (fun _ => .tup []) (fun r => [(0, .box [.vec 1]), (1, vecO 1 az0 r.1 2), (2, .box [.ptr 3 0]), (3, .box [.vec 6, .func 109 [] [.ptr 0 0]]), (4, .gone), (5, .box [pz a4]), (6, vecO 1 az0 r.2 3)]) (by kernel_rfl)
noncomputable def hza (a0 : (List Int)) (a1 : (List Int)) (a2 : Int) : T (Int × Bool × (List Int) × (List Int)) :=
 .call (fzb a0 a1) [(0, 1), (1, 2), (2, 3), (3, 4)] fun y4 =>
 .br (decide (y4.1 < a2))
 (.ret (0, false, y4.2.1, y4.2.2))
 (.grd (0 ≤ (0 : Int) ∧ (0 : Int) < ((y4.2.1.length : Nat) : Int)) <|
 .grd ((0 : Int).toNat < y4.2.1.length) <|
 .grd (0 ≤ (y4.2.1.getD ((0 : Int).toNat) default) ∧ (y4.2.1.getD ((0 : Int).toNat) default) < ((y4.2.2.length : Nat) : Int)) <|
 .grd (((y4.2.1.getD ((0 : Int).toNat) default)).toNat < y4.2.2.length) <|
 .ret ((y4.2.2.getD (((y4.2.1.getD ((0 : Int).toNat) default)).toNat) default), true, y4.2.1, y4.2.2))
noncomputable def kzh (a0 : (List Int)) (a1 : (List Int)) (a2 : Int) : CallS (Int × Bool × (List Int) × (List Int)) :=
  mkC [] hd Tryz.func112 (by kernel_rfl) (hza a0 a1 a2) 6 [.ptr 0 0, .ptr 5 0, .ptr 3 0] [(0, .box [.ptr 1 0]), (1, .box [.vec 2, .func 109 [] [.ptr 3 0]]), (2, vecO 1 az0 a0 3), (3, .box [.vec 4]), (4, vecO 1 az0 a1 2), (5, .box [pz a2])] (fun r => .tup [pz r.1, .pure (.bool r.2.1)]) (fun r => [(0, .box [.ptr 1 0]), (1, .box [.vec 2, .func 109 [] [.ptr 3 0]]), (2, vecO 1 az0 r.2.2.1 3), (3, .box [.vec 4]), (4, vecO 1 az0 r.2.2.2 2), (5, .box [pz a2])]) (by kernel_rfl)
abbrev kzb := RecS Tryz.prog 142 10 (Int × (List azj) × (List (List Int)) × (List aze) × (List Int) × (List Int) × (List Int) × Int) ((List Int) × (List Int)) (fun a => [pz a.1, .ptr 0 0, .ptr 1 0, .ptr 8 0, .ptr 9 0]) (fun a => [(0, .box [.pure (encL 12 az9 a.2.1), .pure (encL 1 (encL 1 az0) a.2.2.1), .pure (encL 4 azf a.2.2.2.1), .pure (encL 1 az0 a.2.2.2.2.1)]), (1, .box [.func 114 [] [.ptr 2 0, .ptr 4 0, .ptr 7 0]]), (2, .box [.vec 3]), (3, vecO 1 az0 a.2.2.2.2.2.1 2), (4, .box [.ptr 5 0]), (5, .box [.vec 6, .func 109 [] [.ptr 2 0]]), (6, vecO 1 az0 a.2.2.2.2.2.2.1 3), (7, .box [pz a.2.2.2.2.2.2.2]), (8, .box [.func 142 [] [.ptr 0 0, .ptr 1 0, .ptr 8 0, .ptr 9 0]]), (9, .box [.func 112 [] [.ptr 4 0, .ptr 7 0, .ptr 2 0]])]) (fun _ _ => .tup []) (fun a r => [(0, .box [.pure (encL 12 az9 a.2.1), .pure (encL 1 (encL 1 az0) a.2.2.1), .pure (encL 4 azf a.2.2.2.1), .pure (encL 1 az0 a.2.2.2.2.1)]), (1, .box [.func 114 [] [.ptr 2 0, .ptr 4 0, .ptr 7 0]]), (2, .box [.vec 3]), (3, vecO 1 az0 r.1 2), (4, .box [.ptr 5 0]), (5, .box [.vec 10, .func 109 [] [.ptr 2 0]]), (6, .gone), (7, .box [pz a.2.2.2.2.2.2.2]), (8, .box [.func 142 [] [.ptr 0 0, .ptr 1 0, .ptr 8 0, .ptr 9 0]]), (9, .box [.func 112 [] [.ptr 4 0, .ptr 7 0, .ptr 2 0]]), (10, vecO 1 az0 r.2 3)])
noncomputable def kzc (rec : kzb) (a0 : Int) (a1 : (List azj)) (a2 : (List (List Int))) (a3 : (List aze)) (a4 : (List Int)) (a5 : (List Int)) (a6 : (List Int)) (a7 : Int) : T ((List Int) × (List Int)) :=
 .br (a0 == (-1))
 (.ret (a5, a6))
 (.grd (0 ≤ a0 ∧ a0 < ((a3.length : Nat) : Int)) <|
 .call (nz3 (⟨a1, a2, a3, a4⟩ : czd) ((a3.getD ((a0).toNat) default).Point)) [] fun y25 =>
 .call (hzb ((a3.getD ((a0).toNat) default).Point) y25 a5 a6 a7) [(0, 2), (1, 3), (2, 4), (3, 5), (4, 6), (5, 7)] fun y26 =>
 .grd (0 ≤ ((a3.getD ((a0).toNat) default).Axis) ∧ ((a3.getD ((a0).toNat) default).Axis) < ((a4.length : Nat) : Int)) <|
 .grd (0 ≤ ((a3.getD ((a0).toNat) default).Point) ∧ ((a3.getD ((a0).toNat) default).Point) < ((a2.length : Nat) : Int)) <|
 .grd (0 ≤ ((a3.getD ((a0).toNat) default).Axis) ∧ ((a3.getD ((a0).toNat) default).Axis) < (((a2.getD (((a3.getD ((a0).toNat) default).Point).toNat) default).length : Nat) : Int)) <|
 .name 3015 (((a2.getD (((a3.getD ((a0).toNat) default).Point).toNat) default).getD (((a3.getD ((a0).toNat) default).Axis).toNat) default)) fun z28 =>
 .cut 1 (fun (y29 : (Int × Int)) => ⟨[(1, .ptr 0 0), (3, .ptr 8 0), (4, .ptr 9 0), (6, .ptr 11 0), (7, pz (IntKind.i64.wrap ((a4.getD (((a3.getD ((a0).toNat) default).Axis).toNat) default) - z28))), (8, pz y29.1), (9, pz y29.2)], [(0, .box [.pure (encL 12 az9 a1), .pure (encL 1 (encL 1 az0) a2), .pure (encL 4 azf a3), .pure (encL 1 az0 a4)]), (1, .box [.func 114 [] [.ptr 2 0, .ptr 4 0, .ptr 7 0]]), (2, .box [.vec 3]), (3, vecO 1 az0 y26.1 2), (4, .box [.ptr 5 0]), (5, .box [.vec 10, .func 109 [] [.ptr 2 0]]), (6, .gone), (7, .box [pz a7]), (8, .box [.func 142 [] [.ptr 0 0, .ptr 1 0, .ptr 8 0, .ptr 9 0]]), (9, .box [.func 112 [] [.ptr 4 0, .ptr 7 0, .ptr 2 0]]), (10, vecO 1 az0 y26.2 3), (11, .box [pz ((a3.getD ((a0).toNat) default).Point), pz ((a3.getD ((a0).toNat) default).Axis), pz ((a3.getD ((a0).toNat) default).Low), pz ((a3.getD ((a0).toNat) default).High)])], [], 12⟩)
 (.br (decide ((IntKind.i64.wrap ((a4.getD (((a3.getD ((a0).toNat) default).Axis).toNat) default) - z28)) > 0))
 (.ret (.out ((a3.getD ((a0).toNat) default).High, (a3.getD ((a0).toNat) default).Low)))
 (.ret (.out ((a3.getD ((a0).toNat) default).Low, (a3.getD ((a0).toNat) default).High)))) fun y29 =>
 .call (rec.C (y29.1, a1, a2, a3, a4, y26.1, y26.2, a7)) [(0, 0), (1, 1), (2, 2), (3, 3), (4, 4), (5, 5), (6, 10), (7, 7), (8, 8), (9, 9)] fun y31 =>
 .grd (0 ≤ ((a3.getD ((a0).toNat) default).Axis) ∧ ((a3.getD ((a0).toNat) default).Axis) < ((a1.length : Nat) : Int)) <|
 .name 8010 ((max (IntKind.i64.wrap ((a4.getD (((a3.getD ((a0).toNat) default).Axis).toNat) default) - z28)) (IntKind.i64.wrap (0 - (IntKind.i64.wrap ((a4.getD (((a3.getD ((a0).toNat) default).Axis).toNat) default) - z28)))))) fun z33 =>
 .call (kzh y31.2 y31.1 a7) [(0, 4), (1, 5), (2, 140), (3, 2), (4, 3), (5, 7)] fun y35 =>
 .cut 0 (fun (y36 : Bool) => ⟨[(3, .ptr 8 0), (9, pz y29.2), (79, .pure (.bool y36))], [(0, .box [.pure (encL 12 az9 a1), .pure (encL 1 (encL 1 az0) a2), .pure (encL 4 azf a3), .pure (encL 1 az0 a4)]), (1, .box [.func 114 [] [.ptr 2 0, .ptr 4 0, .ptr 7 0]]), (2, .box [.vec 3]), (3, vecO 1 az0 y35.2.2.2 2), (4, .box [.ptr 5 0]), (5, .box [.vec 10, .func 109 [] [.ptr 2 0]]), (6, .gone), (7, .box [pz a7]), (8, .box [.func 142 [] [.ptr 0 0, .ptr 1 0, .ptr 8 0, .ptr 9 0]]), (9, .box [.func 112 [] [.ptr 4 0, .ptr 7 0, .ptr 2 0]]), (10, vecO 1 az0 y35.2.2.1 3)], [], 11⟩)
 (.br (!y35.2.1)
 (.ret (.out true))
 (.ret (.out (decide ((IntKind.i64.wrap (((a1.getD (((a3.getD ((a0).toNat) default).Axis).toNat) default).Weight) * z33)) ≤ y35.1))))) fun y36 =>
 .br y36
 (.call (rec.C (y29.2, a1, a2, a3, a4, y35.2.2.2, y35.2.2.1, a7)) [(0, 0), (1, 1), (2, 2), (3, 3), (4, 4), (5, 5), (6, 10), (7, 7), (8, 8), (9, 9)] fun y37 =>
 .ret (y37.1, y37.2))
 (.ret (y35.2.2.2, y35.2.2.1)))
noncomputable def ezs : kzb → kzb := RecS.next [] hd Tryz.func142 (by kernel_rfl) (fun rec a => kzc rec a.1 a.2.1 a.2.2.1 a.2.2.2.1 a.2.2.2.2.1 a.2.2.2.2.2.1 a.2.2.2.2.2.2.1 a.2.2.2.2.2.2.2) (fun rec a => by kernel_rfl)
noncomputable def ozd (a0 : Int) (a1 : (List azj)) (a2 : (List (List Int))) (a3 : (List aze)) (a4 : (List Int)) (a5 : (List Int)) (a6 : (List Int)) (a7 : Int) : CallS ((List Int) × (List Int)) := (RecS.fix ezs NN).C (a0, a1, a2, a3, a4, a5, a6, a7)
noncomputable def mzm (a0 : czd) (a1 : (List Int)) (a2 : (List Int)) (a3 : Int) : T ((List Int) × (List Int)) :=
 .br (decide (((a0.tree.length : Nat) : Int) > 0))
 (.call (ozd 0 a0.joints a0.points a0.tree a0.q a2 a1 a3) [(0, 6), (1, 134), (2, 3), (3, 4), (4, 0), (5, 1), (6, 2), (7, 5), (8, 198), (9, 70)] fun y1 =>
 .ret (y1.2, y1.1))
 (.ret (a1, a2))
noncomputable def qzl (a0 : czd) (a1 : (List Int)) (a2 : (List Int)) (a3 : Int) : CallS ((List Int) × (List Int)) :=
  mkC [] hd Tryz.func111 (by kernel_rfl) (mzm a0 a1 a2 a3) 6 [.pure (lz2 a0), .func 112 [] [.ptr 0 0, .ptr 5 0, .ptr 3 0], .func 114 [] [.ptr 3 0, .ptr 0 0, .ptr 5 0]] [(0, .box [.ptr 1 0]), (1, .box [.vec 2, .func 109 [] [.ptr 3 0]]), (2, vecO 1 az0 a1 3), (3, .box [.vec 4]), (4, vecO 1 az0 a2 2), (5, .box [pz a3])] (fun _ => .tup []) (fun r => [(0, .box [.ptr 1 0]), (1, .box [.vec 6, .func 109 [] [.ptr 3 0]]), (2, .gone), (3, .box [.vec 4]), (4, vecO 1 az0 r.2 2), (5, .box [pz a3]), (6, vecO 1 az0 r.1 3)]) (by kernel_rfl)
noncomputable def ezv (a0 : az8) (a1 : (List (List Int))) (a2 : (List aze)) (a3 : (List Int)) (a4 : Int) : T (List Int) :=
 .cut 3 (fun (y7 : Bool) => ⟨[(1, .pure (encL 1 (encL 1 az0) a1)), (2, .pure (encL 4 azf a2)), (3, .pure (encL 1 az0 a3)), (5, .ptr 0 0), (9, .ptr 1 0), (10, .ptr 2 0), (24, .pure (.bool y7))], [(0, .box [.pure (encL 12 az9 a0.Joints), .pure (encL 5 azb a0.Masses)]), (1, .box [pz a4]), (2, .box [.vec 3]), (3, .nilv)], [.func 107 [] [.ptr 2 0]], 4⟩)
 (.br (decide (a4 < 1))
 (.ret (.out true))
 (.call (pz5 (⟨a0.Joints, a0.Masses⟩ : az8) a1 a2 a3) [] fun y8 =>
 .ret (.out (!y8)))) fun y7 =>
 .br y7
 (.ret nl)
 (.conv 4002 (Bzt 1 az0 2 (((a1.length : Nat) : Int)).toNat 0) <|
 .grd (0 ≤ ((a1.length : Nat) : Int) ∧ ((a1.length : Nat) : Int) ≤ ((a1.length : Nat) : Int) ∧ ((a1.length : Nat) : Int) ≤ 9223372036854775807 ∧ ((a1.length : Nat) : Int) * 8 ≤ 140737488355328) <|
 .call (qzl (⟨a0.Joints, a1, a2, a3⟩ : czd) nl (List.replicate (((a1.length : Nat) : Int)).toNat (0 : Int)) a4) [(0, 516), (1, 452), (2, 388), (3, 196), (4, 132), (5, 1)] fun y10 =>
 .call (fzb y10.1 y10.2) [(0, 452), (1, 1156), (2, 196), (3, 132)] fun y12 =>
 .conv 7002 (Bzt 1 az0 3 (y12.1).toNat 0) <|
 .grd (0 ≤ y12.1 ∧ y12.1 ≤ y12.1 ∧ y12.1 ≤ 9223372036854775807 ∧ y12.1 * 8 ≤ 140737488355328) <|
 .loop (fun (x25 : ((List Int) × (List Int) × (List Int) × Int)) => ⟨[(10, .ptr 0 0), (12, .ptr 2 0), (13, pz x25.2.2.2)], [(0, .box [.vec 1]), (1, vecO 1 az0 x25.1 3), (2, .box [.ptr 3 0]), (3, .box [.vec 4, .func 109 [] [.ptr 5 0]]), (4, vecO 1 az0 x25.2.1 3), (5, .box [.vec 6]), (6, vecO 1 az0 x25.2.2.1 2)], [.func 107 [] [.ptr 0 0]], 7⟩)
 (.exit 0) (fun (y28 : (List Int)) => ⟨[(10, .ptr 0 0)], [(0, .box [.vec 1]), (1, vecO 1 az0 y28 3)], [.func 107 [] [.ptr 0 0]], 2⟩)
 (fun x25 => .br (decide (x25.2.2.2 ≥ 0))
 (.call (izk x25.2.1 x25.2.2.1) [(0, 3), (1, 4), (2, 5), (3, 6)] fun y30 =>
 .grd (0 ≤ x25.2.2.2 ∧ x25.2.2.2 < ((x25.1.length : Nat) : Int)) <|
 .conv 11005 (azq 1 az0 x25.1 3 ((x25.2.2.2).toNat) y30.1) <|
 .grd ((x25.2.2.2).toNat < x25.1.length ∧ 0 ≤ (x25.2.2.2).toNat) <|
 .ret (.next ((x25.1.set ((x25.2.2.2).toNat) y30.1), y30.2.1, y30.2.2, (IntKind.i64.wrap (x25.2.2.2 - 1)))))
 (.ret (.out x25.1)))
 ((List.replicate (y12.1).toNat (0 : Int)), y12.2.1, y12.2.2, (IntKind.i64.wrap ((((List.replicate (y12.1).toNat (0 : Int)).length : Nat) : Int) - 1))) [] fun y28 =>
 .ret y28)
noncomputable def gz4 (a0 : az8) (a1 : (List (List Int))) (a2 : (List aze)) (a3 : (List Int)) (a4 : Int) : CallS (List Int) :=
  mkC [⟨107, Fzf⟩] hd Tryz.func71 (by kernel_rfl) (ezv a0 a1 a2 a3 a4) 0 [.pure (azw a0), .pure (encL 1 (encL 1 az0) a1), .pure (encL 4 azf a2), .pure (encL 1 az0 a3), pz a4] [] (fun r => .pure (encL 1 az0 r)) (fun _ => []) (by kernel_rfl)
noncomputable def fze (a0 : Int) (a1 : Int) (a2 : Int) (a3 : Int) : T Int :=
 .unroll 3 <|
 .known true <|
 .grd (0 ≤ (0 : Int) ∧ (0 : Int) < ((2 : Nat) : Int)) <|
 .known false <|
 .grd (0 ≤ (0 : Int) ∧ (0 : Int) < ((2 : Nat) : Int)) <|
 .call (bz6 a0 a2) [] fun y24 =>
 .br (y24 != 0)
 (.ret y24)
 (.lit 10000 (1) <|
 .known true <|
 .grd (0 ≤ (1 : Int) ∧ (1 : Int) < ((2 : Nat) : Int)) <|
 .known false <|
 .grd (0 ≤ (1 : Int) ∧ (1 : Int) < ((2 : Nat) : Int)) <|
 .call (bz6 a1 a3) [] fun y28 =>
 .br (y28 != 0)
 (.ret y28)
 (.lit 10000 (2) <|
 .known false <|
 .known false <|
 .ret 0))
noncomputable def izc (a0 : Int) (a1 : Int) (a2 : Int) (a3 : Int) : CallS Int :=
  mkC [] hd Tryz.func100 (by kernel_rfl) (fze a0 a1 a2 a3) 2 [.bsl 0 2, .bsl 1 2] [(0, .box [pz a0, pz a1]), (1, .box [pz a2, pz a3])] (fun r => pz r) (fun _ => [(0, .box [pz a0, pz a1]), (1, .box [pz a2, pz a3])]) (by kernel_rfl)
noncomputable def gzk (a0 : (Int × Int)) (a1 : (Int × Int)) : T Int :=
 .call (izc a0.1 a0.2 a1.1 a1.2) [(0, 0), (1, 64)] fun y1 =>
 .ret y1
noncomputable def azk (a0 : (Int × Int)) (a1 : (Int × Int)) : CallS Int :=
  mkC [] hd Tryz.func99 (by kernel_rfl) (gzk a0 a1) 0 [.pure (az3 a0), .pure (az3 a1)] [] (fun r => pz r) (fun _ => []) (by kernel_rfl)
noncomputable def czb (a0 : (List (Int × Int))) (a1 : Nat) (a2 : Nat) (a3 : Int) (a4 : Int) : T (List (Int × Int)) :=
 .loop (fun (x221 : ((List (Int × Int)) × Int)) => ⟨[(0, .view 0 2 a1 a2), (1, pz a3), (2, pz a4), (3, .func 99 [] []), (8, pz x221.2)], [(0, vecO 2 az3 x221.1 90)], [], 1⟩)
 (.exit 0) (fun (y276 : (List (Int × Int))) => ⟨[], [(0, vecO 2 az3 y276 90)], [], 1⟩)
 (fun x221 => .br (decide (x221.2 < a4))
 (.loop (fun (x313 : ((List (Int × Int)) × Int)) => ⟨[(0, .view 0 2 a1 a2), (1, pz a3), (2, pz a4), (3, .func 99 [] []), (8, pz x221.2), (9, pz x313.2)], [(0, vecO 2 az3 x313.1 90)], [], 1⟩)
 (.exit 2) (fun (y322 : (List (Int × Int))) => ⟨[(0, .view 0 2 a1 a2), (1, pz a3), (2, pz a4), (3, .func 99 [] []), (8, pz x221.2)], [(0, vecO 2 az3 y322 90)], [], 1⟩)
 (fun x313 => .cut 1 (fun (y329 : Bool) => ⟨[(0, .view 0 2 a1 a2), (1, pz a3), (2, pz a4), (3, .func 99 [] []), (8, pz x221.2), (9, pz x313.2), (34, .pure (.bool y329))], [(0, vecO 2 az3 x313.1 90)], [], 1⟩)
 (.br (decide (x313.2 > a3))
 (.grd (0 ≤ x313.2 ∧ x313.2 < ((a2 : Nat) : Int)) <|
 .grd ((a1 + ((x313.2).toNat)) < x313.1.length) <|
 .grd (0 ≤ (IntKind.i64.wrap (x313.2 - 1)) ∧ (IntKind.i64.wrap (x313.2 - 1)) < ((a2 : Nat) : Int)) <|
 .grd ((a1 + (((IntKind.i64.wrap (x313.2 - 1))).toNat)) < x313.1.length) <|
 .call (azk (x313.1.getD (a1 + ((x313.2).toNat)) default) (x313.1.getD (a1 + (((IntKind.i64.wrap (x313.2 - 1))).toNat)) default)) [] fun y330 =>
 .ret (.out (decide (y330 < 0))))
 (.ret (.out false))) fun y329 =>
 .br y329
 (.grd (0 ≤ (IntKind.i64.wrap (x313.2 - 1)) ∧ (IntKind.i64.wrap (x313.2 - 1)) < ((a2 : Nat) : Int)) <|
 .grd ((a1 + (((IntKind.i64.wrap (x313.2 - 1))).toNat)) < x313.1.length) <|
 .grd (0 ≤ x313.2 ∧ x313.2 < ((a2 : Nat) : Int)) <|
 .grd ((a1 + ((x313.2).toNat)) < x313.1.length) <|
 .grd (0 ≤ x313.2 ∧ x313.2 < ((a2 : Nat) : Int)) <|
 .conv 6015 (azq 2 az3 x313.1 90 (a1 + ((x313.2).toNat)) (x313.1.getD (a1 + (((IntKind.i64.wrap (x313.2 - 1))).toNat)) default)) <|
 .grd ((a1 + ((x313.2).toNat)) < x313.1.length ∧ 0 ≤ (a1 + ((x313.2).toNat))) <|
 .grd (0 ≤ (IntKind.i64.wrap (x313.2 - 1)) ∧ (IntKind.i64.wrap (x313.2 - 1)) < ((a2 : Nat) : Int)) <|
 .conv 6017 (azq 2 az3 (x313.1.set (a1 + ((x313.2).toNat)) (x313.1.getD (a1 + (((IntKind.i64.wrap (x313.2 - 1))).toNat)) default)) 90 (a1 + (((IntKind.i64.wrap (x313.2 - 1))).toNat)) (x313.1.getD (a1 + ((x313.2).toNat)) default)) <|
 .grd ((a1 + (((IntKind.i64.wrap (x313.2 - 1))).toNat)) < (x313.1.set (a1 + ((x313.2).toNat)) (x313.1.getD (a1 + (((IntKind.i64.wrap (x313.2 - 1))).toNat)) default)).length ∧ 0 ≤ (a1 + (((IntKind.i64.wrap (x313.2 - 1))).toNat))) <|
 .ret (.next (((x313.1.set (a1 + ((x313.2).toNat)) (x313.1.getD (a1 + (((IntKind.i64.wrap (x313.2 - 1))).toNat)) default)).set (a1 + (((IntKind.i64.wrap (x313.2 - 1))).toNat)) (x313.1.getD (a1 + ((x313.2).toNat)) default)), (IntKind.i64.wrap (x313.2 - 1)))))
 (.ret (.out x313.1)))
 (x221.1, x221.2) [] fun y322 =>
 .ret (.next (y322, (IntKind.i64.wrap (x221.2 + 1)))))
 (.ret (.out x221.1)))
 (a0, (IntKind.i64.wrap (a3 + 1))) [] fun y276 =>
 .ret y276
noncomputable def ezg (a0 : (List (Int × Int))) (a1 : Nat) (a2 : Nat) (a3 : Int) (a4 : Int) : CallS (List (Int × Int)) :=
  mkC [] hd Tryz.func161 (by kernel_rfl) (czb a0 a1 a2 a3 a4) 1 [.view 0 2 a1 a2, pz a3, pz a4, .func 99 [] []] [(0, vecO 2 az3 a0 90)] (fun _ => .tup []) (fun r => [(0, vecO 2 az3 r 90)]) (by kernel_rfl)
noncomputable def dzo (a0 : (List (Int × Int))) (a1 : Nat) (a2 : Nat) (a3 : Int) (a4 : Int) (a5 : Int) : T (List (Int × Int)) :=
 .loop (fun (x73 : ((List (Int × Int)) × Int)) => ⟨[(0, .view 0 2 a1 a2), (2, pz a4), (3, pz a5), (4, .func 99 [] []), (10, pz x73.2)], [(0, vecO 2 az3 x73.1 90)], [], 1⟩)
 (.exit 0) (fun (y91 : (List (Int × Int))) => ⟨[], [(0, vecO 2 az3 y91 90)], [], 1⟩)
 (fun x73 => .br (decide ((IntKind.i64.wrap ((IntKind.i64.wrap (2 * x73.2)) + 1)) ≥ a4))
 (.ret (.out x73.1))
 (.cut 0 (fun (y100 : Int) => ⟨[(0, .view 0 2 a1 a2), (2, pz a4), (3, pz a5), (4, .func 99 [] []), (10, pz x73.2), (11, pz y100)], [(0, vecO 2 az3 x73.1 90)], [], 1⟩)
 (.cut 0 (fun (y103 : Bool) => ⟨[(0, .view 0 2 a1 a2), (2, pz a4), (3, pz a5), (4, .func 99 [] []), (10, pz x73.2), (11, pz (IntKind.i64.wrap ((IntKind.i64.wrap (2 * x73.2)) + 1))), (40, .pure (.bool y103))], [(0, vecO 2 az3 x73.1 90)], [], 1⟩)
 (.br (decide ((IntKind.i64.wrap ((IntKind.i64.wrap ((IntKind.i64.wrap (2 * x73.2)) + 1)) + 1)) < a4))
 (.grd (0 ≤ (IntKind.i64.wrap (a5 + (IntKind.i64.wrap ((IntKind.i64.wrap (2 * x73.2)) + 1)))) ∧ (IntKind.i64.wrap (a5 + (IntKind.i64.wrap ((IntKind.i64.wrap (2 * x73.2)) + 1)))) < ((a2 : Nat) : Int)) <|
 .grd ((a1 + (((IntKind.i64.wrap (a5 + (IntKind.i64.wrap ((IntKind.i64.wrap (2 * x73.2)) + 1))))).toNat)) < x73.1.length) <|
 .grd (0 ≤ (IntKind.i64.wrap ((IntKind.i64.wrap (a5 + (IntKind.i64.wrap ((IntKind.i64.wrap (2 * x73.2)) + 1)))) + 1)) ∧ (IntKind.i64.wrap ((IntKind.i64.wrap (a5 + (IntKind.i64.wrap ((IntKind.i64.wrap (2 * x73.2)) + 1)))) + 1)) < ((a2 : Nat) : Int)) <|
 .grd ((a1 + (((IntKind.i64.wrap ((IntKind.i64.wrap (a5 + (IntKind.i64.wrap ((IntKind.i64.wrap (2 * x73.2)) + 1)))) + 1))).toNat)) < x73.1.length) <|
 .call (azk (x73.1.getD (a1 + (((IntKind.i64.wrap (a5 + (IntKind.i64.wrap ((IntKind.i64.wrap (2 * x73.2)) + 1))))).toNat)) default) (x73.1.getD (a1 + (((IntKind.i64.wrap ((IntKind.i64.wrap (a5 + (IntKind.i64.wrap ((IntKind.i64.wrap (2 * x73.2)) + 1)))) + 1))).toNat)) default)) [] fun y104 =>
 .ret (.out (decide (y104 < 0))))
 (.ret (.out false))) fun y103 =>
 .br y103
 (.ret (.out (IntKind.i64.wrap ((IntKind.i64.wrap ((IntKind.i64.wrap (2 * x73.2)) + 1)) + 1))))
 (.ret (.out (IntKind.i64.wrap ((IntKind.i64.wrap (2 * x73.2)) + 1))))) fun y100 =>
 .grd (0 ≤ (IntKind.i64.wrap (a5 + x73.2)) ∧ (IntKind.i64.wrap (a5 + x73.2)) < ((a2 : Nat) : Int)) <|
 .grd ((a1 + (((IntKind.i64.wrap (a5 + x73.2))).toNat)) < x73.1.length) <|
 .grd (0 ≤ (IntKind.i64.wrap (a5 + y100)) ∧ (IntKind.i64.wrap (a5 + y100)) < ((a2 : Nat) : Int)) <|
 .grd ((a1 + (((IntKind.i64.wrap (a5 + y100))).toNat)) < x73.1.length) <|
 .call (azk (x73.1.getD (a1 + (((IntKind.i64.wrap (a5 + x73.2))).toNat)) default) (x73.1.getD (a1 + (((IntKind.i64.wrap (a5 + y100))).toNat)) default)) [] fun y108 =>
 .br (!(decide (y108 < 0)))
 (.ret (.fin x73.1))
 (.grd (0 ≤ (IntKind.i64.wrap (a5 + y100)) ∧ (IntKind.i64.wrap (a5 + y100)) < ((a2 : Nat) : Int)) <|
 .grd ((a1 + (((IntKind.i64.wrap (a5 + y100))).toNat)) < x73.1.length) <|
 .grd (0 ≤ (IntKind.i64.wrap (a5 + x73.2)) ∧ (IntKind.i64.wrap (a5 + x73.2)) < ((a2 : Nat) : Int)) <|
 .grd ((a1 + (((IntKind.i64.wrap (a5 + x73.2))).toNat)) < x73.1.length) <|
 .grd (0 ≤ (IntKind.i64.wrap (a5 + x73.2)) ∧ (IntKind.i64.wrap (a5 + x73.2)) < ((a2 : Nat) : Int)) <|
 .conv 6021 (azq 2 az3 x73.1 90 (a1 + (((IntKind.i64.wrap (a5 + x73.2))).toNat)) (x73.1.getD (a1 + (((IntKind.i64.wrap (a5 + y100))).toNat)) default)) <|
 .grd ((a1 + (((IntKind.i64.wrap (a5 + x73.2))).toNat)) < x73.1.length ∧ 0 ≤ (a1 + (((IntKind.i64.wrap (a5 + x73.2))).toNat))) <|
 .grd (0 ≤ (IntKind.i64.wrap (a5 + y100)) ∧ (IntKind.i64.wrap (a5 + y100)) < ((a2 : Nat) : Int)) <|
 .conv 6023 (azq 2 az3 (x73.1.set (a1 + (((IntKind.i64.wrap (a5 + x73.2))).toNat)) (x73.1.getD (a1 + (((IntKind.i64.wrap (a5 + y100))).toNat)) default)) 90 (a1 + (((IntKind.i64.wrap (a5 + y100))).toNat)) (x73.1.getD (a1 + (((IntKind.i64.wrap (a5 + x73.2))).toNat)) default)) <|
 .grd ((a1 + (((IntKind.i64.wrap (a5 + y100))).toNat)) < (x73.1.set (a1 + (((IntKind.i64.wrap (a5 + x73.2))).toNat)) (x73.1.getD (a1 + (((IntKind.i64.wrap (a5 + y100))).toNat)) default)).length ∧ 0 ≤ (a1 + (((IntKind.i64.wrap (a5 + y100))).toNat))) <|
 .ret (.next (((x73.1.set (a1 + (((IntKind.i64.wrap (a5 + x73.2))).toNat)) (x73.1.getD (a1 + (((IntKind.i64.wrap (a5 + y100))).toNat)) default)).set (a1 + (((IntKind.i64.wrap (a5 + y100))).toNat)) (x73.1.getD (a1 + (((IntKind.i64.wrap (a5 + x73.2))).toNat)) default)), y100)))))
 (a0, a3) [] fun y91 =>
 .ret y91
noncomputable def dzn (a0 : (List (Int × Int))) (a1 : Nat) (a2 : Nat) (a3 : Int) (a4 : Int) (a5 : Int) : CallS (List (Int × Int)) :=
  mkC [] hd Tryz.func188 (by kernel_rfl) (dzo a0 a1 a2 a3 a4 a5) 1 [.view 0 2 a1 a2, pz a3, pz a4, pz a5, .func 99 [] []] [(0, vecO 2 az3 a0 90)] (fun _ => .tup []) (fun r => [(0, vecO 2 az3 r 90)]) (by kernel_rfl)
noncomputable def dzl (a0 : (List (Int × Int))) (a1 : Nat) (a2 : Nat) (a3 : Int) (a4 : Int) : T (List (Int × Int)) :=
 .ok ((2 : Int) ≠ 0) (by decide) <|
 .loop (fun (x40 : ((List (Int × Int)) × Int)) => ⟨[(0, .view 0 2 a1 a2), (3, .func 99 [] []), (8, pz a3), (9, pz 0), (10, pz (IntKind.i64.wrap (a4 - a3))), (11, pz x40.2)], [(0, vecO 2 az3 x40.1 90)], [], 1⟩)
 (.exit 0) (fun (y43 : (List (Int × Int))) => ⟨[(0, .view 0 2 a1 a2), (3, .func 99 [] []), (8, pz a3), (9, pz 0), (10, pz (IntKind.i64.wrap (a4 - a3)))], [(0, vecO 2 az3 y43 90)], [], 1⟩)
 (fun x40 => .br (decide (x40.2 ≥ 0))
 (.call (dzn x40.1 a1 a2 x40.2 (IntKind.i64.wrap (a4 - a3)) a3) [(0, 0)] fun y45 =>
 .ret (.next (y45, (IntKind.i64.wrap (x40.2 - 1)))))
 (.ret (.out x40.1)))
 (a0, (IntKind.i64.wrap ((IntKind.i64.wrap ((IntKind.i64.wrap (a4 - a3)) - 1)).tdiv 2))) [] fun y43 =>
 .loop (fun (x49 : ((List (Int × Int)) × Int)) => ⟨[(0, .view 0 2 a1 a2), (3, .func 99 [] []), (8, pz a3), (9, pz 0), (12, pz x49.2)], [(0, vecO 2 az3 x49.1 90)], [], 1⟩)
 (.exit 2) (fun (y52 : (List (Int × Int))) => ⟨[], [(0, vecO 2 az3 y52 90)], [], 1⟩)
 (fun x49 => .br (decide (x49.2 ≥ 0))
 (.grd (0 ≤ (IntKind.i64.wrap (a3 + x49.2)) ∧ (IntKind.i64.wrap (a3 + x49.2)) < ((a2 : Nat) : Int)) <|
 .grd ((a1 + (((IntKind.i64.wrap (a3 + x49.2))).toNat)) < x49.1.length) <|
 .grd (0 ≤ a3 ∧ a3 < ((a2 : Nat) : Int)) <|
 .grd ((a1 + ((a3).toNat)) < x49.1.length) <|
 .grd (0 ≤ a3 ∧ a3 < ((a2 : Nat) : Int)) <|
 .conv 10017 (azq 2 az3 x49.1 90 (a1 + ((a3).toNat)) (x49.1.getD (a1 + (((IntKind.i64.wrap (a3 + x49.2))).toNat)) default)) <|
 .grd ((a1 + ((a3).toNat)) < x49.1.length ∧ 0 ≤ (a1 + ((a3).toNat))) <|
 .grd (0 ≤ (IntKind.i64.wrap (a3 + x49.2)) ∧ (IntKind.i64.wrap (a3 + x49.2)) < ((a2 : Nat) : Int)) <|
 .conv 10019 (azq 2 az3 (x49.1.set (a1 + ((a3).toNat)) (x49.1.getD (a1 + (((IntKind.i64.wrap (a3 + x49.2))).toNat)) default)) 90 (a1 + (((IntKind.i64.wrap (a3 + x49.2))).toNat)) (x49.1.getD (a1 + ((a3).toNat)) default)) <|
 .grd ((a1 + (((IntKind.i64.wrap (a3 + x49.2))).toNat)) < (x49.1.set (a1 + ((a3).toNat)) (x49.1.getD (a1 + (((IntKind.i64.wrap (a3 + x49.2))).toNat)) default)).length ∧ 0 ≤ (a1 + (((IntKind.i64.wrap (a3 + x49.2))).toNat))) <|
 .call (dzn ((x49.1.set (a1 + ((a3).toNat)) (x49.1.getD (a1 + (((IntKind.i64.wrap (a3 + x49.2))).toNat)) default)).set (a1 + (((IntKind.i64.wrap (a3 + x49.2))).toNat)) (x49.1.getD (a1 + ((a3).toNat)) default)) a1 a2 0 x49.2 a3) [(0, 0)] fun y54 =>
 .ret (.next (y54, (IntKind.i64.wrap (x49.2 - 1)))))
 (.ret (.out x49.1)))
 (y43, (IntKind.i64.wrap ((IntKind.i64.wrap (a4 - a3)) - 1))) [] fun y52 =>
 .ret y52
noncomputable def fzk (a0 : (List (Int × Int))) (a1 : Nat) (a2 : Nat) (a3 : Int) (a4 : Int) : CallS (List (Int × Int)) :=
  mkC [] hd Tryz.func162 (by kernel_rfl) (dzl a0 a1 a2 a3 a4) 1 [.view 0 2 a1 a2, pz a3, pz a4, .func 99 [] []] [(0, vecO 2 az3 a0 90)] (fun _ => .tup []) (fun r => [(0, vecO 2 az3 r 90)]) (by kernel_rfl)
noncomputable def ez3 (a0 : (List (Int × Int))) (a1 : Nat) (a2 : Nat) (a3 : Int) (a4 : Int) (a5 : Int) : T (Int × Int × Int) :=
 .grd (0 ≤ a4 ∧ a4 < ((a2 : Nat) : Int)) <|
 .grd ((a1 + ((a4).toNat)) < a0.length) <|
 .grd (0 ≤ a3 ∧ a3 < ((a2 : Nat) : Int)) <|
 .grd ((a1 + ((a3).toNat)) < a0.length) <|
 .call (azk (a0.getD (a1 + ((a4).toNat)) default) (a0.getD (a1 + ((a3).toNat)) default)) [] fun y8 =>
 .br (decide (y8 < 0))
 (.ret (a4, a3, (IntKind.i64.wrap (a5 + 1))))
 (.ret (a3, a4, a5))
noncomputable def czh (a0 : (List (Int × Int))) (a1 : Nat) (a2 : Nat) (a3 : Int) (a4 : Int) (a5 : Int) : CallS (Int × Int × Int) :=
  mkC [] hd Tryz.func195 (by kernel_rfl) (ez3 a0 a1 a2 a3 a4 a5) 2 [.view 0 2 a1 a2, pz a3, pz a4, .ptr 1 0, .func 99 [] []] [(0, vecO 2 az3 a0 90), (1, .box [pz a5])] (fun r => .tup [pz r.1, pz r.2.1]) (fun r => [(0, vecO 2 az3 a0 90), (1, .box [pz r.2.2])]) (by kernel_rfl)
noncomputable def ez1 (a0 : (List (Int × Int))) (a1 : Nat) (a2 : Nat) (a3 : Int) (a4 : Int) (a5 : Int) (a6 : Int) : T (Int × Int) :=
 .call (czh a0 a1 a2 a3 a4 a6) [(0, 0), (1, 1)] fun y8 =>
 .call (czh a0 a1 a2 y8.2.1 a5 y8.2.2) [(0, 0), (1, 1)] fun y10 =>
 .call (czh a0 a1 a2 y8.1 y10.1 y10.2.2) [(0, 0), (1, 1)] fun y12 =>
 .ret (y12.2.1, y12.2.2)
noncomputable def ez0 (a0 : (List (Int × Int))) (a1 : Nat) (a2 : Nat) (a3 : Int) (a4 : Int) (a5 : Int) (a6 : Int) : CallS (Int × Int) :=
  mkC [] hd Tryz.func190 (by kernel_rfl) (ez1 a0 a1 a2 a3 a4 a5 a6) 2 [.view 0 2 a1 a2, pz a3, pz a4, pz a5, .ptr 1 0, .func 99 [] []] [(0, vecO 2 az3 a0 90), (1, .box [pz a6])] (fun r => pz r.1) (fun r => [(0, vecO 2 az3 a0 90), (1, .box [pz r.2])]) (by kernel_rfl)
noncomputable def cz3 (a0 : (List (Int × Int))) (a1 : Nat) (a2 : Nat) (a3 : Int) (a4 : Int) : T (Int × Int) :=
 .call (ez0 a0 a1 a2 (IntKind.i64.wrap (a3 - 1)) a3 (IntKind.i64.wrap (a3 + 1)) a4) [(0, 0), (1, 1)] fun y2 =>
 .ret (y2.1, y2.2)
noncomputable def bz9 (a0 : (List (Int × Int))) (a1 : Nat) (a2 : Nat) (a3 : Int) (a4 : Int) : CallS (Int × Int) :=
  mkC [] hd Tryz.func189 (by kernel_rfl) (cz3 a0 a1 a2 a3 a4) 2 [.view 0 2 a1 a2, pz a3, .ptr 1 0, .func 99 [] []] [(0, vecO 2 az3 a0 90), (1, .box [pz a4])] (fun r => pz r.1) (fun r => [(0, vecO 2 az3 a0 90), (1, .box [pz r.2])]) (by kernel_rfl)
noncomputable def czs (a0 : (List (Int × Int))) (a1 : Nat) (a2 : Nat) (a3 : Int) (a4 : Int) : T (Int × Int) :=
 .ok ((4 : Int) ≠ 0) (by decide) <|
 .ok ((4 : Int) ≠ 0) (by decide) <|
 .ok ((4 : Int) ≠ 0) (by decide) <|
 .cut 0 (fun (y35 : (Int × Int)) => ⟨[(11, .ptr 1 0), (13, pz y35.2)], [(0, vecO 2 az3 a0 90), (1, .box [pz y35.1])], [], 2⟩)
 (.br (decide ((IntKind.i64.wrap (a4 - a3)) ≥ 8))
 (.cut 0 (fun (y46 : (Int × Int × Int × Int)) => ⟨[(0, .view 0 2 a1 a2), (3, .func 99 [] []), (11, .ptr 1 0), (12, pz y46.2.1), (13, pz y46.2.2.1), (14, pz y46.2.2.2)], [(0, vecO 2 az3 a0 90), (1, .box [pz y46.1])], [], 2⟩)
 (.br (decide ((IntKind.i64.wrap (a4 - a3)) ≥ 50))
 (.call (bz9 a0 a1 a2 (IntKind.i64.wrap (a3 + (IntKind.i64.wrap ((IntKind.i64.wrap ((IntKind.i64.wrap (a4 - a3)).tdiv 4)) * 1)))) 0) [(0, 0), (1, 385)] fun y48 =>
 .call (bz9 a0 a1 a2 (IntKind.i64.wrap (a3 + (IntKind.i64.wrap ((IntKind.i64.wrap ((IntKind.i64.wrap (a4 - a3)).tdiv 4)) * 2)))) y48.2) [(0, 0), (1, 385)] fun y50 =>
 .call (bz9 a0 a1 a2 (IntKind.i64.wrap (a3 + (IntKind.i64.wrap ((IntKind.i64.wrap ((IntKind.i64.wrap (a4 - a3)).tdiv 4)) * 3)))) y50.2) [(0, 0), (1, 385)] fun y51 =>
 .ret (.out (y51.2, y48.1, y50.1, y51.1)))
 (.ret (.out (0, (IntKind.i64.wrap (a3 + (IntKind.i64.wrap ((IntKind.i64.wrap ((IntKind.i64.wrap (a4 - a3)).tdiv 4)) * 1)))), (IntKind.i64.wrap (a3 + (IntKind.i64.wrap ((IntKind.i64.wrap ((IntKind.i64.wrap (a4 - a3)).tdiv 4)) * 2)))), (IntKind.i64.wrap (a3 + (IntKind.i64.wrap ((IntKind.i64.wrap ((IntKind.i64.wrap (a4 - a3)).tdiv 4)) * 3)))))))) fun y46 =>
 .call (ez0 a0 a1 a2 y46.2.1 y46.2.2.1 y46.2.2.2 y46.1) [(0, 0), (1, 1)] fun y52 =>
 .ret (.out (y52.2, y52.1)))
 (.ret (.out (0, (IntKind.i64.wrap (a3 + (IntKind.i64.wrap ((IntKind.i64.wrap ((IntKind.i64.wrap (a4 - a3)).tdiv 4)) * 2)))))))) fun y35 =>
 .br (y35.1 == 0)
 (.ret (y35.2, 1))
 (.br (y35.1 == 12)
 (.ret (y35.2, 2))
 (.ret (y35.2, 0)))
noncomputable def ezy (a0 : (List (Int × Int))) (a1 : Nat) (a2 : Nat) (a3 : Int) (a4 : Int) : CallS (Int × Int) :=
  mkC [] hd Tryz.func164 (by kernel_rfl) (czs a0 a1 a2 a3 a4) 1 [.view 0 2 a1 a2, pz a3, pz a4, .func 99 [] []] [(0, vecO 2 az3 a0 90)] (fun r => .tup [pz r.1, pz r.2]) (fun _ => [(0, vecO 2 az3 a0 90)]) (by kernel_rfl)
noncomputable def czm (a0 : (List (Int × Int))) (a1 : Nat) (a2 : Nat) (a3 : Int) (a4 : Int) : T (List (Int × Int)) :=
 .loop (fun (x5 : ((List (Int × Int)) × Int × Int)) => ⟨[(0, .view 0 2 a1 a2), (8, pz x5.2.1), (9, pz x5.2.2)], [(0, vecO 2 az3 x5.1 90)], [], 1⟩)
 (.exit 0) (fun (y6 : (List (Int × Int))) => ⟨[], [(0, vecO 2 az3 y6 90)], [], 1⟩)
 (fun x5 => .br (decide (x5.2.1 < x5.2.2))
 (.grd (0 ≤ x5.2.2 ∧ x5.2.2 < ((a2 : Nat) : Int)) <|
 .grd ((a1 + ((x5.2.2).toNat)) < x5.1.length) <|
 .grd (0 ≤ x5.2.1 ∧ x5.2.1 < ((a2 : Nat) : Int)) <|
 .grd ((a1 + ((x5.2.1).toNat)) < x5.1.length) <|
 .grd (0 ≤ x5.2.1 ∧ x5.2.1 < ((a2 : Nat) : Int)) <|
 .conv 3013 (azq 2 az3 x5.1 90 (a1 + ((x5.2.1).toNat)) (x5.1.getD (a1 + ((x5.2.2).toNat)) default)) <|
 .grd ((a1 + ((x5.2.1).toNat)) < x5.1.length ∧ 0 ≤ (a1 + ((x5.2.1).toNat))) <|
 .grd (0 ≤ x5.2.2 ∧ x5.2.2 < ((a2 : Nat) : Int)) <|
 .conv 3015 (azq 2 az3 (x5.1.set (a1 + ((x5.2.1).toNat)) (x5.1.getD (a1 + ((x5.2.2).toNat)) default)) 90 (a1 + ((x5.2.2).toNat)) (x5.1.getD (a1 + ((x5.2.1).toNat)) default)) <|
 .grd ((a1 + ((x5.2.2).toNat)) < (x5.1.set (a1 + ((x5.2.1).toNat)) (x5.1.getD (a1 + ((x5.2.2).toNat)) default)).length ∧ 0 ≤ (a1 + ((x5.2.2).toNat))) <|
 .ret (.next (((x5.1.set (a1 + ((x5.2.1).toNat)) (x5.1.getD (a1 + ((x5.2.2).toNat)) default)).set (a1 + ((x5.2.2).toNat)) (x5.1.getD (a1 + ((x5.2.1).toNat)) default)), (IntKind.i64.wrap (x5.2.1 + 1)), (IntKind.i64.wrap (x5.2.2 - 1)))))
 (.ret (.out x5.1)))
 (a0, a3, (IntKind.i64.wrap (a4 - 1))) [] fun y6 =>
 .ret y6
noncomputable def ezl (a0 : (List (Int × Int))) (a1 : Nat) (a2 : Nat) (a3 : Int) (a4 : Int) : CallS (List (Int × Int)) :=
  mkC [] hd Tryz.func165 (by kernel_rfl) (czm a0 a1 a2 a3 a4) 1 [.view 0 2 a1 a2, pz a3, pz a4, .func 99 [] []] [(0, vecO 2 az3 a0 90)] (fun _ => .tup []) (fun r => [(0, vecO 2 az3 r 90)]) (by kernel_rfl)
set_option maxHeartbeats 8000000 in
set_option maxRecDepth 20000 in
noncomputable def bzg (a0 : (List (Int × Int))) (a1 : Nat) (a2 : Nat) (a3 : Int) (a4 : Int) : T (Bool × (List (Int × Int))) :=
 .loop (fun (x4911 : ((List (Int × Int)) × Int × Int)) => ⟨[(0, .view 0 2 a1 a2), (1, pz a3), (2, pz a4), (3, .func 99 [] []), (9, pz x4911.2.1), (10, pz x4911.2.2)], [(0, vecO 2 az3 x4911.1 90)], [], 1⟩)
 (.exit 0) (fun (y5402 : (List (Int × Int))) => ⟨[], [(0, vecO 2 az3 y5402 90)], [], 1⟩)
 (fun x4911 => .br (decide (x4911.2.2 < 5))
 (.cut 0 (fun (y5729 : ((List (Int × Int)) × Int)) => ⟨[(0, .view 0 2 a1 a2), (1, pz a3), (2, pz a4), (3, .func 99 [] []), (9, pz y5729.2), (10, pz x4911.2.2)], [(0, vecO 2 az3 y5729.1 90)], [], 1⟩)
 (.loop (fun (x5766 : Int) => ⟨[(0, .view 0 2 a1 a2), (1, pz a3), (2, pz a4), (3, .func 99 [] []), (9, pz x5766), (10, pz x4911.2.2)], [(0, vecO 2 az3 x4911.1 90)], [], 1⟩)
 (.exit 2) (fun (y5775 : Int) => ⟨[(0, .view 0 2 a1 a2), (1, pz a3), (2, pz a4), (3, .func 99 [] []), (9, pz y5775), (10, pz x4911.2.2)], [(0, vecO 2 az3 x4911.1 90)], [], 1⟩)
 (fun x5766 => .cut 1 (fun (y5782 : Bool) => ⟨[(0, .view 0 2 a1 a2), (1, pz a3), (2, pz a4), (3, .func 99 [] []), (9, pz x5766), (10, pz x4911.2.2), (36, .pure (.bool y5782))], [(0, vecO 2 az3 x4911.1 90)], [], 1⟩)
 (.br (decide (x5766 < a4))
 (.grd (0 ≤ x5766 ∧ x5766 < ((a2 : Nat) : Int)) <|
 .grd ((a1 + ((x5766).toNat)) < x4911.1.length) <|
 .grd (0 ≤ (IntKind.i64.wrap (x5766 - 1)) ∧ (IntKind.i64.wrap (x5766 - 1)) < ((a2 : Nat) : Int)) <|
 .grd ((a1 + (((IntKind.i64.wrap (x5766 - 1))).toNat)) < x4911.1.length) <|
 .call (azk (x4911.1.getD (a1 + ((x5766).toNat)) default) (x4911.1.getD (a1 + (((IntKind.i64.wrap (x5766 - 1))).toNat)) default)) [] fun y5783 =>
 .ret (.out (!(decide (y5783 < 0)))))
 (.ret (.out false))) fun y5782 =>
 .br y5782
 (.ret (.next (IntKind.i64.wrap (x5766 + 1))))
 (.ret (.out x5766)))
 x4911.2.1 [] fun y5775 =>
 .br (y5775 == a4)
 (.ret (.fin (.fin (true, x4911.1))))
 (.br (decide ((IntKind.i64.wrap (a4 - a3)) < 50))
 (.ret (.fin (.fin (false, x4911.1))))
 (.grd (0 ≤ (IntKind.i64.wrap (y5775 - 1)) ∧ (IntKind.i64.wrap (y5775 - 1)) < ((a2 : Nat) : Int)) <|
 .grd ((a1 + (((IntKind.i64.wrap (y5775 - 1))).toNat)) < x4911.1.length) <|
 .grd (0 ≤ y5775 ∧ y5775 < ((a2 : Nat) : Int)) <|
 .grd ((a1 + ((y5775).toNat)) < x4911.1.length) <|
 .grd (0 ≤ y5775 ∧ y5775 < ((a2 : Nat) : Int)) <|
 .conv 11015 (azq 2 az3 x4911.1 90 (a1 + ((y5775).toNat)) (x4911.1.getD (a1 + (((IntKind.i64.wrap (y5775 - 1))).toNat)) default)) <|
 .grd ((a1 + ((y5775).toNat)) < x4911.1.length ∧ 0 ≤ (a1 + ((y5775).toNat))) <|
 .grd (0 ≤ (IntKind.i64.wrap (y5775 - 1)) ∧ (IntKind.i64.wrap (y5775 - 1)) < ((a2 : Nat) : Int)) <|
 .conv 11017 (azq 2 az3 (x4911.1.set (a1 + ((y5775).toNat)) (x4911.1.getD (a1 + (((IntKind.i64.wrap (y5775 - 1))).toNat)) default)) 90 (a1 + (((IntKind.i64.wrap (y5775 - 1))).toNat)) (x4911.1.getD (a1 + ((y5775).toNat)) default)) <|
 .grd ((a1 + (((IntKind.i64.wrap (y5775 - 1))).toNat)) < (x4911.1.set (a1 + ((y5775).toNat)) (x4911.1.getD (a1 + (((IntKind.i64.wrap (y5775 - 1))).toNat)) default)).length ∧ 0 ≤ (a1 + (((IntKind.i64.wrap (y5775 - 1))).toNat))) <|
 .cut 0 (fun (y5838 : (List (Int × Int))) => ⟨[(0, .view 0 2 a1 a2), (1, pz a3), (2, pz a4), (3, .func 99 [] []), (9, pz y5775), (10, pz x4911.2.2)], [(0, vecO 2 az3 y5838 90)], [], 1⟩)
 (.br (decide ((IntKind.i64.wrap (y5775 - a3)) ≥ 2))
 (.loop (fun (x5848 : ((List (Int × Int)) × Int)) => ⟨[(0, .view 0 2 a1 a2), (1, pz a3), (2, pz a4), (3, .func 99 [] []), (9, pz y5775), (10, pz x4911.2.2), (11, pz x5848.2)], [(0, vecO 2 az3 x5848.1 90)], [], 1⟩)
 (.exit 4) (fun (y5857 : (List (Int × Int))) => ⟨[(0, .view 0 2 a1 a2), (1, pz a3), (2, pz a4), (3, .func 99 [] []), (9, pz y5775), (10, pz x4911.2.2)], [(0, vecO 2 az3 y5857 90)], [], 1⟩)
 (fun x5848 => .br (decide (x5848.2 ≥ 1))
 (.grd (0 ≤ x5848.2 ∧ x5848.2 < ((a2 : Nat) : Int)) <|
 .grd ((a1 + ((x5848.2).toNat)) < x5848.1.length) <|
 .grd (0 ≤ (IntKind.i64.wrap (x5848.2 - 1)) ∧ (IntKind.i64.wrap (x5848.2 - 1)) < ((a2 : Nat) : Int)) <|
 .grd ((a1 + (((IntKind.i64.wrap (x5848.2 - 1))).toNat)) < x5848.1.length) <|
 .call (azk (x5848.1.getD (a1 + ((x5848.2).toNat)) default) (x5848.1.getD (a1 + (((IntKind.i64.wrap (x5848.2 - 1))).toNat)) default)) [] fun y5865 =>
 .br (!(decide (y5865 < 0)))
 (.ret (.out x5848.1))
 (.grd (0 ≤ (IntKind.i64.wrap (x5848.2 - 1)) ∧ (IntKind.i64.wrap (x5848.2 - 1)) < ((a2 : Nat) : Int)) <|
 .grd ((a1 + (((IntKind.i64.wrap (x5848.2 - 1))).toNat)) < x5848.1.length) <|
 .grd (0 ≤ x5848.2 ∧ x5848.2 < ((a2 : Nat) : Int)) <|
 .grd ((a1 + ((x5848.2).toNat)) < x5848.1.length) <|
 .grd (0 ≤ x5848.2 ∧ x5848.2 < ((a2 : Nat) : Int)) <|
 .conv 17015 (azq 2 az3 x5848.1 90 (a1 + ((x5848.2).toNat)) (x5848.1.getD (a1 + (((IntKind.i64.wrap (x5848.2 - 1))).toNat)) default)) <|
 .grd ((a1 + ((x5848.2).toNat)) < x5848.1.length ∧ 0 ≤ (a1 + ((x5848.2).toNat))) <|
 .grd (0 ≤ (IntKind.i64.wrap (x5848.2 - 1)) ∧ (IntKind.i64.wrap (x5848.2 - 1)) < ((a2 : Nat) : Int)) <|
 .conv 17017 (azq 2 az3 (x5848.1.set (a1 + ((x5848.2).toNat)) (x5848.1.getD (a1 + (((IntKind.i64.wrap (x5848.2 - 1))).toNat)) default)) 90 (a1 + (((IntKind.i64.wrap (x5848.2 - 1))).toNat)) (x5848.1.getD (a1 + ((x5848.2).toNat)) default)) <|
 .grd ((a1 + (((IntKind.i64.wrap (x5848.2 - 1))).toNat)) < (x5848.1.set (a1 + ((x5848.2).toNat)) (x5848.1.getD (a1 + (((IntKind.i64.wrap (x5848.2 - 1))).toNat)) default)).length ∧ 0 ≤ (a1 + (((IntKind.i64.wrap (x5848.2 - 1))).toNat))) <|
 .ret (.next (((x5848.1.set (a1 + ((x5848.2).toNat)) (x5848.1.getD (a1 + (((IntKind.i64.wrap (x5848.2 - 1))).toNat)) default)).set (a1 + (((IntKind.i64.wrap (x5848.2 - 1))).toNat)) (x5848.1.getD (a1 + ((x5848.2).toNat)) default)), (IntKind.i64.wrap (x5848.2 - 1))))))
 (.ret (.out x5848.1)))
 (((x4911.1.set (a1 + ((y5775).toNat)) (x4911.1.getD (a1 + (((IntKind.i64.wrap (y5775 - 1))).toNat)) default)).set (a1 + (((IntKind.i64.wrap (y5775 - 1))).toNat)) (x4911.1.getD (a1 + ((y5775).toNat)) default)), (IntKind.i64.wrap (y5775 - 1))) [] fun y5857 =>
 .ret (.out y5857))
 (.ret (.out ((x4911.1.set (a1 + ((y5775).toNat)) (x4911.1.getD (a1 + (((IntKind.i64.wrap (y5775 - 1))).toNat)) default)).set (a1 + (((IntKind.i64.wrap (y5775 - 1))).toNat)) (x4911.1.getD (a1 + ((y5775).toNat)) default))))) fun y5838 =>
 .br (decide ((IntKind.i64.wrap (a4 - y5775)) ≥ 2))
 (.loop (fun (x5875 : ((List (Int × Int)) × Int)) => ⟨[(0, .view 0 2 a1 a2), (1, pz a3), (2, pz a4), (3, .func 99 [] []), (9, pz y5775), (10, pz x4911.2.2), (12, pz x5875.2)], [(0, vecO 2 az3 x5875.1 90)], [], 1⟩)
 (.exit 6) (fun (y5884 : (List (Int × Int))) => ⟨[(0, .view 0 2 a1 a2), (1, pz a3), (2, pz a4), (3, .func 99 [] []), (9, pz y5775), (10, pz x4911.2.2)], [(0, vecO 2 az3 y5884 90)], [], 1⟩)
 (fun x5875 => .br (decide (x5875.2 < a4))
 (.grd (0 ≤ x5875.2 ∧ x5875.2 < ((a2 : Nat) : Int)) <|
 .grd ((a1 + ((x5875.2).toNat)) < x5875.1.length) <|
 .grd (0 ≤ (IntKind.i64.wrap (x5875.2 - 1)) ∧ (IntKind.i64.wrap (x5875.2 - 1)) < ((a2 : Nat) : Int)) <|
 .grd ((a1 + (((IntKind.i64.wrap (x5875.2 - 1))).toNat)) < x5875.1.length) <|
 .call (azk (x5875.1.getD (a1 + ((x5875.2).toNat)) default) (x5875.1.getD (a1 + (((IntKind.i64.wrap (x5875.2 - 1))).toNat)) default)) [] fun y5892 =>
 .br (!(decide (y5892 < 0)))
 (.ret (.out x5875.1))
 (.grd (0 ≤ (IntKind.i64.wrap (x5875.2 - 1)) ∧ (IntKind.i64.wrap (x5875.2 - 1)) < ((a2 : Nat) : Int)) <|
 .grd ((a1 + (((IntKind.i64.wrap (x5875.2 - 1))).toNat)) < x5875.1.length) <|
 .grd (0 ≤ x5875.2 ∧ x5875.2 < ((a2 : Nat) : Int)) <|
 .grd ((a1 + ((x5875.2).toNat)) < x5875.1.length) <|
 .grd (0 ≤ x5875.2 ∧ x5875.2 < ((a2 : Nat) : Int)) <|
 .conv 23015 (azq 2 az3 x5875.1 90 (a1 + ((x5875.2).toNat)) (x5875.1.getD (a1 + (((IntKind.i64.wrap (x5875.2 - 1))).toNat)) default)) <|
 .grd ((a1 + ((x5875.2).toNat)) < x5875.1.length ∧ 0 ≤ (a1 + ((x5875.2).toNat))) <|
 .grd (0 ≤ (IntKind.i64.wrap (x5875.2 - 1)) ∧ (IntKind.i64.wrap (x5875.2 - 1)) < ((a2 : Nat) : Int)) <|
 .conv 23017 (azq 2 az3 (x5875.1.set (a1 + ((x5875.2).toNat)) (x5875.1.getD (a1 + (((IntKind.i64.wrap (x5875.2 - 1))).toNat)) default)) 90 (a1 + (((IntKind.i64.wrap (x5875.2 - 1))).toNat)) (x5875.1.getD (a1 + ((x5875.2).toNat)) default)) <|
 .grd ((a1 + (((IntKind.i64.wrap (x5875.2 - 1))).toNat)) < (x5875.1.set (a1 + ((x5875.2).toNat)) (x5875.1.getD (a1 + (((IntKind.i64.wrap (x5875.2 - 1))).toNat)) default)).length ∧ 0 ≤ (a1 + (((IntKind.i64.wrap (x5875.2 - 1))).toNat))) <|
 .ret (.next (((x5875.1.set (a1 + ((x5875.2).toNat)) (x5875.1.getD (a1 + (((IntKind.i64.wrap (x5875.2 - 1))).toNat)) default)).set (a1 + (((IntKind.i64.wrap (x5875.2 - 1))).toNat)) (x5875.1.getD (a1 + ((x5875.2).toNat)) default)), (IntKind.i64.wrap (x5875.2 + 1))))))
 (.ret (.out x5875.1)))
 (y5838, (IntKind.i64.wrap (y5775 + 1))) [] fun y5884 =>
 .ret (.out (y5884, y5775)))
 (.ret (.out (y5838, y5775)))))) fun y5729 =>
 .ret (.next (y5729.1, y5729.2, (IntKind.i64.wrap (x4911.2.2 + 1)))))
 (.ret (.out x4911.1)))
 (a0, (IntKind.i64.wrap (a3 + 1)), 0) [] fun y5402 =>
 .ret (false, y5402)
noncomputable def czy (a0 : (List (Int × Int))) (a1 : Nat) (a2 : Nat) (a3 : Int) (a4 : Int) : CallS (Bool × (List (Int × Int))) :=
  mkC [] hd Tryz.func166 (by kernel_rfl) (bzg a0 a1 a2 a3 a4) 1 [.view 0 2 a1 a2, pz a3, pz a4, .func 99 [] []] [(0, vecO 2 az3 a0 90)] (fun r => .pure (.bool r.1)) (fun r => [(0, vecO 2 az3 r.2 90)]) (by kernel_rfl)
end Go.Abs
