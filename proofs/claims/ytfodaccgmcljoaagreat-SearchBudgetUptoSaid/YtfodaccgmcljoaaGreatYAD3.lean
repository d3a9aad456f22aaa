/-
  D3 (a part of a claim: our own text).
-/
import Derived.Test.YtfodaccgmcljoaaGreatYAM2
namespace Go.Abs
open Go.Proofs
set_option maxHeartbeats 8000000 in
set_option maxRecDepth 20000 in
noncomputable def kz6 (a0 : ((az0 × az0 × az0) × (az0 × az0 × az0) × (az0 × az0 × az0))) (a1 : ((az0 × az0 × az0) × (az0 × az0 × az0) × (az0 × az0 × az0))) : T ((az0 × az0 × az0) × (az0 × az0 × az0) × (az0 × az0 × az0)) :=
 .unroll 4 <|
 .known true <|
 .unroll 4 <|
 .known true <|
 .unroll 4 <|
 .known true <|
 .ix 0 3 rfl <|
 .ix 0 3 rfl <|
 .ix 0 3 rfl <|
 .ix 0 3 rfl <|
 .call (azm a0.1.1 a1.1.1) [] fun y3531 =>
 .call (azk (⟨0, 0⟩ : az0) y3531) [] fun y3532 =>
 .lit 13000 (1) <|
 .known true <|
 .ix 0 3 rfl <|
 .ix 1 3 rfl <|
 .ix 1 3 rfl <|
 .ix 0 3 rfl <|
 .call (azm a0.1.2.1 a1.2.1.1) [] fun y3535 =>
 .call (azk y3532 y3535) [] fun y3536 =>
 .lit 13000 (2) <|
 .known true <|
 .ix 0 3 rfl <|
 .ix 2 3 rfl <|
 .ix 2 3 rfl <|
 .ix 0 3 rfl <|
 .call (azm a0.1.2.2 a1.2.2.1) [] fun y3539 =>
 .call (azk y3536 y3539) [] fun y3540 =>
 .lit 13000 (3) <|
 .known false <|
 .call (azw y3540.Lo) [] fun y3541 =>
 .call (azw y3540.Hi) [] fun y3542 =>
 .ix 0 3 rfl <|
 .ix 0 3 rfl <|
 .lit 15000 (1) <|
 .known true <|
 .unroll 4 <|
 .known true <|
 .ix 0 3 rfl <|
 .ix 0 3 rfl <|
 .ix 0 3 rfl <|
 .ix 1 3 rfl <|
 .call (azm a0.1.1 a1.1.2.1) [] fun y3607 =>
 .call (azk (⟨0, 0⟩ : az0) y3607) [] fun y3608 =>
 .lit 13000 (1) <|
 .known true <|
 .ix 0 3 rfl <|
 .ix 1 3 rfl <|
 .ix 1 3 rfl <|
 .ix 1 3 rfl <|
 .call (azm a0.1.2.1 a1.2.1.2.1) [] fun y3611 =>
 .call (azk y3608 y3611) [] fun y3612 =>
 .lit 13000 (2) <|
 .known true <|
 .ix 0 3 rfl <|
 .ix 2 3 rfl <|
 .ix 2 3 rfl <|
 .ix 1 3 rfl <|
 .call (azm a0.1.2.2 a1.2.2.2.1) [] fun y3615 =>
 .call (azk y3612 y3615) [] fun y3616 =>
 .lit 13000 (3) <|
 .known false <|
 .call (azw y3616.Lo) [] fun y3617 =>
 .call (azw y3616.Hi) [] fun y3618 =>
 .ix 0 3 rfl <|
 .ix 1 3 rfl <|
 .lit 15000 (2) <|
 .known true <|
 .unroll 4 <|
 .known true <|
 .ix 0 3 rfl <|
 .ix 0 3 rfl <|
 .ix 0 3 rfl <|
 .ix 2 3 rfl <|
 .call (azm a0.1.1 a1.1.2.2) [] fun y3683 =>
 .call (azk (⟨0, 0⟩ : az0) y3683) [] fun y3684 =>
 .lit 13000 (1) <|
 .known true <|
 .ix 0 3 rfl <|
 .ix 1 3 rfl <|
 .ix 1 3 rfl <|
 .ix 2 3 rfl <|
 .call (azm a0.1.2.1 a1.2.1.2.2) [] fun y3687 =>
 .call (azk y3684 y3687) [] fun y3688 =>
 .lit 13000 (2) <|
 .known true <|
 .ix 0 3 rfl <|
 .ix 2 3 rfl <|
 .ix 2 3 rfl <|
 .ix 2 3 rfl <|
 .call (azm a0.1.2.2 a1.2.2.2.2) [] fun y3691 =>
 .call (azk y3688 y3691) [] fun y3692 =>
 .lit 13000 (3) <|
 .known false <|
 .call (azw y3692.Lo) [] fun y3693 =>
 .call (azw y3692.Hi) [] fun y3694 =>
 .ix 0 3 rfl <|
 .ix 2 3 rfl <|
 .lit 15000 (3) <|
 .known false <|
 .lit 16000 (1) <|
 .known true <|
 .unroll 4 <|
 .known true <|
 .unroll 4 <|
 .known true <|
 .ix 1 3 rfl <|
 .ix 0 3 rfl <|
 .ix 0 3 rfl <|
 .ix 0 3 rfl <|
 .call (azm a0.2.1.1 a1.1.1) [] fun y4145 =>
 .call (azk (⟨0, 0⟩ : az0) y4145) [] fun y4146 =>
 .lit 13000 (1) <|
 .known true <|
 .ix 1 3 rfl <|
 .ix 1 3 rfl <|
 .ix 1 3 rfl <|
 .ix 0 3 rfl <|
 .call (azm a0.2.1.2.1 a1.2.1.1) [] fun y4149 =>
 .call (azk y4146 y4149) [] fun y4150 =>
 .lit 13000 (2) <|
 .known true <|
 .ix 1 3 rfl <|
 .ix 2 3 rfl <|
 .ix 2 3 rfl <|
 .ix 0 3 rfl <|
 .call (azm a0.2.1.2.2 a1.2.2.1) [] fun y4153 =>
 .call (azk y4150 y4153) [] fun y4154 =>
 .lit 13000 (3) <|
 .known false <|
 .call (azw y4154.Lo) [] fun y4155 =>
 .call (azw y4154.Hi) [] fun y4156 =>
 .ix 1 3 rfl <|
 .ix 0 3 rfl <|
 .lit 15000 (1) <|
 .known true <|
 .unroll 4 <|
 .known true <|
 .ix 1 3 rfl <|
 .ix 0 3 rfl <|
 .ix 0 3 rfl <|
 .ix 1 3 rfl <|
 .call (azm a0.2.1.1 a1.1.2.1) [] fun y4221 =>
 .call (azk (⟨0, 0⟩ : az0) y4221) [] fun y4222 =>
 .lit 13000 (1) <|
 .known true <|
 .ix 1 3 rfl <|
 .ix 1 3 rfl <|
 .ix 1 3 rfl <|
 .ix 1 3 rfl <|
 .call (azm a0.2.1.2.1 a1.2.1.2.1) [] fun y4225 =>
 .call (azk y4222 y4225) [] fun y4226 =>
 .lit 13000 (2) <|
 .known true <|
 .ix 1 3 rfl <|
 .ix 2 3 rfl <|
 .ix 2 3 rfl <|
 .ix 1 3 rfl <|
 .call (azm a0.2.1.2.2 a1.2.2.2.1) [] fun y4229 =>
 .call (azk y4226 y4229) [] fun y4230 =>
 .lit 13000 (3) <|
 .known false <|
 .call (azw y4230.Lo) [] fun y4231 =>
 .call (azw y4230.Hi) [] fun y4232 =>
 .ix 1 3 rfl <|
 .ix 1 3 rfl <|
 .lit 15000 (2) <|
 .known true <|
 .unroll 4 <|
 .known true <|
 .ix 1 3 rfl <|
 .ix 0 3 rfl <|
 .ix 0 3 rfl <|
 .ix 2 3 rfl <|
 .call (azm a0.2.1.1 a1.1.2.2) [] fun y4297 =>
 .call (azk (⟨0, 0⟩ : az0) y4297) [] fun y4298 =>
 .lit 13000 (1) <|
 .known true <|
 .ix 1 3 rfl <|
 .ix 1 3 rfl <|
 .ix 1 3 rfl <|
 .ix 2 3 rfl <|
 .call (azm a0.2.1.2.1 a1.2.1.2.2) [] fun y4301 =>
 .call (azk y4298 y4301) [] fun y4302 =>
 .lit 13000 (2) <|
 .known true <|
 .ix 1 3 rfl <|
 .ix 2 3 rfl <|
 .ix 2 3 rfl <|
 .ix 2 3 rfl <|
 .call (azm a0.2.1.2.2 a1.2.2.2.2) [] fun y4305 =>
 .call (azk y4302 y4305) [] fun y4306 =>
 .lit 13000 (3) <|
 .known false <|
 .call (azw y4306.Lo) [] fun y4307 =>
 .call (azw y4306.Hi) [] fun y4308 =>
 .ix 1 3 rfl <|
 .ix 2 3 rfl <|
 .lit 15000 (3) <|
 .known false <|
 .lit 16000 (2) <|
 .known true <|
 .unroll 4 <|
 .known true <|
 .unroll 4 <|
 .known true <|
 .ix 2 3 rfl <|
 .ix 0 3 rfl <|
 .ix 0 3 rfl <|
 .ix 0 3 rfl <|
 .call (azm a0.2.2.1 a1.1.1) [] fun y4759 =>
 .call (azk (⟨0, 0⟩ : az0) y4759) [] fun y4760 =>
 .lit 13000 (1) <|
 .known true <|
 .ix 2 3 rfl <|
 .ix 1 3 rfl <|
 .ix 1 3 rfl <|
 .ix 0 3 rfl <|
 .call (azm a0.2.2.2.1 a1.2.1.1) [] fun y4763 =>
 .call (azk y4760 y4763) [] fun y4764 =>
 .lit 13000 (2) <|
 .known true <|
 .ix 2 3 rfl <|
 .ix 2 3 rfl <|
 .ix 2 3 rfl <|
 .ix 0 3 rfl <|
 .call (azm a0.2.2.2.2 a1.2.2.1) [] fun y4767 =>
 .call (azk y4764 y4767) [] fun y4768 =>
 .lit 13000 (3) <|
 .known false <|
 .call (azw y4768.Lo) [] fun y4769 =>
 .call (azw y4768.Hi) [] fun y4770 =>
 .ix 2 3 rfl <|
 .ix 0 3 rfl <|
 .lit 15000 (1) <|
 .known true <|
 .unroll 4 <|
 .known true <|
 .ix 2 3 rfl <|
 .ix 0 3 rfl <|
 .ix 0 3 rfl <|
 .ix 1 3 rfl <|
 .call (azm a0.2.2.1 a1.1.2.1) [] fun y4835 =>
 .call (azk (⟨0, 0⟩ : az0) y4835) [] fun y4836 =>
 .lit 13000 (1) <|
 .known true <|
 .ix 2 3 rfl <|
 .ix 1 3 rfl <|
 .ix 1 3 rfl <|
 .ix 1 3 rfl <|
 .call (azm a0.2.2.2.1 a1.2.1.2.1) [] fun y4839 =>
 .call (azk y4836 y4839) [] fun y4840 =>
 .lit 13000 (2) <|
 .known true <|
 .ix 2 3 rfl <|
 .ix 2 3 rfl <|
 .ix 2 3 rfl <|
 .ix 1 3 rfl <|
 .call (azm a0.2.2.2.2 a1.2.2.2.1) [] fun y4843 =>
 .call (azk y4840 y4843) [] fun y4844 =>
 .lit 13000 (3) <|
 .known false <|
 .call (azw y4844.Lo) [] fun y4845 =>
 .call (azw y4844.Hi) [] fun y4846 =>
 .ix 2 3 rfl <|
 .ix 1 3 rfl <|
 .lit 15000 (2) <|
 .known true <|
 .unroll 4 <|
 .known true <|
 .ix 2 3 rfl <|
 .ix 0 3 rfl <|
 .ix 0 3 rfl <|
 .ix 2 3 rfl <|
 .call (azm a0.2.2.1 a1.1.2.2) [] fun y4911 =>
 .call (azk (⟨0, 0⟩ : az0) y4911) [] fun y4912 =>
 .lit 13000 (1) <|
 .known true <|
 .ix 2 3 rfl <|
 .ix 1 3 rfl <|
 .ix 1 3 rfl <|
 .ix 2 3 rfl <|
 .call (azm a0.2.2.2.1 a1.2.1.2.2) [] fun y4915 =>
 .call (azk y4912 y4915) [] fun y4916 =>
 .lit 13000 (2) <|
 .known true <|
 .ix 2 3 rfl <|
 .ix 2 3 rfl <|
 .ix 2 3 rfl <|
 .ix 2 3 rfl <|
 .call (azm a0.2.2.2.2 a1.2.2.2.2) [] fun y4919 =>
 .call (azk y4916 y4919) [] fun y4920 =>
 .lit 13000 (3) <|
 .known false <|
 .call (azw y4920.Lo) [] fun y4921 =>
 .call (azw y4920.Hi) [] fun y4922 =>
 .ix 2 3 rfl <|
 .ix 2 3 rfl <|
 .lit 15000 (3) <|
 .known false <|
 .lit 16000 (3) <|
 .known false <|
 .ret (((⟨y3541, y3542⟩ : az0), (⟨y3617, y3618⟩ : az0), (⟨y3693, y3694⟩ : az0)), ((⟨y4155, y4156⟩ : az0), (⟨y4231, y4232⟩ : az0), (⟨y4307, y4308⟩ : az0)), ((⟨y4769, y4770⟩ : az0), (⟨y4845, y4846⟩ : az0), (⟨y4921, y4922⟩ : az0)))
noncomputable def qzn (a0 : ((az0 × az0 × az0) × (az0 × az0 × az0) × (az0 × az0 × az0))) (a1 : ((az0 × az0 × az0) × (az0 × az0 × az0) × (az0 × az0 × az0))) : CallS ((az0 × az0 × az0) × (az0 × az0 × az0) × (az0 × az0 × az0)) :=
  mkC [] hd Tryz.func262 (by kernel_rfl) (kz6 a0 a1) 0 [.pure (czk a0), .pure (czk a1)] [] (fun r => .pure (czk r)) (fun _ => []) (by kernel_rfl)
noncomputable def nzm (a0 : ((az0 × az0 × az0) × (az0 × az0 × az0) × (az0 × az0 × az0))) (a1 : (az0 × az0 × az0)) : T (az0 × az0 × az0) :=
 .unroll 4 <|
 .known true <|
 .unroll 4 <|
 .known true <|
 .ix 0 3 rfl <|
 .ix 0 3 rfl <|
 .ix 0 3 rfl <|
 .ix 0 3 rfl <|
 .call (azm a0.1.1 a1.1) [] fun y213 =>
 .call (azk (⟨0, 0⟩ : az0) y213) [] fun y214 =>
 .ix 0 3 rfl <|
 .lit 9000 (1) <|
 .known true <|
 .ix 0 3 rfl <|
 .ix 0 3 rfl <|
 .ix 1 3 rfl <|
 .ix 1 3 rfl <|
 .call (azm a0.1.2.1 a1.2.1) [] fun y217 =>
 .call (azk y214 y217) [] fun y218 =>
 .ix 0 3 rfl <|
 .lit 9000 (2) <|
 .known true <|
 .ix 0 3 rfl <|
 .ix 0 3 rfl <|
 .ix 2 3 rfl <|
 .ix 2 3 rfl <|
 .call (azm a0.1.2.2 a1.2.2) [] fun y221 =>
 .call (azk y218 y221) [] fun y222 =>
 .ix 0 3 rfl <|
 .lit 9000 (3) <|
 .known false <|
 .lit 10000 (1) <|
 .known true <|
 .unroll 4 <|
 .known true <|
 .ix 1 3 rfl <|
 .ix 1 3 rfl <|
 .ix 0 3 rfl <|
 .ix 0 3 rfl <|
 .call (azm a0.2.1.1 a1.1) [] fun y249 =>
 .call (azk (⟨0, 0⟩ : az0) y249) [] fun y250 =>
 .ix 1 3 rfl <|
 .lit 9000 (1) <|
 .known true <|
 .ix 1 3 rfl <|
 .ix 1 3 rfl <|
 .ix 1 3 rfl <|
 .ix 1 3 rfl <|
 .call (azm a0.2.1.2.1 a1.2.1) [] fun y253 =>
 .call (azk y250 y253) [] fun y254 =>
 .ix 1 3 rfl <|
 .lit 9000 (2) <|
 .known true <|
 .ix 1 3 rfl <|
 .ix 1 3 rfl <|
 .ix 2 3 rfl <|
 .ix 2 3 rfl <|
 .call (azm a0.2.1.2.2 a1.2.2) [] fun y257 =>
 .call (azk y254 y257) [] fun y258 =>
 .ix 1 3 rfl <|
 .lit 9000 (3) <|
 .known false <|
 .lit 10000 (2) <|
 .known true <|
 .unroll 4 <|
 .known true <|
 .ix 2 3 rfl <|
 .ix 2 3 rfl <|
 .ix 0 3 rfl <|
 .ix 0 3 rfl <|
 .call (azm a0.2.2.1 a1.1) [] fun y285 =>
 .call (azk (⟨0, 0⟩ : az0) y285) [] fun y286 =>
 .ix 2 3 rfl <|
 .lit 9000 (1) <|
 .known true <|
 .ix 2 3 rfl <|
 .ix 2 3 rfl <|
 .ix 1 3 rfl <|
 .ix 1 3 rfl <|
 .call (azm a0.2.2.2.1 a1.2.1) [] fun y289 =>
 .call (azk y286 y289) [] fun y290 =>
 .ix 2 3 rfl <|
 .lit 9000 (2) <|
 .known true <|
 .ix 2 3 rfl <|
 .ix 2 3 rfl <|
 .ix 2 3 rfl <|
 .ix 2 3 rfl <|
 .call (azm a0.2.2.2.2 a1.2.2) [] fun y293 =>
 .call (azk y290 y293) [] fun y294 =>
 .ix 2 3 rfl <|
 .lit 9000 (3) <|
 .known false <|
 .lit 10000 (3) <|
 .known false <|
 .ret (y222, y258, y294)
noncomputable def tzp (a0 : ((az0 × az0 × az0) × (az0 × az0 × az0) × (az0 × az0 × az0))) (a1 : (az0 × az0 × az0)) : CallS (az0 × az0 × az0) :=
  mkC [] hd Tryz.func279 (by kernel_rfl) (nzm a0 a1) 0 [.pure (czk a0), .pure (az4 a1)] [] (fun r => .pure (az4 r)) (fun _ => []) (by kernel_rfl)
noncomputable def rzs (a0 : (az0 × az0 × az0)) (a1 : (az0 × az0 × az0)) : T (az0 × az0 × az0) :=
 .unroll 4 <|
 .known true <|
 .ix 0 3 rfl <|
 .ix 0 3 rfl <|
 .call (azk a0.1 a1.1) [] fun y16 =>
 .ix 0 3 rfl <|
 .lit 6000 (1) <|
 .known true <|
 .ix 1 3 rfl <|
 .ix 1 3 rfl <|
 .call (azk a0.2.1 a1.2.1) [] fun y18 =>
 .ix 1 3 rfl <|
 .lit 6000 (2) <|
 .known true <|
 .ix 2 3 rfl <|
 .ix 2 3 rfl <|
 .call (azk a0.2.2 a1.2.2) [] fun y20 =>
 .ix 2 3 rfl <|
 .lit 6000 (3) <|
 .known false <|
 .ret (y16, y18, y20)
noncomputable def yz1 (a0 : (az0 × az0 × az0)) (a1 : (az0 × az0 × az0)) : CallS (az0 × az0 × az0) :=
  mkC [] hd Tryz.func278 (by kernel_rfl) (rzs a0 a1) 0 [.pure (az4 a0), .pure (az4 a1)] [] (fun r => .pure (az4 r)) (fun _ => []) (by kernel_rfl)
noncomputable def gz4 (a0 : (az0 × az0 × az0)) (a1 : Int) (a2 : Int) (a3 : Int) (a4 : Int) (a5 : Int) (a6 : Int) (a7 : Int) (a8 : Int) (a9 : Int) (a10 : Int) (a11 : Int) (a12 : Int) (a13 : Int) (a14 : Int) (a15 : Int) (a16 : Int) (a17 : Int) (a18 : Int) (a19 : Int) (a20 : Int) (a21 : Int) (a22 : Int) (a23 : Int) (a24 : Int) : T ((az0 × az0 × az0) × Int × Int × Int × Int × Int × Int × Int × Int × Int × Int × Int × Int × Int × Int × Int × Int × Int × Int × Int × Int × Int × Int × Int × Int) :=
 .call (tzp (((⟨a1, a2⟩ : az0), (⟨a3, a4⟩ : az0), (⟨a5, a6⟩ : az0)), ((⟨a7, a8⟩ : az0), (⟨a9, a10⟩ : az0), (⟨a11, a12⟩ : az0)), ((⟨a13, a14⟩ : az0), (⟨a15, a16⟩ : az0), (⟨a17, a18⟩ : az0))) ((⟨a0.1.Lo, a0.1.Hi⟩ : az0), (⟨a0.2.1.Lo, a0.2.1.Hi⟩ : az0), (⟨a0.2.2.Lo, a0.2.2.Hi⟩ : az0))) [] fun y1 =>
 .call (yz1 ((⟨a19, a20⟩ : az0), (⟨a21, a22⟩ : az0), (⟨a23, a24⟩ : az0)) y1) [] fun y2 =>
 .ret (y2, a1, a2, a3, a4, a5, a6, a7, a8, a9, a10, a11, a12, a13, a14, a15, a16, a17, a18, a19, a20, a21, a22, a23, a24)
noncomputable def jz9 (a0 : (az0 × az0 × az0)) (a1 : Int) (a2 : Int) (a3 : Int) (a4 : Int) (a5 : Int) (a6 : Int) (a7 : Int) (a8 : Int) (a9 : Int) (a10 : Int) (a11 : Int) (a12 : Int) (a13 : Int) (a14 : Int) (a15 : Int) (a16 : Int) (a17 : Int) (a18 : Int) (a19 : Int) (a20 : Int) (a21 : Int) (a22 : Int) (a23 : Int) (a24 : Int) : CallS ((az0 × az0 × az0) × Int × Int × Int × Int × Int × Int × Int × Int × Int × Int × Int × Int × Int × Int × Int × Int × Int × Int × Int × Int × Int × Int × Int × Int) :=
  mkC [] hd Tryz.func277 (by kernel_rfl) (gz4 a0 a1 a2 a3 a4 a5 a6 a7 a8 a9 a10 a11 a12 a13 a14 a15 a16 a17 a18 a19 a20 a21 a22 a23 a24) 1 [.pure (az4 a0), .ptr 0 0] [(0, .box [pz a1, pz a2, pz a3, pz a4, pz a5, pz a6, pz a7, pz a8, pz a9, pz a10, pz a11, pz a12, pz a13, pz a14, pz a15, pz a16, pz a17, pz a18, pz a19, pz a20, pz a21, pz a22, pz a23, pz a24])] (fun r => .pure (az4 r.1)) (fun r => [(0, .box [pz r.2.1, pz r.2.2.1, pz r.2.2.2.1, pz r.2.2.2.2.1, pz r.2.2.2.2.2.1, pz r.2.2.2.2.2.2.1, pz r.2.2.2.2.2.2.2.1, pz r.2.2.2.2.2.2.2.2.1, pz r.2.2.2.2.2.2.2.2.2.1, pz r.2.2.2.2.2.2.2.2.2.2.1, pz r.2.2.2.2.2.2.2.2.2.2.2.1, pz r.2.2.2.2.2.2.2.2.2.2.2.2.1, pz r.2.2.2.2.2.2.2.2.2.2.2.2.2.1, pz r.2.2.2.2.2.2.2.2.2.2.2.2.2.2.1, pz r.2.2.2.2.2.2.2.2.2.2.2.2.2.2.2.1, pz r.2.2.2.2.2.2.2.2.2.2.2.2.2.2.2.2.1, pz r.2.2.2.2.2.2.2.2.2.2.2.2.2.2.2.2.2.1, pz r.2.2.2.2.2.2.2.2.2.2.2.2.2.2.2.2.2.2.1, pz r.2.2.2.2.2.2.2.2.2.2.2.2.2.2.2.2.2.2.2.1, pz r.2.2.2.2.2.2.2.2.2.2.2.2.2.2.2.2.2.2.2.2.1, pz r.2.2.2.2.2.2.2.2.2.2.2.2.2.2.2.2.2.2.2.2.2.1, pz r.2.2.2.2.2.2.2.2.2.2.2.2.2.2.2.2.2.2.2.2.2.2.1, pz r.2.2.2.2.2.2.2.2.2.2.2.2.2.2.2.2.2.2.2.2.2.2.2.1, pz r.2.2.2.2.2.2.2.2.2.2.2.2.2.2.2.2.2.2.2.2.2.2.2.2])]) (by kernel_rfl)
noncomputable def nzt (a0 : bz9) (a1 : bz9) : T bz9 :=
 .call (mzr a0) [] fun y2 =>
 .call (qzn a0.R a1.R) [] fun y3 =>
 .call (jz9 a1.T y2.1 y2.2.1 y2.2.2.1 y2.2.2.2.1 y2.2.2.2.2.1 y2.2.2.2.2.2.1 y2.2.2.2.2.2.2.1 y2.2.2.2.2.2.2.2.1 y2.2.2.2.2.2.2.2.2.1 y2.2.2.2.2.2.2.2.2.2.1 y2.2.2.2.2.2.2.2.2.2.2.1 y2.2.2.2.2.2.2.2.2.2.2.2.1 y2.2.2.2.2.2.2.2.2.2.2.2.2.1 y2.2.2.2.2.2.2.2.2.2.2.2.2.2.1 y2.2.2.2.2.2.2.2.2.2.2.2.2.2.2.1 y2.2.2.2.2.2.2.2.2.2.2.2.2.2.2.2.1 y2.2.2.2.2.2.2.2.2.2.2.2.2.2.2.2.2.1 y2.2.2.2.2.2.2.2.2.2.2.2.2.2.2.2.2.2.1 y2.2.2.2.2.2.2.2.2.2.2.2.2.2.2.2.2.2.2.1 y2.2.2.2.2.2.2.2.2.2.2.2.2.2.2.2.2.2.2.2.1 y2.2.2.2.2.2.2.2.2.2.2.2.2.2.2.2.2.2.2.2.2.1 y2.2.2.2.2.2.2.2.2.2.2.2.2.2.2.2.2.2.2.2.2.2.1 y2.2.2.2.2.2.2.2.2.2.2.2.2.2.2.2.2.2.2.2.2.2.2.1 y2.2.2.2.2.2.2.2.2.2.2.2.2.2.2.2.2.2.2.2.2.2.2.2) [(0, 256)] fun y4 =>
 .ret (⟨(y3.1, y3.2.1, y3.2.2), y4.1⟩ : bz9)
noncomputable def gz3 (a0 : bz9) (a1 : bz9) : CallS bz9 :=
  mkC [] hd Tryz.func236 (by kernel_rfl) (nzt a0 a1) 0 [.pure (czn a0), .pure (czn a1)] [] (fun r => .pure (czn r)) (fun _ => []) (by kernel_rfl)
noncomputable def rz6 (a0 : Int) (a1 : az0) : T bz9 :=
 .cut 2 (fun (y1 : (Int × Int × Int × Int × Int × Int)) => ⟨[(4, .ptr 0 0), (5, .ptr 1 0)], [(0, .box [pz 0, pz 0, pz 0, pz 0, pz 0, pz 0, pz 0, pz 0, pz 0, pz 0, pz 0, pz 0, pz 0, pz 0, pz 0, pz 0, pz 0, pz 0, pz 0, pz 0, pz 0, pz 0, pz 0, pz 0]), (1, .box [pz y1.1, pz y1.2.1, pz y1.2.2.1, pz y1.2.2.2.1, pz y1.2.2.2.2.1, pz y1.2.2.2.2.2])], [], 2⟩)
 (.cas 2000 a0 0
 (.ix 0 3 rfl <|
 .ret (.out (a1.Lo, a1.Hi, 0, 0, 0, 0)))
 (.cas 2000 a0 1
 (.ix 1 3 rfl <|
 .ret (.out (0, 0, a1.Lo, a1.Hi, 0, 0)))
 (.cas 2000 a0 2
 (.ix 2 3 rfl <|
 .ret (.out (0, 0, 0, 0, a1.Lo, a1.Hi)))
 (.stop)))) fun y1 =>
 .call (mzq ((⟨y1.1, y1.2.1⟩ : az0), (⟨y1.2.2.1, y1.2.2.2.1⟩ : az0), (⟨y1.2.2.2.2.1, y1.2.2.2.2.2⟩ : az0))) [] fun y2 =>
 .ret y2
noncomputable def xzu (a0 : Int) (a1 : az0) : CallS bz9 :=
  mkC [] hd Tryz.func275 (by kernel_rfl) (rz6 a0 a1) 0 [pz a0, .pure (azf a1)] [] (fun r => .pure (czn r)) (fun _ => []) (by kernel_rfl)
noncomputable def kz0 (a0 : az0) : T Int :=
 .call (bze a0) [] fun y4 =>
 .br (!y4)
 (.ret 0)
 (.ret (IntKind.i64.wrap (a0.Hi - a0.Lo)))
noncomputable def jzz (a0 : az0) : CallS Int :=
  mkC [] hd Tryz.func319 (by kernel_rfl) (kz0 a0) 0 [.pure (azf a0)] [] (fun r => pz r) (fun _ => []) (by kernel_rfl)
noncomputable def lz9 (a0 : Int) : T Int :=
 .ret (IntKind.i64.wrap (((BitVec.ofInt 64 a0 &&& BitVec.ofInt 64 65535).toNat : Int)))
noncomputable def gzt (a0 : Int) : CallS Int :=
  mkC [] hd Tryz.func322 (by kernel_rfl) (lz9 a0) 0 [pz a0] [] (fun r => pz r) (fun _ => []) (by kernel_rfl)
noncomputable def jzt (a0 : Int) : T ((Int × Int × Int × Int × Int × Int × Int × Int × Int × Int × Int) × (Int × Int × Int × Int × Int × Int × Int × Int × Int × Int × Int)) :=
 .ix 0 11 rfl <|
 .ix 0 11 rfl <|
 .call (azx (IntKind.i64.wrap (a0 * 6746518852)) 16) [] fun y2 =>
 .ix 1 11 rfl <|
 .call (bz3 (IntKind.i64.wrap (a0 * 6746518853)) 16) [] fun y4 =>
 .ix 1 11 rfl <|
 .unroll 10 <|
 .known true <|
 .lit 8002 (1) <|
 .ix 1 11 rfl <|
 .ix 1 11 rfl <|
 .call (azx (IntKind.i64.wrap (y2 * y2)) 30) [] fun y79 =>
 .ix 2 11 rfl <|
 .lit 9002 (1) <|
 .ix 1 11 rfl <|
 .ix 1 11 rfl <|
 .call (bz3 (IntKind.i64.wrap (y4 * y4)) 30) [] fun y80 =>
 .ix 2 11 rfl <|
 .lit 7001 (3) <|
 .known true <|
 .lit 8002 (2) <|
 .ix 2 11 rfl <|
 .ix 1 11 rfl <|
 .call (azx (IntKind.i64.wrap (y79 * y2)) 30) [] fun y85 =>
 .ix 3 11 rfl <|
 .lit 9002 (2) <|
 .ix 2 11 rfl <|
 .ix 1 11 rfl <|
 .call (bz3 (IntKind.i64.wrap (y80 * y4)) 30) [] fun y86 =>
 .ix 3 11 rfl <|
 .lit 7001 (4) <|
 .known true <|
 .lit 8002 (3) <|
 .ix 3 11 rfl <|
 .ix 1 11 rfl <|
 .call (azx (IntKind.i64.wrap (y85 * y2)) 30) [] fun y91 =>
 .ix 4 11 rfl <|
 .lit 9002 (3) <|
 .ix 3 11 rfl <|
 .ix 1 11 rfl <|
 .call (bz3 (IntKind.i64.wrap (y86 * y4)) 30) [] fun y92 =>
 .ix 4 11 rfl <|
 .lit 7001 (5) <|
 .known true <|
 .lit 8002 (4) <|
 .ix 4 11 rfl <|
 .ix 1 11 rfl <|
 .call (azx (IntKind.i64.wrap (y91 * y2)) 30) [] fun y97 =>
 .ix 5 11 rfl <|
 .lit 9002 (4) <|
 .ix 4 11 rfl <|
 .ix 1 11 rfl <|
 .call (bz3 (IntKind.i64.wrap (y92 * y4)) 30) [] fun y98 =>
 .ix 5 11 rfl <|
 .lit 7001 (6) <|
 .known true <|
 .lit 8002 (5) <|
 .ix 5 11 rfl <|
 .ix 1 11 rfl <|
 .call (azx (IntKind.i64.wrap (y97 * y2)) 30) [] fun y103 =>
 .ix 6 11 rfl <|
 .lit 9002 (5) <|
 .ix 5 11 rfl <|
 .ix 1 11 rfl <|
 .call (bz3 (IntKind.i64.wrap (y98 * y4)) 30) [] fun y104 =>
 .ix 6 11 rfl <|
 .lit 7001 (7) <|
 .known true <|
 .lit 8002 (6) <|
 .ix 6 11 rfl <|
 .ix 1 11 rfl <|
 .call (azx (IntKind.i64.wrap (y103 * y2)) 30) [] fun y109 =>
 .ix 7 11 rfl <|
 .lit 9002 (6) <|
 .ix 6 11 rfl <|
 .ix 1 11 rfl <|
 .call (bz3 (IntKind.i64.wrap (y104 * y4)) 30) [] fun y110 =>
 .ix 7 11 rfl <|
 .lit 7001 (8) <|
 .known true <|
 .lit 8002 (7) <|
 .ix 7 11 rfl <|
 .ix 1 11 rfl <|
 .call (azx (IntKind.i64.wrap (y109 * y2)) 30) [] fun y115 =>
 .ix 8 11 rfl <|
 .lit 9002 (7) <|
 .ix 7 11 rfl <|
 .ix 1 11 rfl <|
 .call (bz3 (IntKind.i64.wrap (y110 * y4)) 30) [] fun y116 =>
 .ix 8 11 rfl <|
 .lit 7001 (9) <|
 .known true <|
 .lit 8002 (8) <|
 .ix 8 11 rfl <|
 .ix 1 11 rfl <|
 .call (azx (IntKind.i64.wrap (y115 * y2)) 30) [] fun y121 =>
 .ix 9 11 rfl <|
 .lit 9002 (8) <|
 .ix 8 11 rfl <|
 .ix 1 11 rfl <|
 .call (bz3 (IntKind.i64.wrap (y116 * y4)) 30) [] fun y122 =>
 .ix 9 11 rfl <|
 .lit 7001 (10) <|
 .known true <|
 .lit 8002 (9) <|
 .ix 9 11 rfl <|
 .ix 1 11 rfl <|
 .call (azx (IntKind.i64.wrap (y121 * y2)) 30) [] fun y127 =>
 .ix 10 11 rfl <|
 .lit 9002 (9) <|
 .ix 9 11 rfl <|
 .ix 1 11 rfl <|
 .call (bz3 (IntKind.i64.wrap (y122 * y4)) 30) [] fun y128 =>
 .ix 10 11 rfl <|
 .lit 7001 (11) <|
 .known false <|
 .ret ((1073741824, y2, y79, y85, y91, y97, y103, y109, y115, y121, y127), (1073741824, y4, y80, y86, y92, y98, y104, y110, y116, y122, y128))
noncomputable def jzs (a0 : Int) : CallS ((Int × Int × Int × Int × Int × Int × Int × Int × Int × Int × Int) × (Int × Int × Int × Int × Int × Int × Int × Int × Int × Int × Int)) :=
  mkC [] hd Tryz.func327 (by kernel_rfl) (jzt a0) 0 [pz a0] [] (fun r => .tup [.pure (qzi r.1), .pure (qzi r.2)]) (fun _ => []) (by kernel_rfl)
noncomputable def lz8 (a0 : Int) (a1 : Int) : T Int :=
 .grd (a1 ≠ 0) <|
 .ret (IntKind.i64.wrap ((IntKind.i64.wrap ((IntKind.i64.wrap (a0 + a1)) - 1)).tdiv a1))
noncomputable def cz1 (a0 : Int) (a1 : Int) : CallS Int :=
  mkC [] hd Tryz.func329 (by kernel_rfl) (lz8 a0 a1) 0 [pz a0, pz a1] [] (fun r => pz r) (fun _ => []) (by kernel_rfl)
noncomputable def gzd (a0 : (List Int)) : T Int :=
 .loop (fun (x5 : (Int × Int × Int)) => ⟨[(3, pz x5.1), (4, pz x5.2.1), (7, .pure (encL 1 az3 a0)), (8, pz ((a0.length : Nat) : Int)), (9, pz x5.2.2)], [], [], 0⟩)
 (.exit 0) (fun (y6 : Int) => ⟨[(3, pz y6)], [], [], 0⟩)
 (fun x5 => .br (decide (x5.2.2 < ((a0.length : Nat) : Int)))
 (.grd (0 ≤ x5.2.2 ∧ x5.2.2 < ((a0.length : Nat) : Int)) <|
 .ret (.next ((IntKind.i64.wrap (x5.1 + (IntKind.i64.wrap (x5.2.1 * (a0.getD ((x5.2.2).toNat) default))))), (IntKind.i64.wrap (0 - x5.2.1)), (IntKind.i64.wrap (x5.2.2 + 1)))))
 (.ret (.out x5.1)))
 (0, 1, 0) [] fun y6 =>
 .ret y6
noncomputable def bzr (a0 : (List Int)) : CallS Int :=
  mkC [] hd Tryz.func328 (by kernel_rfl) (gzd a0) 0 [.pure (encL 1 az3 a0)] [] (fun r => pz r) (fun _ => []) (by kernel_rfl)
noncomputable def iz2 (a0 : Int) (a1 : Int) : T az0 :=
 .call (azx a0 14) [] fun y1 =>
 .call (bz3 a1 14) [] fun y2 =>
 .ret (⟨(max 0 y1), (min 65536 y2)⟩ : az0)
noncomputable def iz1 (a0 : Int) (a1 : Int) : CallS az0 :=
  mkC [] hd Tryz.func330 (by kernel_rfl) (iz2 a0 a1) 0 [pz a0, pz a1] [] (fun r => .pure (azf r)) (fun _ => []) (by kernel_rfl)
noncomputable def rz5 (a0 : Int) : T az0 :=
 .call (jzs a0) [] fun y2 =>
 .ix 1 11 rfl <|
 .ix 3 11 rfl <|
 .call (cz1 y2.2.2.2.2.1 6) [] fun y6 =>
 .ix 5 11 rfl <|
 .ok ((120 : Int) ≠ 0) (by decide) <|
 .ix 7 11 rfl <|
 .call (cz1 y2.2.2.2.2.2.2.2.2.1 5040) [] fun y7 =>
 .conv 2011 (czp 1 az3 ([y2.1.2.1, y6, (IntKind.i64.wrap (y2.1.2.2.2.2.2.1.tdiv 120)), y7] : (List Int)) 2) <|
 .call (bzr ([y2.1.2.1, y6, (IntKind.i64.wrap (y2.1.2.2.2.2.2.1.tdiv 120)), y7] : (List Int))) [] fun y8 =>
 .ix 1 11 rfl <|
 .ix 3 11 rfl <|
 .ok ((6 : Int) ≠ 0) (by decide) <|
 .ix 5 11 rfl <|
 .call (cz1 y2.2.2.2.2.2.2.1 120) [] fun y12 =>
 .ix 7 11 rfl <|
 .ok ((5040 : Int) ≠ 0) (by decide) <|
 .ix 9 11 rfl <|
 .call (cz1 y2.2.2.2.2.2.2.2.2.2.2.1 362880) [] fun y13 =>
 .conv 3014 (czp 1 az3 ([y2.2.2.1, (IntKind.i64.wrap (y2.1.2.2.2.1.tdiv 6)), y12, (IntKind.i64.wrap (y2.1.2.2.2.2.2.2.2.1.tdiv 5040)), y13] : (List Int)) 2) <|
 .call (bzr ([y2.2.2.1, (IntKind.i64.wrap (y2.1.2.2.2.1.tdiv 6)), y12, (IntKind.i64.wrap (y2.1.2.2.2.2.2.2.2.1.tdiv 5040)), y13] : (List Int))) [] fun y14 =>
 .call (iz1 y8 y14) [] fun y15 =>
 .ret y15
noncomputable def xzt (a0 : Int) : CallS az0 :=
  mkC [] hd Tryz.func325 (by kernel_rfl) (rz5 a0) 0 [pz a0] [] (fun r => .pure (azf r)) (fun _ => []) (by kernel_rfl)
noncomputable def nz2 (a0 : Int) : T az0 :=
 .call (jzs a0) [] fun y2 =>
 .ix 2 11 rfl <|
 .call (cz1 y2.2.2.2.1 2) [] fun y7 =>
 .ix 4 11 rfl <|
 .ok ((24 : Int) ≠ 0) (by decide) <|
 .ix 6 11 rfl <|
 .call (cz1 y2.2.2.2.2.2.2.2.1 720) [] fun y8 =>
 .ix 8 11 rfl <|
 .ok ((40320 : Int) ≠ 0) (by decide) <|
 .ix 10 11 rfl <|
 .call (cz1 y2.2.2.2.2.2.2.2.2.2.2.2 3628800) [] fun y9 =>
 .conv 2015 (czp 1 az3 ([1073741824, y7, (IntKind.i64.wrap (y2.1.2.2.2.2.1.tdiv 24)), y8, (IntKind.i64.wrap (y2.1.2.2.2.2.2.2.2.2.1.tdiv 40320)), y9] : (List Int)) 2) <|
 .call (bzr ([1073741824, y7, (IntKind.i64.wrap (y2.1.2.2.2.2.1.tdiv 24)), y8, (IntKind.i64.wrap (y2.1.2.2.2.2.2.2.2.2.1.tdiv 40320)), y9] : (List Int))) [] fun y10 =>
 .ix 2 11 rfl <|
 .ok ((2 : Int) ≠ 0) (by decide) <|
 .ix 4 11 rfl <|
 .call (cz1 y2.2.2.2.2.2.1 24) [] fun y14 =>
 .ix 6 11 rfl <|
 .ok ((720 : Int) ≠ 0) (by decide) <|
 .ix 8 11 rfl <|
 .call (cz1 y2.2.2.2.2.2.2.2.2.2.1 40320) [] fun y15 =>
 .conv 3012 (czp 1 az3 ([1073741824, (IntKind.i64.wrap (y2.1.2.2.1.tdiv 2)), y14, (IntKind.i64.wrap (y2.1.2.2.2.2.2.2.1.tdiv 720)), y15] : (List Int)) 2) <|
 .call (bzr ([1073741824, (IntKind.i64.wrap (y2.1.2.2.1.tdiv 2)), y14, (IntKind.i64.wrap (y2.1.2.2.2.2.2.2.1.tdiv 720)), y15] : (List Int))) [] fun y16 =>
 .call (iz1 y10 y16) [] fun y17 =>
 .ret y17
noncomputable def tzb (a0 : Int) : CallS az0 :=
  mkC [] hd Tryz.func326 (by kernel_rfl) (nz2 a0) 0 [pz a0] [] (fun r => .pure (azf r)) (fun _ => []) (by kernel_rfl)
noncomputable def pz2 (a0 : Int) : T az0 :=
 .br (decide (a0 ≤ 8192))
 (.call (xzt a0) [] fun y2 =>
 .ret y2)
 (.call (tzb (IntKind.i64.wrap (16384 - a0))) [] fun y3 =>
 .ret y3)
noncomputable def gzr (a0 : Int) : CallS az0 :=
  mkC [] hd Tryz.func323 (by kernel_rfl) (pz2 a0) 0 [pz a0] [] (fun r => .pure (azf r)) (fun _ => []) (by kernel_rfl)
noncomputable def nzj (a0 : az0) : T az0 :=
 .call (bze a0) [] fun y4 =>
 .br (!y4)
 (.ret (⟨0, 0⟩ : az0))
 (.ret (⟨(IntKind.i64.wrap (0 - a0.Hi)), (IntKind.i64.wrap (0 - a0.Lo))⟩ : az0))
noncomputable def jz4 (a0 : az0) : CallS az0 :=
  mkC [] hd Tryz.func311 (by kernel_rfl) (nzj a0) 0 [.pure (azf a0)] [] (fun r => .pure (azf r)) (fun _ => []) (by kernel_rfl)
noncomputable def uz7 (a0 : Int) : T az0 :=
 .call (gzt a0) [] fun y2 =>
 .ok ((16384 : Int) ≠ 0) (by decide) <|
 .ok ((16384 : Int) ≠ 0) (by decide) <|
 .br ((IntKind.i64.wrap (y2.tdiv 16384)) == 0)
 (.call (gzr (y2.tmod 16384)) [] fun y3 =>
 .ret y3)
 (.br ((IntKind.i64.wrap (y2.tdiv 16384)) == 1)
 (.call (gzr (IntKind.i64.wrap (16384 - (y2.tmod 16384)))) [] fun y4 =>
 .ret y4)
 (.br ((IntKind.i64.wrap (y2.tdiv 16384)) == 2)
 (.call (gzr (y2.tmod 16384)) [] fun y5 =>
 .call (jz4 y5) [] fun y6 =>
 .ret y6)
 (.call (gzr (IntKind.i64.wrap (16384 - (y2.tmod 16384)))) [] fun y7 =>
 .call (jz4 y7) [] fun y8 =>
 .ret y8)))
noncomputable def pz1 (a0 : Int) : CallS az0 :=
  mkC [] hd Tryz.func316 (by kernel_rfl) (uz7 a0) 0 [pz a0] [] (fun r => .pure (azf r)) (fun _ => []) (by kernel_rfl)
noncomputable def uz6 (a0 : Int) : T az0 :=
 .call (gzt a0) [] fun y1 =>
 .call (pz1 (IntKind.i64.wrap (y1 + 16384))) [] fun y2 =>
 .ret y2
noncomputable def uz5 (a0 : Int) : CallS az0 :=
  mkC [] hd Tryz.func315 (by kernel_rfl) (uz6 a0) 0 [pz a0] [] (fun r => .pure (azf r)) (fun _ => []) (by kernel_rfl)
noncomputable def lzl (a0 : az0) (a1 : az0) : T az0 :=
 .call (gza a0 a1) [] fun y4 =>
 .br (!y4)
 (.ret (⟨0, 0⟩ : az0))
 (.ret (⟨(min a0.Lo a1.Lo), (max a0.Hi a1.Hi)⟩ : az0))
noncomputable def dzn (a0 : az0) (a1 : az0) : CallS az0 :=
  mkC [] hd Tryz.func320 (by kernel_rfl) (lzl a0 a1) 0 [.pure (azf a0), .pure (azf a1)] [] (fun r => .pure (azf r)) (fun _ => []) (by kernel_rfl)
noncomputable def nzg (a0 : az0) (a1 : Int) : T Bool :=
 .call (bze a0) [] fun y1 =>
 .br y1
 (.br (decide (a0.Lo ≤ a1))
 (.ret (decide (a1 ≤ a0.Hi)))
 (.ret false))
 (.ret false)
noncomputable def tzi (a0 : az0) (a1 : Int) : CallS Bool :=
  mkC [] hd Tryz.func324 (by kernel_rfl) (nzg a0 a1) 0 [.pure (azf a0), pz a1] [] (fun r => .pure (.bool r)) (fun _ => []) (by kernel_rfl)
noncomputable def pz3 (a0 : az0) (a1 : Int) : T Bool :=
 .call (gzt (IntKind.i64.wrap (a1 - a0.Lo))) [] fun y1 =>
 .call (tzi a0 (IntKind.i64.wrap (a0.Lo + y1))) [] fun y2 =>
 .ret y2
noncomputable def gzs (a0 : az0) (a1 : Int) : CallS Bool :=
  mkC [] hd Tryz.func321 (by kernel_rfl) (pz3 a0 a1) 0 [.pure (azf a0), pz a1] [] (fun r => .pure (.bool r)) (fun _ => []) (by kernel_rfl)
noncomputable def rz4 (a0 : az0) (a1 : Int) (a2 : Int) : T az0 :=
 .call (bze a0) [] fun y4 =>
 .br (!y4)
 (.ret (⟨0, 0⟩ : az0))
 (.call (jzz a0) [] fun y8 =>
 .br (decide (y8 ≥ 65536))
 (.ret (⟨(-65536), 65536⟩ : az0))
 (.call (uz5 a0.Lo) [] fun y12 =>
 .call (uz5 a0.Hi) [] fun y13 =>
 .call (dzn y12 y13) [] fun y14 =>
 .cut 0 (fun (y23 : (Int × Int)) => ⟨[(3, pz a2), (4, .ptr 0 0), (8, .ptr 1 0), (9, .ptr 2 0)], [(0, .box [pz a0.Lo, pz a0.Hi]), (1, .box [pz 0, pz 0]), (2, .box [pz y23.1, pz y23.2])], [], 3⟩)
 (.call (gzs a0 a1) [] fun y25 =>
 .br y25
 (.call (bzw 65536) [] fun y26 =>
 .call (dzn y14 y26) [] fun y27 =>
 .ret (.out (y27.Lo, y27.Hi)))
 (.ret (.out (y14.Lo, y14.Hi)))) fun y23 =>
 .cut 0 (fun (y36 : (Int × Int)) => ⟨[(8, .ptr 0 0), (9, .ptr 1 0)], [(0, .box [pz 0, pz 0]), (1, .box [pz y36.1, pz y36.2])], [], 2⟩)
 (.call (gzs a0 a2) [] fun y38 =>
 .br y38
 (.call (bzw (-65536)) [] fun y39 =>
 .call (dzn (⟨y23.1, y23.2⟩ : az0) y39) [] fun y40 =>
 .ret (.out (y40.Lo, y40.Hi)))
 (.ret (.out (y23.1, y23.2)))) fun y36 =>
 .ret (⟨y36.1, y36.2⟩ : az0)))
noncomputable def xzs (a0 : az0) (a1 : Int) (a2 : Int) : CallS az0 :=
  mkC [] hd Tryz.func314 (by kernel_rfl) (rz4 a0 a1 a2) 0 [.pure (azf a0), .func 315 [] [], pz a1, pz a2] [] (fun r => .pure (azf r)) (fun _ => []) (by kernel_rfl)
noncomputable def lz6 (a0 : az0) : T az0 :=
 .call (xzs a0 0 32768) [] fun y1 =>
 .ret y1
noncomputable def rz2 (a0 : az0) : CallS az0 :=
  mkC [] hd Tryz.func309 (by kernel_rfl) (lz6 a0) 0 [.pure (azf a0)] [] (fun r => .pure (azf r)) (fun _ => []) (by kernel_rfl)
noncomputable def nz3 (a0 : az0) (a1 : Int) (a2 : Int) : T az0 :=
 .call (bze a0) [] fun y4 =>
 .br (!y4)
 (.ret (⟨0, 0⟩ : az0))
 (.call (jzz a0) [] fun y8 =>
 .br (decide (y8 ≥ 65536))
 (.ret (⟨(-65536), 65536⟩ : az0))
 (.call (pz1 a0.Lo) [] fun y12 =>
 .call (pz1 a0.Hi) [] fun y13 =>
 .call (dzn y12 y13) [] fun y14 =>
 .cut 0 (fun (y23 : (Int × Int)) => ⟨[(3, pz a2), (4, .ptr 0 0), (8, .ptr 1 0), (9, .ptr 2 0)], [(0, .box [pz a0.Lo, pz a0.Hi]), (1, .box [pz 0, pz 0]), (2, .box [pz y23.1, pz y23.2])], [], 3⟩)
 (.call (gzs a0 a1) [] fun y25 =>
 .br y25
 (.call (bzw 65536) [] fun y26 =>
 .call (dzn y14 y26) [] fun y27 =>
 .ret (.out (y27.Lo, y27.Hi)))
 (.ret (.out (y14.Lo, y14.Hi)))) fun y23 =>
 .cut 0 (fun (y36 : (Int × Int)) => ⟨[(8, .ptr 0 0), (9, .ptr 1 0)], [(0, .box [pz 0, pz 0]), (1, .box [pz y36.1, pz y36.2])], [], 2⟩)
 (.call (gzs a0 a2) [] fun y38 =>
 .br y38
 (.call (bzw (-65536)) [] fun y39 =>
 .call (dzn (⟨y23.1, y23.2⟩ : az0) y39) [] fun y40 =>
 .ret (.out (y40.Lo, y40.Hi)))
 (.ret (.out (y23.1, y23.2)))) fun y36 =>
 .ret (⟨y36.1, y36.2⟩ : az0)))
noncomputable def tzc (a0 : az0) (a1 : Int) (a2 : Int) : CallS az0 :=
  mkC [] hd Tryz.func314 (by kernel_rfl) (nz3 a0 a1 a2) 0 [.pure (azf a0), .func 316 [] [], pz a1, pz a2] [] (fun r => .pure (azf r)) (fun _ => []) (by kernel_rfl)
noncomputable def lz7 (a0 : az0) : T az0 :=
 .call (tzc a0 16384 49152) [] fun y1 =>
 .ret y1
noncomputable def rz3 (a0 : az0) : CallS az0 :=
  mkC [] hd Tryz.func310 (by kernel_rfl) (lz7 a0) 0 [.pure (azf a0)] [] (fun r => .pure (azf r)) (fun _ => []) (by kernel_rfl)
noncomputable def pzp (a0 : Int) (a1 : az0) : T ((az0 × az0 × az0) × (az0 × az0 × az0) × (az0 × az0 × az0)) :=
 .call (bze a1) [] fun y4 =>
 .br (!y4)
 (.ret (((⟨0, 0⟩ : az0), (⟨0, 0⟩ : az0), (⟨0, 0⟩ : az0)), ((⟨0, 0⟩ : az0), (⟨0, 0⟩ : az0), (⟨0, 0⟩ : az0)), ((⟨0, 0⟩ : az0), (⟨0, 0⟩ : az0), (⟨0, 0⟩ : az0))))
 (.call (rz2 (⟨a1.Lo, a1.Hi⟩ : az0)) [] fun y7 =>
 .call (rz3 (⟨a1.Lo, a1.Hi⟩ : az0)) [] fun y8 =>
 .call (jz4 y8) [] fun y12 =>
 .call (bzw 65536) [] fun y13 =>
 .call (bzw 0) [] fun y14 =>
 .br (a0 == 0)
 (.ret ((y13, y14, y14), (y14, y7, y12), (y14, y8, y7)))
 (.br (a0 == 1)
 (.ret ((y7, y14, y8), (y14, y13, y14), (y12, y14, y7)))
 (.br (a0 == 2)
 (.ret ((y7, y12, y14), (y8, y7, y14), (y14, y14, y13)))
 (.ret (((⟨0, 0⟩ : az0), (⟨0, 0⟩ : az0), (⟨0, 0⟩ : az0)), ((⟨0, 0⟩ : az0), (⟨0, 0⟩ : az0), (⟨0, 0⟩ : az0)), ((⟨0, 0⟩ : az0), (⟨0, 0⟩ : az0), (⟨0, 0⟩ : az0)))))))
noncomputable def vzq (a0 : Int) (a1 : az0) : CallS ((az0 × az0 × az0) × (az0 × az0 × az0) × (az0 × az0 × az0)) :=
  mkC [] hd Tryz.func304 (by kernel_rfl) (pzp a0 a1) 0 [pz a0, .pure (azf a1)] [] (fun r => .pure (czk r)) (fun _ => []) (by kernel_rfl)
noncomputable def uzo (a0 : Int) (a1 : az0) : T bz9 :=
 .call (vzq a0 (⟨a1.Lo, a1.Hi⟩ : az0)) [] fun y1 =>
 .call (pose_still_C) [] fun y2 =>
 .ret (⟨y1, y2⟩ : bz9)
noncomputable def Azf (a0 : Int) (a1 : az0) : CallS bz9 :=
  mkC [] hd Tryz.func292 (by kernel_rfl) (uzo a0 a1) 0 [pz a0, .pure (azf a1)] [] (fun r => .pure (czn r)) (fun _ => []) (by kernel_rfl)
noncomputable def uz9 (a0 : Int) (a1 : az0) : T bz9 :=
 .call (Azf a0 (⟨a1.Lo, a1.Hi⟩ : az0)) [] fun y1 =>
 .ret y1
noncomputable def zz6 (a0 : Int) (a1 : az0) : CallS bz9 :=
  mkC [] hd Tryz.func274 (by kernel_rfl) (uz9 a0 a1) 0 [pz a0, .pure (azf a1)] [] (fun r => .pure (czn r)) (fun _ => []) (by kernel_rfl)
noncomputable def hz2 (a0 : azs) (a1 : az0) : T bz9 :=
 .call (jz5 a0.Offset) [] fun y1 =>
 .call (mzq ((⟨y1.1.Lo, y1.1.Hi⟩ : az0), (⟨y1.2.1.Lo, y1.2.1.Hi⟩ : az0), (⟨y1.2.2.Lo, y1.2.2.Hi⟩ : az0))) [] fun y2 =>
 .split (((ezb a0.Kind).o).isSome)
 (.call (ezb a0.Kind) [] fun y9 =>
 .call (zz6 y9 (⟨a1.Lo, a1.Hi⟩ : az0)) [] fun y10 =>
 .call (gz3 (⟨y2.R, y2.T⟩ : bz9) y10) [] fun y11 =>
 .ret y11)
 (.split (((ezd a0.Kind).o).isSome)
 (.call (ezd a0.Kind) [] fun y6 =>
 .call (xzu y6 a1) [] fun y7 =>
 .call (gz3 y2 y7) [] fun y8 =>
 .ret y8)
 (.call (gzm a0.Kind) [] fun y3 =>
 .call (zz5 y3 a1) [] fun y4 =>
 .call (gz3 (⟨y2.R, y2.T⟩ : bz9) (⟨y4.R, y4.T⟩ : bz9)) [] fun y5 =>
 .ret y5))
noncomputable def mzj (a0 : azs) (a1 : az0) : CallS bz9 :=
  mkC [] hd Tryz.func235 (by kernel_rfl) (hz2 a0 a1) 0 [.pure (azh a0), .pure (azf a1)] [] (fun r => .pure (czn r)) (fun _ => []) (by kernel_rfl)
noncomputable def hz4 (a0 : azo) (a1 : (List az0)) : T (List bz9) :=
 .conv 1003 (Ezt 24 czn 266 (((a0.Joints.length : Nat) : Int)).toNat (⟨(((⟨0, 0⟩ : az0), (⟨0, 0⟩ : az0), (⟨0, 0⟩ : az0)), ((⟨0, 0⟩ : az0), (⟨0, 0⟩ : az0), (⟨0, 0⟩ : az0)), ((⟨0, 0⟩ : az0), (⟨0, 0⟩ : az0), (⟨0, 0⟩ : az0))), ((⟨0, 0⟩ : az0), (⟨0, 0⟩ : az0), (⟨0, 0⟩ : az0))⟩ : bz9)) <|
 .grd (0 ≤ ((a0.Joints.length : Nat) : Int) ∧ ((a0.Joints.length : Nat) : Int) ≤ ((a0.Joints.length : Nat) : Int) ∧ ((a0.Joints.length : Nat) : Int) ≤ 9223372036854775807 ∧ ((a0.Joints.length : Nat) : Int) * 192 ≤ 140737488355328) <|
 .loop (fun (x45 : ((List bz9) × Int)) => ⟨[(1, .pure (encL 2 azf a1)), (5, .vec 0), (13, .pure (encL 12 azh a0.Joints)), (14, pz ((a0.Joints.length : Nat) : Int)), (15, pz x45.2)], [(0, vecO 24 czn x45.1 266)], [], 1⟩)
 (.exit 0) (fun (y56 : (List bz9)) => ⟨[(5, .vec 0)], [(0, vecO 24 czn y56 266)], [], 1⟩)
 (fun x45 => .br (decide (x45.2 < ((a0.Joints.length : Nat) : Int)))
 (.cut 0 (fun (y63 : (List bz9)) => ⟨[(1, .pure (encL 2 azf a1)), (5, .vec 0), (13, .pure (encL 12 azh a0.Joints)), (14, pz ((a0.Joints.length : Nat) : Int)), (15, pz x45.2)], [(0, vecO 24 czn y63 266)], [], 1⟩)
 (.grd (0 ≤ x45.2 ∧ x45.2 < ((a0.Joints.length : Nat) : Int)) <|
 .grd (0 ≤ x45.2 ∧ x45.2 < ((a1.length : Nat) : Int)) <|
 .call (mzj (a0.Joints.getD ((x45.2).toNat) default) (a1.getD ((x45.2).toNat) default)) [] fun y65 =>
 .grd (0 ≤ x45.2 ∧ x45.2 < ((x45.1.length : Nat) : Int)) <|
 .conv 5009 (fzj 24 czn x45.1 266 ((x45.2).toNat) y65) <|
 .grd ((x45.2).toNat < x45.1.length ∧ 0 ≤ (x45.2).toNat) <|
 .br (((a0.Joints.getD ((x45.2).toNat) default).Parent) != (-1))
 (.grd (0 ≤ ((a0.Joints.getD ((x45.2).toNat) default).Parent) ∧ ((a0.Joints.getD ((x45.2).toNat) default).Parent) < (((x45.1.set ((x45.2).toNat) y65).length : Nat) : Int)) <|
 .grd (((a0.Joints.getD ((x45.2).toNat) default).Parent).toNat < (x45.1.set ((x45.2).toNat) y65).length) <|
 .grd (0 ≤ x45.2 ∧ x45.2 < (((x45.1.set ((x45.2).toNat) y65).length : Nat) : Int)) <|
 .grd ((x45.2).toNat < (x45.1.set ((x45.2).toNat) y65).length) <|
 .call (gz3 ((x45.1.set ((x45.2).toNat) y65).getD (((a0.Joints.getD ((x45.2).toNat) default).Parent).toNat) default) ((x45.1.set ((x45.2).toNat) y65).getD ((x45.2).toNat) default)) [] fun y66 =>
 .grd (0 ≤ x45.2 ∧ x45.2 < (((x45.1.set ((x45.2).toNat) y65).length : Nat) : Int)) <|
 .conv 7013 (fzj 24 czn (x45.1.set ((x45.2).toNat) y65) 266 ((x45.2).toNat) y66) <|
 .grd ((x45.2).toNat < (x45.1.set ((x45.2).toNat) y65).length ∧ 0 ≤ (x45.2).toNat) <|
 .ret (.out ((x45.1.set ((x45.2).toNat) y65).set ((x45.2).toNat) y66)))
 (.ret (.out (x45.1.set ((x45.2).toNat) y65)))) fun y63 =>
 .ret (.next (y63, (IntKind.i64.wrap (x45.2 + 1)))))
 (.ret (.out x45.1)))
 ((List.replicate (((a0.Joints.length : Nat) : Int)).toNat ((⟨(((⟨0, 0⟩ : az0), (⟨0, 0⟩ : az0), (⟨0, 0⟩ : az0)), ((⟨0, 0⟩ : az0), (⟨0, 0⟩ : az0), (⟨0, 0⟩ : az0)), ((⟨0, 0⟩ : az0), (⟨0, 0⟩ : az0), (⟨0, 0⟩ : az0))), ((⟨0, 0⟩ : az0), (⟨0, 0⟩ : az0), (⟨0, 0⟩ : az0))⟩ : bz9) : bz9)), 0) [] fun y56 =>
 .ret y56
noncomputable def mzl (a0 : azo) (a1 : (List az0)) : CallS (List bz9) :=
  mkC [] hd Tryz.func199 (by kernel_rfl) (hz4 a0 a1) 0 [.pure (czx a0), .pure (encL 2 azf a1)] [] (fun r => .pure (encL 24 czn r)) (fun _ => []) (by kernel_rfl)
noncomputable def qz4 (a0 : bz0) : T Bool :=
 .cut 2 (fun (y258 : Bool) => ⟨[(1, .ptr 0 0), (26, .pure (.bool y258))], [(0, .box [pz a0.Link, pz a0.Radius, .pure (encL 3 az2 a0.Points)])], [], 1⟩)
 (.br (decide (a0.Radius < 1))
 (.ret (.out true))
 (.br (decide (a0.Radius > 1048576))
 (.ret (.out true))
 (.br (decide (((a0.Points.length : Nat) : Int) < 1))
 (.ret (.out true))
 (.ret (.out (decide (((a0.Points.length : Nat) : Int) > 8))))))) fun y258 =>
 .br y258
 (.ret false)
 (.loop (fun (x431 : Int) => ⟨[(28, .pure (encL 3 az2 a0.Points)), (29, pz ((a0.Points.length : Nat) : Int)), (30, pz x431)], [], [], 0⟩)
 (.exit 0) (fun (_ : U0) => ⟨[], [], [], 0⟩)
 (fun x431 => .br (decide (x431 < ((a0.Points.length : Nat) : Int)))
 (.grd (0 ≤ x431 ∧ x431 < ((a0.Points.length : Nat) : Int)) <|
 .loop (fun (x503 : Int) => ⟨[(28, .pure (encL 3 az2 a0.Points)), (29, pz ((a0.Points.length : Nat) : Int)), (30, pz x431), (34, .pure (az2 (a0.Points.getD ((x431).toNat) default))), (35, pz x503)], [], [], 0⟩)
 (.exit 2) (fun (_ : U0) => ⟨[(28, .pure (encL 3 az2 a0.Points)), (29, pz ((a0.Points.length : Nat) : Int)), (30, pz x431)], [], [], 0⟩)
 (fun x503 => .br (decide (x503 < 3))
 (.grd (0 ≤ x503 ∧ x503 < ((3 : Nat) : Int)) <|
 .name 8000 ((([(a0.Points.getD ((x431).toNat) default).1, (a0.Points.getD ((x431).toNat) default).2.1, (a0.Points.getD ((x431).toNat) default).2.2] : List Int).getD (x503).toNat 0)) fun z515 =>
 .cut 0 (fun (y516 : Bool) => ⟨[(28, .pure (encL 3 az2 a0.Points)), (29, pz ((a0.Points.length : Nat) : Int)), (30, pz x431), (34, .pure (az2 (a0.Points.getD ((x431).toNat) default))), (35, pz x503), (43, .pure (.bool y516))], [], [], 0⟩)
 (.br (decide (z515 < (-4194304)))
 (.ret (.out true))
 (.ret (.out (decide (z515 > 4194304))))) fun y516 =>
 .br y516
 (.ret (.fin (.fin false)))
 (.ret (.next (IntKind.i64.wrap (x503 + 1)))))
 (.ret (.out .u)))
 0 [] fun _ =>
 .ret (.next (IntKind.i64.wrap (x431 + 1))))
 (.ret (.out .u)))
 0 [] fun _ =>
 .ret true)
noncomputable def wzb (a0 : bz0) : CallS Bool :=
  mkC [] hd Tryz.func239 (by kernel_rfl) (qz4 a0) 0 [.pure (azv a0)] [] (fun r => .pure (.bool r)) (fun _ => []) (by kernel_rfl)
noncomputable def rzw (a0 : bz9) (a1 : (az0 × az0 × az0)) : T (az0 × az0 × az0) :=
 .call (mzr a0) [] fun y1 =>
 .call (jz9 a1 y1.1 y1.2.1 y1.2.2.1 y1.2.2.2.1 y1.2.2.2.2.1 y1.2.2.2.2.2.1 y1.2.2.2.2.2.2.1 y1.2.2.2.2.2.2.2.1 y1.2.2.2.2.2.2.2.2.1 y1.2.2.2.2.2.2.2.2.2.1 y1.2.2.2.2.2.2.2.2.2.2.1 y1.2.2.2.2.2.2.2.2.2.2.2.1 y1.2.2.2.2.2.2.2.2.2.2.2.2.1 y1.2.2.2.2.2.2.2.2.2.2.2.2.2.1 y1.2.2.2.2.2.2.2.2.2.2.2.2.2.2.1 y1.2.2.2.2.2.2.2.2.2.2.2.2.2.2.2.1 y1.2.2.2.2.2.2.2.2.2.2.2.2.2.2.2.2.1 y1.2.2.2.2.2.2.2.2.2.2.2.2.2.2.2.2.2.1 y1.2.2.2.2.2.2.2.2.2.2.2.2.2.2.2.2.2.2.1 y1.2.2.2.2.2.2.2.2.2.2.2.2.2.2.2.2.2.2.2.1 y1.2.2.2.2.2.2.2.2.2.2.2.2.2.2.2.2.2.2.2.2.1 y1.2.2.2.2.2.2.2.2.2.2.2.2.2.2.2.2.2.2.2.2.2.1 y1.2.2.2.2.2.2.2.2.2.2.2.2.2.2.2.2.2.2.2.2.2.2.1 y1.2.2.2.2.2.2.2.2.2.2.2.2.2.2.2.2.2.2.2.2.2.2.2) [(0, 256)] fun y2 =>
 .ret y2.1
noncomputable def yz5 (a0 : bz9) (a1 : (az0 × az0 × az0)) : CallS (az0 × az0 × az0) :=
  mkC [] hd Tryz.func240 (by kernel_rfl) (rzw a0 a1) 0 [.pure (czn a0), .pure (az4 a1)] [] (fun r => .pure (az4 r)) (fun _ => []) (by kernel_rfl)
noncomputable def qz5 (a0 : bz0) (a1 : bz9) : T (List (az0 × az0 × az0)) :=
 .call (wzb a0) [] fun y4 =>
 .br (!y4)
 (.ret nl)
 (.conv 3003 (Ezt 6 az4 239 (((a0.Points.length : Nat) : Int)).toNat ((⟨0, 0⟩ : az0), (⟨0, 0⟩ : az0), (⟨0, 0⟩ : az0))) <|
 .grd (0 ≤ ((a0.Points.length : Nat) : Int) ∧ ((a0.Points.length : Nat) : Int) ≤ ((a0.Points.length : Nat) : Int) ∧ ((a0.Points.length : Nat) : Int) ≤ 9223372036854775807 ∧ ((a0.Points.length : Nat) : Int) * 48 ≤ 140737488355328) <|
 .loop (fun (x25 : ((List (az0 × az0 × az0)) × Int)) => ⟨[(3, .ptr 0 0), (5, .vec 1), (16, .pure (encL 3 az2 a0.Points)), (17, pz ((a0.Points.length : Nat) : Int)), (18, pz x25.2)], [(0, .box [pz a1.R.1.1.Lo, pz a1.R.1.1.Hi, pz a1.R.1.2.1.Lo, pz a1.R.1.2.1.Hi, pz a1.R.1.2.2.Lo, pz a1.R.1.2.2.Hi, pz a1.R.2.1.1.Lo, pz a1.R.2.1.1.Hi, pz a1.R.2.1.2.1.Lo, pz a1.R.2.1.2.1.Hi, pz a1.R.2.1.2.2.Lo, pz a1.R.2.1.2.2.Hi, pz a1.R.2.2.1.Lo, pz a1.R.2.2.1.Hi, pz a1.R.2.2.2.1.Lo, pz a1.R.2.2.2.1.Hi, pz a1.R.2.2.2.2.Lo, pz a1.R.2.2.2.2.Hi, pz a1.T.1.Lo, pz a1.T.1.Hi, pz a1.T.2.1.Lo, pz a1.T.2.1.Hi, pz a1.T.2.2.Lo, pz a1.T.2.2.Hi]), (1, vecO 6 az4 x25.1 239)], [], 2⟩)
 (.exit 0) (fun (y30 : (List (az0 × az0 × az0))) => ⟨[(5, .vec 0)], [(0, vecO 6 az4 y30 239)], [], 1⟩)
 (fun x25 => .br (decide (x25.2 < ((a0.Points.length : Nat) : Int)))
 (.grd (0 ≤ x25.2 ∧ x25.2 < ((a0.Points.length : Nat) : Int)) <|
 .call (jz5 (a0.Points.getD ((x25.2).toNat) default)) [] fun y33 =>
 .call (yz5 (⟨a1.R, a1.T⟩ : bz9) y33) [] fun y34 =>
 .grd (0 ≤ x25.2 ∧ x25.2 < ((x25.1.length : Nat) : Int)) <|
 .conv 7007 (fzj 6 az4 x25.1 239 ((x25.2).toNat) y34) <|
 .grd ((x25.2).toNat < x25.1.length ∧ 0 ≤ (x25.2).toNat) <|
 .ret (.next ((x25.1.set ((x25.2).toNat) y34), (IntKind.i64.wrap (x25.2 + 1)))))
 (.ret (.out x25.1)))
 ((List.replicate (((a0.Points.length : Nat) : Int)).toNat (((⟨0, 0⟩ : az0), (⟨0, 0⟩ : az0), (⟨0, 0⟩ : az0)) : (az0 × az0 × az0))), 0) [] fun y30 =>
 .ret y30)
noncomputable def wzc (a0 : bz0) (a1 : bz9) : CallS (List (az0 × az0 × az0)) :=
  mkC [] hd Tryz.func201 (by kernel_rfl) (qz5 a0 a1) 0 [.pure (azv a0), .pure (czn a1)] [] (fun r => .pure (encL 6 az4 r)) (fun _ => []) (by kernel_rfl)
set_option maxHeartbeats 8000000 in
set_option maxRecDepth 20000 in
noncomputable def gzf (a0 : azn) (a1 : (List az0)) : T (List (List (az0 × az0 × az0))) :=
 .cut 2 (fun (y12 : Bool) => ⟨[(1, .pure (encL 2 azf a1)), (2, .ptr 0 0), (19, .pure (.bool y12))], [(0, .box [.pure (encL 12 azh a0.Robot.Joints), .pure (encL 5 azl a0.Robot.Masses), .pure (encL 3 azv a0.Shapes), .pure (encL 2 bzp a0.Skips)])], [], 1⟩)
 (.call (mzk a0.Robot a1) [] fun y13 =>
 .br (!y13)
 (.ret (.out true))
 (.call (dzb (⟨a0.Robot, a0.Shapes, a0.Skips⟩ : azn)) [] fun y14 =>
 .ret (.out (y14 != 0)))) fun y12 =>
 .br y12
 (.ret nl)
 (.call (mzl a0.Robot a1) [] fun y16 =>
 .conv 4003 (Szh 1 (encL 6 az4) 182 (((a0.Shapes.length : Nat) : Int)).toNat nl (.lst 0 0 fun _ => .unk) (by kernel_rfl)) <|
 .grd (0 ≤ ((a0.Shapes.length : Nat) : Int) ∧ ((a0.Shapes.length : Nat) : Int) ≤ ((a0.Shapes.length : Nat) : Int) ∧ ((a0.Shapes.length : Nat) : Int) ≤ 9223372036854775807 ∧ ((a0.Shapes.length : Nat) : Int) * 24 ≤ 140737488355328) <|
 .loop (fun (x53 : ((List (List (az0 × az0 × az0))) × Int)) => ⟨[(5, .pure (encL 24 czn y16)), (6, .vec 0), (29, .pure (encL 3 azv a0.Shapes)), (30, pz ((a0.Shapes.length : Nat) : Int)), (31, pz x53.2)], [(0, vecO 1 (encL 6 az4) x53.1 182)], [], 1⟩)
 (.exit 0) (fun (y62 : (List (List (az0 × az0 × az0)))) => ⟨[(6, .vec 0)], [(0, vecO 1 (encL 6 az4) y62 182)], [], 1⟩)
 (fun x53 => .br (decide (x53.2 < ((a0.Shapes.length : Nat) : Int)))
 (.grd (0 ≤ x53.2 ∧ x53.2 < ((a0.Shapes.length : Nat) : Int)) <|
 .call (pose_Identity_C) [] fun y68 =>
 .cut 0 (fun (y69 : (Int × Int × Int × Int × Int × Int × Int × Int × Int × Int × Int × Int × Int × Int × Int × Int × Int × Int × Int × Int × Int × Int × Int × Int)) => ⟨[(5, .pure (encL 24 czn y16)), (6, .vec 0), (7, pz x53.2), (8, .ptr 1 0), (9, .ptr 2 0), (29, .pure (encL 3 azv a0.Shapes)), (30, pz ((a0.Shapes.length : Nat) : Int)), (31, pz x53.2)], [(0, vecO 1 (encL 6 az4) x53.1 182), (1, .box [pz ((a0.Shapes.getD ((x53.2).toNat) default).Link), pz ((a0.Shapes.getD ((x53.2).toNat) default).Radius), .pure (encL 3 az2 ((a0.Shapes.getD ((x53.2).toNat) default).Points))]), (2, .box [pz y69.1, pz y69.2.1, pz y69.2.2.1, pz y69.2.2.2.1, pz y69.2.2.2.2.1, pz y69.2.2.2.2.2.1, pz y69.2.2.2.2.2.2.1, pz y69.2.2.2.2.2.2.2.1, pz y69.2.2.2.2.2.2.2.2.1, pz y69.2.2.2.2.2.2.2.2.2.1, pz y69.2.2.2.2.2.2.2.2.2.2.1, pz y69.2.2.2.2.2.2.2.2.2.2.2.1, pz y69.2.2.2.2.2.2.2.2.2.2.2.2.1, pz y69.2.2.2.2.2.2.2.2.2.2.2.2.2.1, pz y69.2.2.2.2.2.2.2.2.2.2.2.2.2.2.1, pz y69.2.2.2.2.2.2.2.2.2.2.2.2.2.2.2.1, pz y69.2.2.2.2.2.2.2.2.2.2.2.2.2.2.2.2.1, pz y69.2.2.2.2.2.2.2.2.2.2.2.2.2.2.2.2.2.1, pz y69.2.2.2.2.2.2.2.2.2.2.2.2.2.2.2.2.2.2.1, pz y69.2.2.2.2.2.2.2.2.2.2.2.2.2.2.2.2.2.2.2.1, pz y69.2.2.2.2.2.2.2.2.2.2.2.2.2.2.2.2.2.2.2.2.1, pz y69.2.2.2.2.2.2.2.2.2.2.2.2.2.2.2.2.2.2.2.2.2.1, pz y69.2.2.2.2.2.2.2.2.2.2.2.2.2.2.2.2.2.2.2.2.2.2.1, pz y69.2.2.2.2.2.2.2.2.2.2.2.2.2.2.2.2.2.2.2.2.2.2.2])], [], 3⟩)
 (.br (((a0.Shapes.getD ((x53.2).toNat) default).Link) != (-1))
 (.grd (0 ≤ ((a0.Shapes.getD ((x53.2).toNat) default).Link) ∧ ((a0.Shapes.getD ((x53.2).toNat) default).Link) < ((y16.length : Nat) : Int)) <|
 .ret (.out ((y16.getD (((a0.Shapes.getD ((x53.2).toNat) default).Link).toNat) default).R.1.1.Lo, (y16.getD (((a0.Shapes.getD ((x53.2).toNat) default).Link).toNat) default).R.1.1.Hi, (y16.getD (((a0.Shapes.getD ((x53.2).toNat) default).Link).toNat) default).R.1.2.1.Lo, (y16.getD (((a0.Shapes.getD ((x53.2).toNat) default).Link).toNat) default).R.1.2.1.Hi, (y16.getD (((a0.Shapes.getD ((x53.2).toNat) default).Link).toNat) default).R.1.2.2.Lo, (y16.getD (((a0.Shapes.getD ((x53.2).toNat) default).Link).toNat) default).R.1.2.2.Hi, (y16.getD (((a0.Shapes.getD ((x53.2).toNat) default).Link).toNat) default).R.2.1.1.Lo, (y16.getD (((a0.Shapes.getD ((x53.2).toNat) default).Link).toNat) default).R.2.1.1.Hi, (y16.getD (((a0.Shapes.getD ((x53.2).toNat) default).Link).toNat) default).R.2.1.2.1.Lo, (y16.getD (((a0.Shapes.getD ((x53.2).toNat) default).Link).toNat) default).R.2.1.2.1.Hi, (y16.getD (((a0.Shapes.getD ((x53.2).toNat) default).Link).toNat) default).R.2.1.2.2.Lo, (y16.getD (((a0.Shapes.getD ((x53.2).toNat) default).Link).toNat) default).R.2.1.2.2.Hi, (y16.getD (((a0.Shapes.getD ((x53.2).toNat) default).Link).toNat) default).R.2.2.1.Lo, (y16.getD (((a0.Shapes.getD ((x53.2).toNat) default).Link).toNat) default).R.2.2.1.Hi, (y16.getD (((a0.Shapes.getD ((x53.2).toNat) default).Link).toNat) default).R.2.2.2.1.Lo, (y16.getD (((a0.Shapes.getD ((x53.2).toNat) default).Link).toNat) default).R.2.2.2.1.Hi, (y16.getD (((a0.Shapes.getD ((x53.2).toNat) default).Link).toNat) default).R.2.2.2.2.Lo, (y16.getD (((a0.Shapes.getD ((x53.2).toNat) default).Link).toNat) default).R.2.2.2.2.Hi, (y16.getD (((a0.Shapes.getD ((x53.2).toNat) default).Link).toNat) default).T.1.Lo, (y16.getD (((a0.Shapes.getD ((x53.2).toNat) default).Link).toNat) default).T.1.Hi, (y16.getD (((a0.Shapes.getD ((x53.2).toNat) default).Link).toNat) default).T.2.1.Lo, (y16.getD (((a0.Shapes.getD ((x53.2).toNat) default).Link).toNat) default).T.2.1.Hi, (y16.getD (((a0.Shapes.getD ((x53.2).toNat) default).Link).toNat) default).T.2.2.Lo, (y16.getD (((a0.Shapes.getD ((x53.2).toNat) default).Link).toNat) default).T.2.2.Hi)))
 (.ret (.out (y68.R.1.1.Lo, y68.R.1.1.Hi, y68.R.1.2.1.Lo, y68.R.1.2.1.Hi, y68.R.1.2.2.Lo, y68.R.1.2.2.Hi, y68.R.2.1.1.Lo, y68.R.2.1.1.Hi, y68.R.2.1.2.1.Lo, y68.R.2.1.2.1.Hi, y68.R.2.1.2.2.Lo, y68.R.2.1.2.2.Hi, y68.R.2.2.1.Lo, y68.R.2.2.1.Hi, y68.R.2.2.2.1.Lo, y68.R.2.2.2.1.Hi, y68.R.2.2.2.2.Lo, y68.R.2.2.2.2.Hi, y68.T.1.Lo, y68.T.1.Hi, y68.T.2.1.Lo, y68.T.2.1.Hi, y68.T.2.2.Lo, y68.T.2.2.Hi)))) fun y69 =>
 .call (wzc (a0.Shapes.getD ((x53.2).toNat) default) (⟨(((⟨y69.1, y69.2.1⟩ : az0), (⟨y69.2.2.1, y69.2.2.2.1⟩ : az0), (⟨y69.2.2.2.2.1, y69.2.2.2.2.2.1⟩ : az0)), ((⟨y69.2.2.2.2.2.2.1, y69.2.2.2.2.2.2.2.1⟩ : az0), (⟨y69.2.2.2.2.2.2.2.2.1, y69.2.2.2.2.2.2.2.2.2.1⟩ : az0), (⟨y69.2.2.2.2.2.2.2.2.2.2.1, y69.2.2.2.2.2.2.2.2.2.2.2.1⟩ : az0)), ((⟨y69.2.2.2.2.2.2.2.2.2.2.2.2.1, y69.2.2.2.2.2.2.2.2.2.2.2.2.2.1⟩ : az0), (⟨y69.2.2.2.2.2.2.2.2.2.2.2.2.2.2.1, y69.2.2.2.2.2.2.2.2.2.2.2.2.2.2.2.1⟩ : az0), (⟨y69.2.2.2.2.2.2.2.2.2.2.2.2.2.2.2.2.1, y69.2.2.2.2.2.2.2.2.2.2.2.2.2.2.2.2.2.1⟩ : az0))), ((⟨y69.2.2.2.2.2.2.2.2.2.2.2.2.2.2.2.2.2.2.1, y69.2.2.2.2.2.2.2.2.2.2.2.2.2.2.2.2.2.2.2.1⟩ : az0), (⟨y69.2.2.2.2.2.2.2.2.2.2.2.2.2.2.2.2.2.2.2.2.1, y69.2.2.2.2.2.2.2.2.2.2.2.2.2.2.2.2.2.2.2.2.2.1⟩ : az0), (⟨y69.2.2.2.2.2.2.2.2.2.2.2.2.2.2.2.2.2.2.2.2.2.2.1, y69.2.2.2.2.2.2.2.2.2.2.2.2.2.2.2.2.2.2.2.2.2.2.2⟩ : az0))⟩ : bz9)) [] fun y70 =>
 .grd (0 ≤ x53.2 ∧ x53.2 < ((x53.1.length : Nat) : Int)) <|
 .conv 11006 (fzj 1 (encL 6 az4) x53.1 182 ((x53.2).toNat) y70) <|
 .grd ((x53.2).toNat < x53.1.length ∧ 0 ≤ (x53.2).toNat) <|
 .ret (.next ((x53.1.set ((x53.2).toNat) y70), (IntKind.i64.wrap (x53.2 + 1)))))
 (.ret (.out x53.1)))
 ((List.replicate (((a0.Shapes.length : Nat) : Int)).toNat (nl : (List (az0 × az0 × az0)))), 0) [] fun y62 =>
 .ret y62)
noncomputable def lzm (a0 : azn) (a1 : (List az0)) : CallS (List (List (az0 × az0 × az0))) :=
  mkC [] hd Tryz.func167 (by kernel_rfl) (gzf a0 a1) 0 [.pure (ezr a0), .pure (encL 2 azf a1)] [] (fun r => .pure (encL 1 (encL 6 az4) r)) (fun _ => []) (by kernel_rfl)
noncomputable def jzu (a0 : azn) (a1 : (List az0)) : T (bzq × Bool) :=
 .cut 2 (fun (y7 : Bool) => ⟨[(1, .pure (encL 2 azf a1)), (2, .ptr 0 0), (4, .ptr 1 0), (19, .pure (.bool y7))], [(0, .box [.pure (encL 12 azh a0.Robot.Joints), .pure (encL 5 azl a0.Robot.Masses), .pure (encL 3 azv a0.Shapes), .pure (encL 2 bzp a0.Skips)]), (1, .box [.vec 2, .vec 3, .vec 4]), (2, .nilv), (3, .nilv), (4, .nilv)], [], 5⟩)
 (.call (dzb a0) [] fun y8 =>
 .br (y8 != 0)
 (.ret (.out true))
 (.ret (.out (((a1.length : Nat) : Int) != ((a0.Robot.Joints.length : Nat) : Int))))) fun y7 =>
 .br y7
 (.ret ((⟨nl, nl, nl⟩ : bzq), false))
 (.loop (fun (x29 : Int) => ⟨[(1, .pure (encL 2 azf a1)), (2, .ptr 0 0), (4, .ptr 1 0), (21, .pure (encL 2 azf a1)), (22, pz ((a1.length : Nat) : Int)), (23, pz x29)], [(0, .box [.pure (encL 12 azh a0.Robot.Joints), .pure (encL 5 azl a0.Robot.Masses), .pure (encL 3 azv a0.Shapes), .pure (encL 2 bzp a0.Skips)]), (1, .box [.vec 2, .vec 3, .vec 4]), (2, .nilv), (3, .nilv), (4, .nilv)], [], 5⟩)
 (.exit 0) (fun (_ : U0) => ⟨[(1, .pure (encL 2 azf a1)), (2, .ptr 0 0), (4, .ptr 1 0)], [(0, .box [.pure (encL 12 azh a0.Robot.Joints), .pure (encL 5 azl a0.Robot.Masses), .pure (encL 3 azv a0.Shapes), .pure (encL 2 bzp a0.Skips)]), (1, .box [.vec 2, .vec 3, .vec 4]), (2, .nilv), (3, .nilv), (4, .nilv)], [], 5⟩)
 (fun x29 => .br (decide (x29 < ((a1.length : Nat) : Int)))
 (.grd (0 ≤ x29 ∧ x29 < ((a1.length : Nat) : Int)) <|
 .call (bze (a1.getD ((x29).toNat) default)) [] fun y38 =>
 .br (!y38)
 (.ret (.fin ((⟨nl, nl, nl⟩ : bzq), false)))
 (.ret (.next (IntKind.i64.wrap (x29 + 1)))))
 (.ret (.out .u)))
 0 [] fun _ =>
 .call (wz6 a0) [] fun y39 =>
 .call (lzm (⟨a0.Robot, a0.Shapes, a0.Skips⟩ : azn) a1) [] fun y40 =>
 .ret ((⟨a0.Shapes, y39, y40⟩ : bzq), true))
noncomputable def qze (a0 : azn) (a1 : (List az0)) : CallS (bzq × Bool) :=
  mkC [] hd Tryz.func137 (by kernel_rfl) (jzu a0 a1) 0 [.pure (ezr a0), .pure (encL 2 azf a1)] [] (fun r => .tup [.pure (ozh r.1), .pure (.bool r.2)]) (fun _ => []) (by kernel_rfl)
noncomputable def pz5 (a0 : bzq) (a1 : Int) : T ez6 :=
 .grd (0 ≤ a1 ∧ a1 < ((a0.pairs.length : Nat) : Int)) <|
 .grd (0 ≤ ((a0.pairs.getD ((a1).toNat) default).A) ∧ ((a0.pairs.getD ((a1).toNat) default).A) < ((a0.points.length : Nat) : Int)) <|
 .grd (0 ≤ ((a0.pairs.getD ((a1).toNat) default).A) ∧ ((a0.pairs.getD ((a1).toNat) default).A) < ((a0.shapes.length : Nat) : Int)) <|
 .grd (0 ≤ ((a0.pairs.getD ((a1).toNat) default).B) ∧ ((a0.pairs.getD ((a1).toNat) default).B) < ((a0.points.length : Nat) : Int)) <|
 .grd (0 ≤ ((a0.pairs.getD ((a1).toNat) default).B) ∧ ((a0.pairs.getD ((a1).toNat) default).B) < ((a0.shapes.length : Nat) : Int)) <|
 .ret (⟨(a0.points.getD (((a0.pairs.getD ((a1).toNat) default).A).toNat) default), (a0.points.getD (((a0.pairs.getD ((a1).toNat) default).B).toNat) default), (a0.shapes.getD (((a0.pairs.getD ((a1).toNat) default).A).toNat) default).Radius, (a0.shapes.getD (((a0.pairs.getD ((a1).toNat) default).B).toNat) default).Radius⟩ : ez6)
noncomputable def vz7 (a0 : bzq) (a1 : Int) : CallS ez6 :=
  mkC [] hd Tryz.func138 (by kernel_rfl) (pz5 a0 a1) 0 [.pure (ozh a0), pz a1] [] (fun r => .pure (uzc r)) (fun _ => []) (by kernel_rfl)
noncomputable def tz7 (a0 : (List (az0 × az0 × az0))) (a1 : Int) (a2 : (List (az0 × az0 × az0))) (a3 : Int) (a4 : (List (Int × Int × Int))) : T ((List (az0 × az0 × az0)) × (List (az0 × az0 × az0)) × Int × Int × (List (Int × Int × Int))) :=
 .ret (a0, a2, a1, a3, a4)
noncomputable def fzw (a0 : (List (az0 × az0 × az0))) (a1 : Int) (a2 : (List (az0 × az0 × az0))) (a3 : Int) (a4 : (List (Int × Int × Int))) : CallS ((List (az0 × az0 × az0)) × (List (az0 × az0 × az0)) × Int × Int × (List (Int × Int × Int))) :=
  mkC [] hd Tryz.func169 (by kernel_rfl) (tz7 a0 a1 a2 a3 a4) 0 [.pure (encL 6 az4 a0), pz a1, .pure (encL 6 az4 a2), pz a3, .pure (encL 3 az2 a4)] [] (fun _ => .func 202 [] [.ptr 0 0, .ptr 1 0, .ptr 2 0, .ptr 3 0, .ptr 4 0]) (fun r => [(0, .box [.pure (encL 6 az4 r.1)]), (1, .box [.pure (encL 6 az4 r.2.1)]), (2, .box [pz r.2.2.1]), (3, .box [pz r.2.2.2.1]), (4, .box [.pure (encL 3 az2 r.2.2.2.2)])]) (by kernel_rfl)
noncomputable def Gz3 (a0 : (List (az0 × az0 × az0))) (a1 : Int) (a2 : (List (az0 × az0 × az0))) (a3 : Int) : T czf :=
 .ret (⟨(⟨a0, a1⟩ : dzw), (⟨a2, a3⟩ : dzw)⟩ : czf)
noncomputable def yz4 (a0 : (List (az0 × az0 × az0))) (a1 : Int) (a2 : (List (az0 × az0 × az0))) (a3 : Int) : CallS czf :=
  mkC [] hd Tryz.func208 (by kernel_rfl) (Gz3 a0 a1 a2 a3) 0 [.pure (encL 6 az4 a0), pz a1, .pure (encL 6 az4 a2), pz a3] [] (fun r => .pure (lzg r)) (fun _ => []) (by kernel_rfl)
noncomputable def oz6 (a0 : (List (az0 × az0 × az0))) : T Bool :=
 .cut 2 (fun (y2 : Bool) => ⟨[(0, .pure (encL 6 az4 a0)), (14, .pure (.bool y2))], [], [], 0⟩)
 (.br (decide (((a0.length : Nat) : Int) < 1))
 (.ret (.out true))
 (.ret (.out (decide (((a0.length : Nat) : Int) > 8))))) fun y2 =>
 .br y2
 (.ret false)
 (.loop (fun (x87 : Int) => ⟨[(15, .pure (encL 6 az4 a0)), (16, pz ((a0.length : Nat) : Int)), (17, pz x87)], [], [], 0⟩)
 (.exit 0) (fun (_ : U0) => ⟨[], [], [], 0⟩)
 (fun x87 => .br (decide (x87 < ((a0.length : Nat) : Int)))
 (.grd (0 ≤ x87 ∧ x87 < ((a0.length : Nat) : Int)) <|
 .unroll 4 <|
 .known true <|
 .ix 0 3 rfl <|
 .cut 0 (fun (y124 : Bool) => ⟨[(15, .pure (encL 6 az4 a0)), (16, pz ((a0.length : Nat) : Int)), (17, pz x87), (21, .pure (az4 (a0.getD ((x87).toNat) default))), (22, pz 0), (39, .pure (.bool y124))], [], [], 0⟩)
 (.br (decide (((a0.getD ((x87).toNat) default).1.Lo) < (-268435456)))
 (.ret (.out true))
 (.br (decide (((a0.getD ((x87).toNat) default).1.Lo) > ((a0.getD ((x87).toNat) default).1.Hi)))
 (.ret (.out true))
 (.ret (.out (decide (((a0.getD ((x87).toNat) default).1.Hi) > 268435456)))))) fun y124 =>
 .br y124
 (.ret (.fin false))
 (.lit 11000 (1) <|
 .known true <|
 .ix 1 3 rfl <|
 .cut 0 (fun (y126 : Bool) => ⟨[(15, .pure (encL 6 az4 a0)), (16, pz ((a0.length : Nat) : Int)), (17, pz x87), (21, .pure (az4 (a0.getD ((x87).toNat) default))), (22, pz 1), (39, .pure (.bool y126))], [], [], 0⟩)
 (.br (decide (((a0.getD ((x87).toNat) default).2.1.Lo) < (-268435456)))
 (.ret (.out true))
 (.br (decide (((a0.getD ((x87).toNat) default).2.1.Lo) > ((a0.getD ((x87).toNat) default).2.1.Hi)))
 (.ret (.out true))
 (.ret (.out (decide (((a0.getD ((x87).toNat) default).2.1.Hi) > 268435456)))))) fun y126 =>
 .br y126
 (.ret (.fin false))
 (.lit 11000 (2) <|
 .known true <|
 .ix 2 3 rfl <|
 .cut 0 (fun (y128 : Bool) => ⟨[(15, .pure (encL 6 az4 a0)), (16, pz ((a0.length : Nat) : Int)), (17, pz x87), (21, .pure (az4 (a0.getD ((x87).toNat) default))), (22, pz 2), (39, .pure (.bool y128))], [], [], 0⟩)
 (.br (decide (((a0.getD ((x87).toNat) default).2.2.Lo) < (-268435456)))
 (.ret (.out true))
 (.br (decide (((a0.getD ((x87).toNat) default).2.2.Lo) > ((a0.getD ((x87).toNat) default).2.2.Hi)))
 (.ret (.out true))
 (.ret (.out (decide (((a0.getD ((x87).toNat) default).2.2.Hi) > 268435456)))))) fun y128 =>
 .br y128
 (.ret (.fin false))
 (.lit 11000 (3) <|
 .known false <|
 .ret (.next (IntKind.i64.wrap (x87 + 1)))))))
 (.ret (.out .u)))
 0 [] fun _ =>
 .ret true)
noncomputable def cze (a0 : (List (az0 × az0 × az0))) : CallS Bool :=
  mkC [] hd Tryz.func174 (by kernel_rfl) (oz6 a0) 0 [.pure (encL 6 az4 a0)] [] (fun r => .pure (.bool r)) (fun _ => []) (by kernel_rfl)
noncomputable def szm (a0 : dzw) : T Bool :=
 .call (cze a0.points) [] fun y1 =>
 .br y1
 (.br (decide (0 ≤ a0.radius))
 (.ret (decide (a0.radius ≤ 1048576)))
 (.ret false))
 (.ret false)
noncomputable def szl (a0 : dzw) : CallS Bool :=
  mkC [] hd Tryz.func265 (by kernel_rfl) (szm a0) 0 [.pure (Bzb a0)] [] (fun r => .pure (.bool r)) (fun _ => []) (by kernel_rfl)
noncomputable def izx (a0 : (Int × Int × Int)) : T Bool :=
 .loop (fun (x13 : Int) => ⟨[(5, .pure (az2 a0)), (6, pz x13)], [], [], 0⟩)
 (.exit 0) (fun (_ : U0) => ⟨[], [], [], 0⟩)
 (fun x13 => .br (decide (x13 < 3))
 (.grd (0 ≤ x13 ∧ x13 < ((3 : Nat) : Int)) <|
 .cut 0 (fun (y18 : Bool) => ⟨[(5, .pure (az2 a0)), (6, pz x13), (14, .pure (.bool y18))], [], [], 0⟩)
 (.br (decide ((([a0.1, a0.2.1, a0.2.2] : List Int).getD (x13).toNat 0) < (-16384)))
 (.ret (.out true))
 (.ret (.out (decide ((([a0.1, a0.2.1, a0.2.2] : List Int).getD (x13).toNat 0) > 16384))))) fun y18 =>
 .br y18
 (.ret (.fin false))
 (.ret (.next (IntKind.i64.wrap (x13 + 1)))))
 (.ret (.out .u)))
 0 [] fun _ =>
 .ret true
noncomputable def izw (a0 : (Int × Int × Int)) : CallS Bool :=
  mkC [] hd Tryz.func242 (by kernel_rfl) (izx a0) 0 [.pure (az2 a0)] [] (fun r => .pure (.bool r)) (fun _ => []) (by kernel_rfl)
noncomputable def kzn (a0 : (Int × Int × Int)) : T Bool :=
 .call (izw a0) [] fun y1 =>
 .br y1
 (.ret (!((a0.1 == 0) && ((a0.2.1 == 0) && ((a0.2.2 == 0) && true)))))
 (.ret false)
noncomputable def dzu (a0 : (Int × Int × Int)) : CallS Bool :=
  mkC [] hd Tryz.func204 (by kernel_rfl) (kzn a0) 0 [.pure (az2 a0)] [] (fun r => .pure (.bool r)) (fun _ => []) (by kernel_rfl)
noncomputable def wzm (a0 : (Int × Int × Int)) : T (Int × Int × Int) :=
 .ret (a0.1, a0.2.1, a0.2.2)
noncomputable def mzy (a0 : (Int × Int × Int)) : CallS (Int × Int × Int) :=
  mkC [] hd Tryz.func284 (by kernel_rfl) (wzm a0) 0 [.pure (az2 a0)] [] (fun _ => .agg [.func 296 [] [.ptr 0 0], .func 298 [] []]) (fun r => [(0, .box [pz r.1, pz r.2.1, pz r.2.2])]) (by kernel_rfl)
noncomputable def qza (a0 : (Int × Int × Int)) (a1 : (az0 × az0 × az0)) : T (Int × Int) :=
 .unroll 4 <|
 .known true <|
 .ix 0 3 rfl <|
 .ix 0 3 rfl <|
 .ix 0 3 rfl <|
 .name 6004 ((IntKind.i64.wrap (0 + (min (IntKind.i64.wrap (a0.1 * a1.1.Lo)) (IntKind.i64.wrap (a0.1 * a1.1.Hi)))))) fun z79 =>
 .name 7004 ((IntKind.i64.wrap (0 + (max (IntKind.i64.wrap (a0.1 * a1.1.Lo)) (IntKind.i64.wrap (a0.1 * a1.1.Hi)))))) fun z80 =>
 .lit 8000 (1) <|
 .known true <|
 .ix 1 3 rfl <|
 .ix 1 3 rfl <|
 .ix 1 3 rfl <|
 .name 6004 ((IntKind.i64.wrap (z79 + (min (IntKind.i64.wrap (a0.2.1 * a1.2.1.Lo)) (IntKind.i64.wrap (a0.2.1 * a1.2.1.Hi)))))) fun z85 =>
 .name 7004 ((IntKind.i64.wrap (z80 + (max (IntKind.i64.wrap (a0.2.1 * a1.2.1.Lo)) (IntKind.i64.wrap (a0.2.1 * a1.2.1.Hi)))))) fun z86 =>
 .lit 8000 (2) <|
 .known true <|
 .ix 2 3 rfl <|
 .ix 2 3 rfl <|
 .ix 2 3 rfl <|
 .name 6004 ((IntKind.i64.wrap (z85 + (min (IntKind.i64.wrap (a0.2.2 * a1.2.2.Lo)) (IntKind.i64.wrap (a0.2.2 * a1.2.2.Hi)))))) fun z91 =>
 .name 7004 ((IntKind.i64.wrap (z86 + (max (IntKind.i64.wrap (a0.2.2 * a1.2.2.Lo)) (IntKind.i64.wrap (a0.2.2 * a1.2.2.Hi)))))) fun z92 =>
 .lit 8000 (3) <|
 .known false <|
 .ret (z91, z92)
noncomputable def qz9 (a0 : (Int × Int × Int)) (a1 : (az0 × az0 × az0)) : CallS (Int × Int) :=
  mkC [] hd Tryz.func297 (by kernel_rfl) (qza a0 a1) 0 [.pure (az2 a0), .pure (az4 a1)] [] (fun r => .tup [pz r.1, pz r.2]) (fun _ => []) (by kernel_rfl)
noncomputable def fzz (a0 : (az0 × az0 × az0)) (a1 : Int) (a2 : Int) (a3 : Int) : T (Int × Int × Int × Int) :=
 .call (qz9 (a1, a2, a3) ((⟨a0.1.Lo, a0.1.Hi⟩ : az0), (⟨a0.2.1.Lo, a0.2.1.Hi⟩ : az0), (⟨a0.2.2.Lo, a0.2.2.Hi⟩ : az0))) [] fun y2 =>
 .ret (y2.1, a1, a2, a3)
noncomputable def kzs (a0 : (az0 × az0 × az0)) (a1 : Int) (a2 : Int) (a3 : Int) : CallS (Int × Int × Int × Int) :=
  mkC [] hd Tryz.func296 (by kernel_rfl) (fzz a0 a1 a2 a3) 1 [.pure (az4 a0), .ptr 0 0] [(0, .box [pz a1, pz a2, pz a3])] (fun r => pz r.1) (fun r => [(0, .box [pz r.2.1, pz r.2.2.1, pz r.2.2.2])]) (by kernel_rfl)
noncomputable def tza (a0 : Int) (a1 : Int) : T Bool :=
 .ret (decide (a0 < a1))
noncomputable def kzt (a0 : Int) (a1 : Int) : CallS Bool :=
  mkC [] hd Tryz.func298 (by kernel_rfl) (tza a0 a1) 0 [pz a0, pz a1] [] (fun r => .pure (.bool r)) (fun _ => []) (by kernel_rfl)
noncomputable def jzx (a0 : Int) (a1 : Int) (a2 : Int) (a3 : (List (az0 × az0 × az0))) : T (Int × Int × Int × Int × Int) :=
 .loop (fun (x91 : (Int × Int × Int × Int × Int × Int)) => ⟨[(2, .ptr 1 0), (6, pz x91.2.2.2.1), (7, pz x91.2.2.2.2.1), (11, .pure (encL 6 az4 a3)), (12, pz ((a3.length : Nat) : Int)), (13, pz x91.2.2.2.2.2)], [(0, .box [pz x91.1, pz x91.2.1, pz x91.2.2.1]), (1, .box [.func 296 [] [.ptr 0 0], .func 298 [] []])], [], 2⟩)
 (.exit 0) (fun (y111 : (Int × Int × Int × Int × Int)) => ⟨[(6, pz y111.2.2.2.1), (7, pz y111.2.2.2.2)], [(0, .box [pz y111.1, pz y111.2.1, pz y111.2.2.1])], [], 1⟩)
 (fun x91 => .br (decide (x91.2.2.2.2.2 < ((a3.length : Nat) : Int)))
 (.cut 0 (fun (y124 : (Int × Int × Int × Int × Int)) => ⟨[(2, .ptr 1 0), (6, pz y124.2.2.2.1), (7, pz y124.2.2.2.2), (11, .pure (encL 6 az4 a3)), (12, pz ((a3.length : Nat) : Int)), (13, pz x91.2.2.2.2.2)], [(0, .box [pz y124.1, pz y124.2.1, pz y124.2.2.1]), (1, .box [.func 296 [] [.ptr 0 0], .func 298 [] []])], [], 2⟩)
 (.grd (0 ≤ x91.2.2.2.2.2 ∧ x91.2.2.2.2.2 < ((a3.length : Nat) : Int)) <|
 .call (kzs (a3.getD ((x91.2.2.2.2.2).toNat) default) x91.1 x91.2.1 x91.2.2.1) [(0, 0)] fun y126 =>
 .cut 0 (fun (y129 : Bool) => ⟨[(2, .ptr 1 0), (6, pz x91.2.2.2.1), (7, pz x91.2.2.2.2.1), (8, pz x91.2.2.2.2.2), (10, pz y126.1), (11, .pure (encL 6 az4 a3)), (12, pz ((a3.length : Nat) : Int)), (13, pz x91.2.2.2.2.2), (30, .pure (.bool y129))], [(0, .box [pz y126.2.1, pz y126.2.2.1, pz y126.2.2.2]), (1, .box [.func 296 [] [.ptr 0 0], .func 298 [] []])], [], 2⟩)
 (.br (x91.2.2.2.2.2 == 0)
 (.ret (.out true))
 (.call (kzt y126.1 x91.2.2.2.1) [] fun y130 =>
 .ret (.out y130))) fun y129 =>
 .br y129
 (.ret (.out (y126.2.1, y126.2.2.1, y126.2.2.2, y126.1, x91.2.2.2.2.2)))
 (.ret (.out (y126.2.1, y126.2.2.1, y126.2.2.2, x91.2.2.2.1, x91.2.2.2.2.1)))) fun y124 =>
 .ret (.next (y124.1, y124.2.1, y124.2.2.1, y124.2.2.2.1, y124.2.2.2.2, (IntKind.i64.wrap (x91.2.2.2.2.2 + 1)))))
 (.ret (.out (x91.1, x91.2.1, x91.2.2.1, x91.2.2.2.1, x91.2.2.2.2.1))))
 (a0, a1, a2, 0, 0, 0) [] fun y111 =>
 .ret (y111.2.2.2.1, y111.2.2.2.2, y111.1, y111.2.1, y111.2.2.1)
noncomputable def qzh (a0 : Int) (a1 : Int) (a2 : Int) (a3 : (List (az0 × az0 × az0))) : CallS (Int × Int × Int × Int × Int) :=
  mkC [] hd Tryz.func285 (by kernel_rfl) (jzx a0 a1 a2 a3) 1 [.agg [.func 296 [] [.ptr 0 0], .func 298 [] []], .pure (encL 6 az4 a3)] [(0, .box [pz a0, pz a1, pz a2])] (fun r => .tup [pz r.1, pz r.2.1]) (fun r => [(0, .box [pz r.2.2.1, pz r.2.2.2.1, pz r.2.2.2.2])]) (by kernel_rfl)
noncomputable def mz5 (a0 : (Int × Int × Int)) (a1 : (List (az0 × az0 × az0))) : T (Int × Int × Bool) :=
 .cut 2 (fun (y12 : Bool) => ⟨[(1, .pure (encL 6 az4 a1)), (2, .ptr 0 0), (16, .pure (.bool y12))], [(0, .box [pz a0.1, pz a0.2.1, pz a0.2.2])], [], 1⟩)
 (.call (dzu a0) [] fun y13 =>
 .br (!y13)
 (.ret (.out true))
 (.call (cze a1) [] fun y14 =>
 .ret (.out (!y14)))) fun y12 =>
 .br y12
 (.ret (0, 0, false))
 (.call (mzy (a0.1, a0.2.1, a0.2.2)) [] fun y17 =>
 .call (qzh y17.1 y17.2.1 y17.2.2 a1) [(0, 65)] fun y18 =>
 .ret (y18.1, y18.2.1, true))
noncomputable def szo (a0 : (Int × Int × Int)) (a1 : (List (az0 × az0 × az0))) : CallS (Int × Int × Bool) :=
  mkC [] hd Tryz.func266 (by kernel_rfl) (mz5 a0 a1) 0 [.pure (az2 a0), .pure (encL 6 az4 a1)] [] (fun r => .tup [pz r.1, pz r.2.1, .pure (.bool r.2.2)]) (fun _ => []) (by kernel_rfl)
noncomputable def yzt (a0 : (Int × Int × Int)) : T (Int × Int × Int) :=
 .ret (a0.1, a0.2.1, a0.2.2)
noncomputable def qzy (a0 : (Int × Int × Int)) : CallS (Int × Int × Int) :=
  mkC [] hd Tryz.func286 (by kernel_rfl) (yzt a0) 0 [.pure (az2 a0)] [] (fun _ => .agg [.func 299 [] [.ptr 0 0], .func 300 [] []]) (fun r => [(0, .box [pz r.1, pz r.2.1, pz r.2.2])]) (by kernel_rfl)
noncomputable def hzy (a0 : (az0 × az0 × az0)) (a1 : Int) (a2 : Int) (a3 : Int) : T (Int × Int × Int × Int) :=
 .call (qz9 (a1, a2, a3) a0) [] fun y2 =>
 .ret (y2.2, a1, a2, a3)
noncomputable def mzz (a0 : (az0 × az0 × az0)) (a1 : Int) (a2 : Int) (a3 : Int) : CallS (Int × Int × Int × Int) :=
  mkC [] hd Tryz.func299 (by kernel_rfl) (hzy a0 a1 a2 a3) 1 [.pure (az4 a0), .ptr 0 0] [(0, .box [pz a1, pz a2, pz a3])] (fun r => pz r.1) (fun r => [(0, .box [pz r.2.1, pz r.2.2.1, pz r.2.2.2])]) (by kernel_rfl)
noncomputable def wzn (a0 : Int) (a1 : Int) : T Bool :=
 .ret (decide (a0 > a1))
noncomputable def nz0 (a0 : Int) (a1 : Int) : CallS Bool :=
  mkC [] hd Tryz.func300 (by kernel_rfl) (wzn a0 a1) 0 [pz a0, pz a1] [] (fun r => .pure (.bool r)) (fun _ => []) (by kernel_rfl)
noncomputable def gzv (a0 : Int) (a1 : Int) (a2 : Int) (a3 : (List (az0 × az0 × az0))) : T (Int × Int × Int × Int × Int) :=
 .loop (fun (x91 : (Int × Int × Int × Int × Int × Int)) => ⟨[(2, .ptr 1 0), (6, pz x91.2.2.2.1), (7, pz x91.2.2.2.2.1), (11, .pure (encL 6 az4 a3)), (12, pz ((a3.length : Nat) : Int)), (13, pz x91.2.2.2.2.2)], [(0, .box [pz x91.1, pz x91.2.1, pz x91.2.2.1]), (1, .box [.func 299 [] [.ptr 0 0], .func 300 [] []])], [], 2⟩)
 (.exit 0) (fun (y111 : (Int × Int × Int × Int × Int)) => ⟨[(6, pz y111.2.2.2.1), (7, pz y111.2.2.2.2)], [(0, .box [pz y111.1, pz y111.2.1, pz y111.2.2.1])], [], 1⟩)
 (fun x91 => .br (decide (x91.2.2.2.2.2 < ((a3.length : Nat) : Int)))
 (.cut 0 (fun (y124 : (Int × Int × Int × Int × Int)) => ⟨[(2, .ptr 1 0), (6, pz y124.2.2.2.1), (7, pz y124.2.2.2.2), (11, .pure (encL 6 az4 a3)), (12, pz ((a3.length : Nat) : Int)), (13, pz x91.2.2.2.2.2)], [(0, .box [pz y124.1, pz y124.2.1, pz y124.2.2.1]), (1, .box [.func 299 [] [.ptr 0 0], .func 300 [] []])], [], 2⟩)
 (.grd (0 ≤ x91.2.2.2.2.2 ∧ x91.2.2.2.2.2 < ((a3.length : Nat) : Int)) <|
 .call (mzz (a3.getD ((x91.2.2.2.2.2).toNat) default) x91.1 x91.2.1 x91.2.2.1) [(0, 0)] fun y126 =>
 .cut 0 (fun (y129 : Bool) => ⟨[(2, .ptr 1 0), (6, pz x91.2.2.2.1), (7, pz x91.2.2.2.2.1), (8, pz x91.2.2.2.2.2), (10, pz y126.1), (11, .pure (encL 6 az4 a3)), (12, pz ((a3.length : Nat) : Int)), (13, pz x91.2.2.2.2.2), (30, .pure (.bool y129))], [(0, .box [pz y126.2.1, pz y126.2.2.1, pz y126.2.2.2]), (1, .box [.func 299 [] [.ptr 0 0], .func 300 [] []])], [], 2⟩)
 (.br (x91.2.2.2.2.2 == 0)
 (.ret (.out true))
 (.call (nz0 y126.1 x91.2.2.2.1) [] fun y130 =>
 .ret (.out y130))) fun y129 =>
 .br y129
 (.ret (.out (y126.2.1, y126.2.2.1, y126.2.2.2, y126.1, x91.2.2.2.2.2)))
 (.ret (.out (y126.2.1, y126.2.2.1, y126.2.2.2, x91.2.2.2.1, x91.2.2.2.2.1)))) fun y124 =>
 .ret (.next (y124.1, y124.2.1, y124.2.2.1, y124.2.2.2.1, y124.2.2.2.2, (IntKind.i64.wrap (x91.2.2.2.2.2 + 1)))))
 (.ret (.out (x91.1, x91.2.1, x91.2.2.1, x91.2.2.2.1, x91.2.2.2.2.1))))
 (a0, a1, a2, 0, 0, 0) [] fun y111 =>
 .ret (y111.2.2.2.1, y111.2.2.2.2, y111.1, y111.2.1, y111.2.2.1)
noncomputable def mzh (a0 : Int) (a1 : Int) (a2 : Int) (a3 : (List (az0 × az0 × az0))) : CallS (Int × Int × Int × Int × Int) :=
  mkC [] hd Tryz.func285 (by kernel_rfl) (gzv a0 a1 a2 a3) 1 [.agg [.func 299 [] [.ptr 0 0], .func 300 [] []], .pure (encL 6 az4 a3)] [(0, .box [pz a0, pz a1, pz a2])] (fun r => .tup [pz r.1, pz r.2.1]) (fun r => [(0, .box [pz r.2.2.1, pz r.2.2.2.1, pz r.2.2.2.2])]) (by kernel_rfl)
noncomputable def hzx (a0 : (Int × Int × Int)) (a1 : (List (az0 × az0 × az0))) : T (Int × Int × Bool) :=
 .cut 2 (fun (y12 : Bool) => ⟨[(1, .pure (encL 6 az4 a1)), (2, .ptr 0 0), (16, .pure (.bool y12))], [(0, .box [pz a0.1, pz a0.2.1, pz a0.2.2])], [], 1⟩)
 (.call (dzu a0) [] fun y13 =>
 .br (!y13)
 (.ret (.out true))
 (.call (cze a1) [] fun y14 =>
 .ret (.out (!y14)))) fun y12 =>
 .br y12
 (.ret (0, 0, false))
 (.call (qzy (a0.1, a0.2.1, a0.2.2)) [] fun y17 =>
 .call (mzh y17.1 y17.2.1 y17.2.2 a1) [(0, 65)] fun y18 =>
 .ret (y18.1, y18.2.1, true))
noncomputable def mzx (a0 : (Int × Int × Int)) (a1 : (List (az0 × az0 × az0))) : CallS (Int × Int × Bool) :=
  mkC [] hd Tryz.func267 (by kernel_rfl) (hzx a0 a1) 0 [.pure (az2 a0), .pure (encL 6 az4 a1)] [] (fun r => .tup [pz r.1, pz r.2.1, .pure (.bool r.2.2)]) (fun _ => []) (by kernel_rfl)
noncomputable def xz6 (a0 : Int) : T Int :=
 .cut 1 (fun (y5 : (Int × Int)) => ⟨[(0, .pure (.int .u64 y5.1)), (2, pz y5.2)], [], [], 0⟩)
 (.br (decide (a0 ≥ 4294967296))
 (.ok (0 ≤ (32 : Int)) (by decide) <|
 .ret (.out ((a0.fdiv (2 ^ (min (32 : Int).toNat 64))), 32)))
 (.ret (.out (a0, 0)))) fun y5 =>
 .cut 0 (fun (y6 : (Int × Int)) => ⟨[(0, .pure (.int .u64 y6.1)), (2, pz y6.2)], [], [], 0⟩)
 (.br (decide (y5.1 ≥ 65536))
 (.ok (0 ≤ (16 : Int)) (by decide) <|
 .ret (.out ((y5.1.fdiv (2 ^ (min (16 : Int).toNat 64))), (IntKind.i64.wrap (y5.2 + 16)))))
 (.ret (.out (y5.1, y5.2)))) fun y6 =>
 .cut 0 (fun (y7 : (Int × Int)) => ⟨[(0, .pure (.int .u64 y7.1)), (2, pz y7.2)], [], [], 0⟩)
 (.br (decide (y6.1 ≥ 256))
 (.ok (0 ≤ (8 : Int)) (by decide) <|
 .ret (.out ((y6.1.fdiv (2 ^ (min (8 : Int).toNat 64))), (IntKind.i64.wrap (y6.2 + 8)))))
 (.ret (.out (y6.1, y6.2)))) fun y7 =>
 .grd (0 ≤ (IntKind.u8.wrap y7.1) ∧ (IntKind.u8.wrap y7.1) < (((⟨#[0, 1, 2, 2, 3, 3, 3, 3, 4, 4, 4, 4, 4, 4, 4, 4, 5, 5, 5, 5, 5, 5, 5, 5, 5, 5, 5, 5, 5, 5, 5, 5, 6, 6, 6, 6, 6, 6, 6, 6, 6, 6, 6, 6, 6, 6, 6, 6, 6, 6, 6, 6, 6, 6, 6, 6, 6, 6, 6, 6, 6, 6, 6, 6, 7, 7, 7, 7, 7, 7, 7, 7, 7, 7, 7, 7, 7, 7, 7, 7, 7, 7, 7, 7, 7, 7, 7, 7, 7, 7, 7, 7, 7, 7, 7, 7, 7, 7, 7, 7, 7, 7, 7, 7, 7, 7, 7, 7, 7, 7, 7, 7, 7, 7, 7, 7, 7, 7, 7, 7, 7, 7, 7, 7, 7, 7, 7, 7, 8, 8, 8, 8, 8, 8, 8, 8, 8, 8, 8, 8, 8, 8, 8, 8, 8, 8, 8, 8, 8, 8, 8, 8, 8, 8, 8, 8, 8, 8, 8, 8, 8, 8, 8, 8, 8, 8, 8, 8, 8, 8, 8, 8, 8, 8, 8, 8, 8, 8, 8, 8, 8, 8, 8, 8, 8, 8, 8, 8, 8, 8, 8, 8, 8, 8, 8, 8, 8, 8, 8, 8, 8, 8, 8, 8, 8, 8, 8, 8, 8, 8, 8, 8, 8, 8, 8, 8, 8, 8, 8, 8, 8, 8, 8, 8, 8, 8, 8, 8, 8, 8, 8, 8, 8, 8, 8, 8, 8, 8, 8, 8, 8, 8, 8, 8, 8, 8, 8, 8, 8, 8, 8, 8, 8, 8, 8, 8]⟩ : ByteArray).size : Nat) : Int)) <|
 .name 10003 ((((⟨#[0, 1, 2, 2, 3, 3, 3, 3, 4, 4, 4, 4, 4, 4, 4, 4, 5, 5, 5, 5, 5, 5, 5, 5, 5, 5, 5, 5, 5, 5, 5, 5, 6, 6, 6, 6, 6, 6, 6, 6, 6, 6, 6, 6, 6, 6, 6, 6, 6, 6, 6, 6, 6, 6, 6, 6, 6, 6, 6, 6, 6, 6, 6, 6, 7, 7, 7, 7, 7, 7, 7, 7, 7, 7, 7, 7, 7, 7, 7, 7, 7, 7, 7, 7, 7, 7, 7, 7, 7, 7, 7, 7, 7, 7, 7, 7, 7, 7, 7, 7, 7, 7, 7, 7, 7, 7, 7, 7, 7, 7, 7, 7, 7, 7, 7, 7, 7, 7, 7, 7, 7, 7, 7, 7, 7, 7, 7, 7, 8, 8, 8, 8, 8, 8, 8, 8, 8, 8, 8, 8, 8, 8, 8, 8, 8, 8, 8, 8, 8, 8, 8, 8, 8, 8, 8, 8, 8, 8, 8, 8, 8, 8, 8, 8, 8, 8, 8, 8, 8, 8, 8, 8, 8, 8, 8, 8, 8, 8, 8, 8, 8, 8, 8, 8, 8, 8, 8, 8, 8, 8, 8, 8, 8, 8, 8, 8, 8, 8, 8, 8, 8, 8, 8, 8, 8, 8, 8, 8, 8, 8, 8, 8, 8, 8, 8, 8, 8, 8, 8, 8, 8, 8, 8, 8, 8, 8, 8, 8, 8, 8, 8, 8, 8, 8, 8, 8, 8, 8, 8, 8, 8, 8, 8, 8, 8, 8, 8, 8, 8, 8, 8, 8, 8, 8, 8, 8]⟩ : ByteArray).data.getD ((IntKind.u8.wrap y7.1)).toNat 0).toNat : Int)) fun z8 =>
 .ret (IntKind.i64.wrap (y7.2 + (IntKind.i64.wrap z8)))
noncomputable def izd (a0 : Int) : CallS Int :=
  mkC [] hd Tryz.func287 (by kernel_rfl) (xz6 a0) 0 [.pure (.int .u64 a0)] [] (fun r => pz r) (fun _ => []) (by kernel_rfl)
noncomputable def rzg (a0 : Int) : T Int :=
 .br (decide (a0 ≤ 0))
 (.ret 0)
 (.call (izd (IntKind.u64.wrap a0)) [] fun y52 =>
 .ok ((2 : Int) ≠ 0) (by decide) <|
 .grd (0 ≤ (IntKind.i64.wrap ((IntKind.i64.wrap (y52 + 1)).tdiv 2))) <|
 .loop (fun (x85 : (Int × Int × Int)) => ⟨[(0, pz a0), (4, .pure (.int .u64 x85.1)), (5, .pure (.int .u64 x85.2.1)), (16, pz (IntKind.i64.wrap ((IntKind.i64.wrap (y52 + 1)).tdiv 2))), (17, pz x85.2.2)], [], [], 0⟩)
 (.exit 0) (fun (y93 : Int) => ⟨[(4, .pure (.int .u64 y93))], [], [], 0⟩)
 (fun x85 => .br (decide (x85.2.2 < (IntKind.i64.wrap ((IntKind.i64.wrap (y52 + 1)).tdiv 2))))
 (.cut 0 (fun (y98 : (Int × Int)) => ⟨[(0, pz a0), (4, .pure (.int .u64 y98.1)), (5, .pure (.int .u64 y98.2)), (16, pz (IntKind.i64.wrap ((IntKind.i64.wrap (y52 + 1)).tdiv 2))), (17, pz x85.2.2)], [], [], 0⟩)
 (.ok ((2 : Int) ≠ 0) (by decide) <|
 .name 7001 ((IntKind.u64.wrap (x85.2.1.tdiv 2))) fun z100 =>
 .br (decide ((IntKind.u64.wrap ((IntKind.u64.wrap (x85.1 + z100)) * (IntKind.u64.wrap (x85.1 + z100)))) ≤ (IntKind.u64.wrap a0)))
 (.ret (.out ((IntKind.u64.wrap (x85.1 + z100)), z100)))
 (.ret (.out (x85.1, z100)))) fun y98 =>
 .ret (.next (y98.1, y98.2, (IntKind.i64.wrap (x85.2.2 + 1)))))
 (.ret (.out x85.1)))
 (0, (IntKind.u64.wrap (1 * 2 ^ (min ((IntKind.i64.wrap ((IntKind.i64.wrap (y52 + 1)).tdiv 2))).toNat 64))), 0) [] fun y93 =>
 .ret (IntKind.i64.wrap y93))
noncomputable def rzf (a0 : Int) : CallS Int :=
  mkC [] hd Tryz.func268 (by kernel_rfl) (rzg a0) 0 [pz a0] [] (fun r => pz r) (fun _ => []) (by kernel_rfl)
noncomputable def nzd (a0 : Int) : T Int :=
 .call (rzf a0) [] fun y2 =>
 .cut 0 (fun (y3 : Int) => ⟨[(3, pz y3)], [], [], 0⟩)
 (.br (decide ((IntKind.i64.wrap (y2 * y2)) < a0))
 (.ret (.out (IntKind.i64.wrap (y2 + 1))))
 (.ret (.out y2))) fun y3 =>
 .ret y3
noncomputable def tzh (a0 : Int) : CallS Int :=
  mkC [] hd Tryz.func248 (by kernel_rfl) (nzd a0) 0 [pz a0] [] (fun r => pz r) (fun _ => []) (by kernel_rfl)
noncomputable def oza (a0 : (Int × Int × Int)) : T Int :=
 .call (dzu (a0.1, a0.2.1, a0.2.2)) [] fun y10 =>
 .br (!y10)
 (.ret 0)
 (.ix 0 3 rfl <|
 .ix 0 3 rfl <|
 .ix 1 3 rfl <|
 .ix 1 3 rfl <|
 .ix 2 3 rfl <|
 .ix 2 3 rfl <|
 .name 3016 ((IntKind.i64.wrap ((IntKind.i64.wrap ((IntKind.i64.wrap (a0.1 * a0.1)) + (IntKind.i64.wrap (a0.2.1 * a0.2.1)))) + (IntKind.i64.wrap (a0.2.2 * a0.2.2))))) fun z11 =>
 .call (tzh z11) [] fun y12 =>
 .ret y12)
noncomputable def oz9 (a0 : (Int × Int × Int)) : CallS Int :=
  mkC [] hd Tryz.func215 (by kernel_rfl) (oza a0) 0 [.pure (az2 a0)] [] (fun r => pz r) (fun _ => []) (by kernel_rfl)
noncomputable def oz7 (a0 : czf) (a1 : (Int × Int × Int)) : T (Int × Bool) :=
 .cut 2 (fun (y32 : Bool) => ⟨[(2, .ptr 0 0), (3, .ptr 1 0), (20, .pure (.bool y32))], [(0, .box [.pure (encL 6 az4 a0.a.points), pz a0.a.radius, .pure (encL 6 az4 a0.b.points), pz a0.b.radius]), (1, .box [pz a1.1, pz a1.2.1, pz a1.2.2])], [], 2⟩)
 (.call (szl a0.a) [] fun y33 =>
 .br (!y33)
 (.ret (.out true))
 (.call (szl a0.b) [] fun y34 =>
 .ret (.out (!y34)))) fun y32 =>
 .br y32
 (.ret (0, false))
 (.call (szo (a1.1, a1.2.1, a1.2.2) a0.a.points) [] fun y36 =>
 .br (!y36.2.2)
 (.ret (0, false))
 (.call (mzx (a1.1, a1.2.1, a1.2.2) a0.b.points) [] fun y38 =>
 .br (!y38.2.2)
 (.ret (0, false))
 (.call (oz9 (a1.1, a1.2.1, a1.2.2)) [] fun y39 =>
 .name 9013 ((IntKind.i64.wrap ((IntKind.i64.wrap (y36.1 - y38.1)) - (IntKind.i64.wrap (y39 * (IntKind.i64.wrap (a0.a.radius + a0.b.radius))))))) fun z40 =>
 .ret (z40, true))))
noncomputable def uz2 (a0 : czf) (a1 : (Int × Int × Int)) : CallS (Int × Bool) :=
  mkC [] hd Tryz.func245 (by kernel_rfl) (oz7 a0 a1) 0 [.pure (lzg a0), .pure (az2 a1)] [] (fun r => .tup [pz r.1, .pure (.bool r.2)]) (fun _ => []) (by kernel_rfl)
noncomputable def izt (a0 : czf) (a1 : (Int × Int × Int)) : T Bool :=
 .call (uz2 (⟨a0.a, a0.b⟩ : czf) (a1.1, a1.2.1, a1.2.2)) [] fun y2 =>
 .br y2.2
 (.ret (decide (y2.1 > 0)))
 (.ret false)
noncomputable def ozu (a0 : czf) (a1 : (Int × Int × Int)) : CallS Bool :=
  mkC [] hd Tryz.func207 (by kernel_rfl) (izt a0 a1) 0 [.pure (lzg a0), .pure (az2 a1)] [] (fun r => .pure (.bool r)) (fun _ => []) (by kernel_rfl)
noncomputable def izi (a0 : (Int × Int × Int)) (a1 : (List (az0 × az0 × az0))) (a2 : Int) (a3 : (List (az0 × az0 × az0))) (a4 : Int) : T Bool :=
 .call (yz4 a1 a2 a3 a4) [] fun y1 =>
 .call (ozu (⟨y1.a, y1.b⟩ : czf) (a0.1, a0.2.1, a0.2.2)) [] fun y2 =>
 .ret y2
noncomputable def ozp (a0 : (Int × Int × Int)) (a1 : (List (az0 × az0 × az0))) (a2 : Int) (a3 : (List (az0 × az0 × az0))) (a4 : Int) : CallS Bool :=
  mkC [] hd Tryz.func170 (by kernel_rfl) (izi a0 a1 a2 a3 a4) 0 [.pure (az2 a0), .pure (encL 6 az4 a1), pz a2, .pure (encL 6 az4 a3), pz a4] [] (fun r => .pure (.bool r)) (fun _ => []) (by kernel_rfl)
noncomputable def hzc (a0 : Int) : T Bool :=
 .br (decide (a0 ≥ 0))
 (.ret (decide (a0 ≤ 1048576)))
 (.ret false)
noncomputable def hzb (a0 : Int) : CallS Bool :=
  mkC [] hd Tryz.func203 (by kernel_rfl) (hzc a0) 0 [pz a0] [] (fun r => .pure (.bool r)) (fun _ => []) (by kernel_rfl)
noncomputable def nzh (a0 : az0) : T Int :=
 .call (bze a0) [] fun y4 =>
 .br (!y4)
 (.ret 0)
 (.call (azx (IntKind.i64.wrap (a0.Lo + a0.Hi)) 1) [] fun y5 =>
 .ret y5)
noncomputable def gz1 (a0 : az0) : CallS Int :=
  mkC [] hd Tryz.func175 (by kernel_rfl) (nzh a0) 0 [.pure (azf a0)] [] (fun r => pz r) (fun _ => []) (by kernel_rfl)
set_option maxHeartbeats 8000000 in
set_option maxRecDepth 20000 in
noncomputable def fzd (a0 : (List (az0 × az0 × az0))) : T (List (Int × Int × Int)) :=
 .call (cze a0) [] fun y4 =>
 .br (!y4)
 (.ret nl)
 (.conv 3002 (Ezt 3 az2 78 (((a0.length : Nat) : Int)).toNat (0, 0, 0)) <|
 .grd (0 ≤ ((a0.length : Nat) : Int) ∧ ((a0.length : Nat) : Int) ≤ ((a0.length : Nat) : Int) ∧ ((a0.length : Nat) : Int) ≤ 9223372036854775807 ∧ ((a0.length : Nat) : Int) * 24 ≤ 140737488355328) <|
 .loop (fun (x89 : ((List (Int × Int × Int)) × Int)) => ⟨[(3, .vec 0), (14, .pure (encL 6 az4 a0)), (15, pz ((a0.length : Nat) : Int)), (16, pz x89.2)], [(0, vecO 3 az2 x89.1 78)], [], 1⟩)
 (.exit 0) (fun (y110 : (List (Int × Int × Int))) => ⟨[(3, .vec 0)], [(0, vecO 3 az2 y110 78)], [], 1⟩)
 (fun x89 => .br (decide (x89.2 < ((a0.length : Nat) : Int)))
 (.grd (0 ≤ x89.2 ∧ x89.2 < ((a0.length : Nat) : Int)) <|
 .unroll 4 <|
 .known true <|
 .ix 0 3 rfl <|
 .call (gz1 ((a0.getD ((x89.2).toNat) default).1)) [] fun y126 =>
 .grd (0 ≤ x89.2 ∧ x89.2 < ((x89.1.length : Nat) : Int)) <|
 .ix 0 3 rfl <|
 .conv 10007 (fzj 3 az2 x89.1 78 ((x89.2).toNat) (y126, (x89.1.getD ((x89.2).toNat) default).2.1, (x89.1.getD ((x89.2).toNat) default).2.2)) <|
 .grd ((x89.2).toNat < x89.1.length ∧ 0 ≤ (x89.2).toNat) <|
 .lit 11000 (1) <|
 .known true <|
 .ix 1 3 rfl <|
 .call (gz1 ((a0.getD ((x89.2).toNat) default).2.1)) [] fun y128 =>
 .grd (0 ≤ x89.2 ∧ x89.2 < (((x89.1.set ((x89.2).toNat) (y126, (x89.1.getD ((x89.2).toNat) default).2.1, (x89.1.getD ((x89.2).toNat) default).2.2)).length : Nat) : Int)) <|
 .ix 1 3 rfl <|
 .conv 10007 (fzj 3 az2 (x89.1.set ((x89.2).toNat) (y126, (x89.1.getD ((x89.2).toNat) default).2.1, (x89.1.getD ((x89.2).toNat) default).2.2)) 78 ((x89.2).toNat) (((x89.1.set ((x89.2).toNat) (y126, (x89.1.getD ((x89.2).toNat) default).2.1, (x89.1.getD ((x89.2).toNat) default).2.2)).getD ((x89.2).toNat) default).1, y128, ((x89.1.set ((x89.2).toNat) (y126, (x89.1.getD ((x89.2).toNat) default).2.1, (x89.1.getD ((x89.2).toNat) default).2.2)).getD ((x89.2).toNat) default).2.2)) <|
 .grd ((x89.2).toNat < (x89.1.set ((x89.2).toNat) (y126, (x89.1.getD ((x89.2).toNat) default).2.1, (x89.1.getD ((x89.2).toNat) default).2.2)).length ∧ 0 ≤ (x89.2).toNat) <|
 .lit 11000 (2) <|
 .known true <|
 .ix 2 3 rfl <|
 .call (gz1 ((a0.getD ((x89.2).toNat) default).2.2)) [] fun y130 =>
 .grd (0 ≤ x89.2 ∧ x89.2 < ((((x89.1.set ((x89.2).toNat) (y126, (x89.1.getD ((x89.2).toNat) default).2.1, (x89.1.getD ((x89.2).toNat) default).2.2)).set ((x89.2).toNat) (((x89.1.set ((x89.2).toNat) (y126, (x89.1.getD ((x89.2).toNat) default).2.1, (x89.1.getD ((x89.2).toNat) default).2.2)).getD ((x89.2).toNat) default).1, y128, ((x89.1.set ((x89.2).toNat) (y126, (x89.1.getD ((x89.2).toNat) default).2.1, (x89.1.getD ((x89.2).toNat) default).2.2)).getD ((x89.2).toNat) default).2.2)).length : Nat) : Int)) <|
 .ix 2 3 rfl <|
 .conv 10007 (fzj 3 az2 ((x89.1.set ((x89.2).toNat) (y126, (x89.1.getD ((x89.2).toNat) default).2.1, (x89.1.getD ((x89.2).toNat) default).2.2)).set ((x89.2).toNat) (((x89.1.set ((x89.2).toNat) (y126, (x89.1.getD ((x89.2).toNat) default).2.1, (x89.1.getD ((x89.2).toNat) default).2.2)).getD ((x89.2).toNat) default).1, y128, ((x89.1.set ((x89.2).toNat) (y126, (x89.1.getD ((x89.2).toNat) default).2.1, (x89.1.getD ((x89.2).toNat) default).2.2)).getD ((x89.2).toNat) default).2.2)) 78 ((x89.2).toNat) ((((x89.1.set ((x89.2).toNat) (y126, (x89.1.getD ((x89.2).toNat) default).2.1, (x89.1.getD ((x89.2).toNat) default).2.2)).set ((x89.2).toNat) (((x89.1.set ((x89.2).toNat) (y126, (x89.1.getD ((x89.2).toNat) default).2.1, (x89.1.getD ((x89.2).toNat) default).2.2)).getD ((x89.2).toNat) default).1, y128, ((x89.1.set ((x89.2).toNat) (y126, (x89.1.getD ((x89.2).toNat) default).2.1, (x89.1.getD ((x89.2).toNat) default).2.2)).getD ((x89.2).toNat) default).2.2)).getD ((x89.2).toNat) default).1, (((x89.1.set ((x89.2).toNat) (y126, (x89.1.getD ((x89.2).toNat) default).2.1, (x89.1.getD ((x89.2).toNat) default).2.2)).set ((x89.2).toNat) (((x89.1.set ((x89.2).toNat) (y126, (x89.1.getD ((x89.2).toNat) default).2.1, (x89.1.getD ((x89.2).toNat) default).2.2)).getD ((x89.2).toNat) default).1, y128, ((x89.1.set ((x89.2).toNat) (y126, (x89.1.getD ((x89.2).toNat) default).2.1, (x89.1.getD ((x89.2).toNat) default).2.2)).getD ((x89.2).toNat) default).2.2)).getD ((x89.2).toNat) default).2.1, y130)) <|
 .grd ((x89.2).toNat < ((x89.1.set ((x89.2).toNat) (y126, (x89.1.getD ((x89.2).toNat) default).2.1, (x89.1.getD ((x89.2).toNat) default).2.2)).set ((x89.2).toNat) (((x89.1.set ((x89.2).toNat) (y126, (x89.1.getD ((x89.2).toNat) default).2.1, (x89.1.getD ((x89.2).toNat) default).2.2)).getD ((x89.2).toNat) default).1, y128, ((x89.1.set ((x89.2).toNat) (y126, (x89.1.getD ((x89.2).toNat) default).2.1, (x89.1.getD ((x89.2).toNat) default).2.2)).getD ((x89.2).toNat) default).2.2)).length ∧ 0 ≤ (x89.2).toNat) <|
 .lit 11000 (3) <|
 .known false <|
 .ret (.next ((((x89.1.set ((x89.2).toNat) (y126, (x89.1.getD ((x89.2).toNat) default).2.1, (x89.1.getD ((x89.2).toNat) default).2.2)).set ((x89.2).toNat) (((x89.1.set ((x89.2).toNat) (y126, (x89.1.getD ((x89.2).toNat) default).2.1, (x89.1.getD ((x89.2).toNat) default).2.2)).getD ((x89.2).toNat) default).1, y128, ((x89.1.set ((x89.2).toNat) (y126, (x89.1.getD ((x89.2).toNat) default).2.1, (x89.1.getD ((x89.2).toNat) default).2.2)).getD ((x89.2).toNat) default).2.2)).set ((x89.2).toNat) ((((x89.1.set ((x89.2).toNat) (y126, (x89.1.getD ((x89.2).toNat) default).2.1, (x89.1.getD ((x89.2).toNat) default).2.2)).set ((x89.2).toNat) (((x89.1.set ((x89.2).toNat) (y126, (x89.1.getD ((x89.2).toNat) default).2.1, (x89.1.getD ((x89.2).toNat) default).2.2)).getD ((x89.2).toNat) default).1, y128, ((x89.1.set ((x89.2).toNat) (y126, (x89.1.getD ((x89.2).toNat) default).2.1, (x89.1.getD ((x89.2).toNat) default).2.2)).getD ((x89.2).toNat) default).2.2)).getD ((x89.2).toNat) default).1, (((x89.1.set ((x89.2).toNat) (y126, (x89.1.getD ((x89.2).toNat) default).2.1, (x89.1.getD ((x89.2).toNat) default).2.2)).set ((x89.2).toNat) (((x89.1.set ((x89.2).toNat) (y126, (x89.1.getD ((x89.2).toNat) default).2.1, (x89.1.getD ((x89.2).toNat) default).2.2)).getD ((x89.2).toNat) default).1, y128, ((x89.1.set ((x89.2).toNat) (y126, (x89.1.getD ((x89.2).toNat) default).2.1, (x89.1.getD ((x89.2).toNat) default).2.2)).getD ((x89.2).toNat) default).2.2)).getD ((x89.2).toNat) default).2.1, y130)), (IntKind.i64.wrap (x89.2 + 1)))))
 (.ret (.out x89.1)))
 ((List.replicate (((a0.length : Nat) : Int)).toNat ((0, 0, 0) : (Int × Int × Int))), 0) [] fun y110 =>
 .ret y110)
noncomputable def cz3 (a0 : (List (az0 × az0 × az0))) : CallS (List (Int × Int × Int)) :=
  mkC [] hd Tryz.func141 (by kernel_rfl) (fzd a0) 0 [.pure (encL 6 az4 a0)] [] (fun r => .pure (encL 3 az2 r)) (fun _ => []) (by kernel_rfl)
noncomputable def pzs (a0 : (List (Int × Int × Int))) : T (Int × Int × Int) :=
 .loop (fun (x21 : (Int × Int × Int × Int)) => ⟨[(2, .ptr 0 0), (3, .ptr 1 0), (7, .pure (encL 3 az2 a0)), (8, pz ((a0.length : Nat) : Int)), (9, pz x21.2.2.2)], [(0, .box [pz 0, pz 0, pz 0]), (1, .box [pz x21.1, pz x21.2.1, pz x21.2.2.1])], [], 2⟩)
 (.exit 0) (fun (y26 : (Int × Int × Int)) => ⟨[(2, .ptr 0 0), (3, .ptr 1 0)], [(0, .box [pz 0, pz 0, pz 0]), (1, .box [pz y26.1, pz y26.2.1, pz y26.2.2])], [], 2⟩)
 (fun x21 => .br (decide (x21.2.2.2 < ((a0.length : Nat) : Int)))
 (.grd (0 ≤ x21.2.2.2 ∧ x21.2.2.2 < ((a0.length : Nat) : Int)) <|
 .unroll 4 <|
 .known true <|
 .ix 0 3 rfl <|
 .ix 0 3 rfl <|
 .ix 0 3 rfl <|
 .lit 9000 (1) <|
 .known true <|
 .ix 1 3 rfl <|
 .ix 1 3 rfl <|
 .ix 1 3 rfl <|
 .lit 9000 (2) <|
 .known true <|
 .ix 2 3 rfl <|
 .ix 2 3 rfl <|
 .ix 2 3 rfl <|
 .lit 9000 (3) <|
 .known false <|
 .ret (.next ((IntKind.i64.wrap (x21.1 + ((a0.getD ((x21.2.2.2).toNat) default).1))), (IntKind.i64.wrap (x21.2.1 + ((a0.getD ((x21.2.2.2).toNat) default).2.1))), (IntKind.i64.wrap (x21.2.2.1 + ((a0.getD ((x21.2.2.2).toNat) default).2.2))), (IntKind.i64.wrap (x21.2.2.2 + 1)))))
 (.ret (.out (x21.1, x21.2.1, x21.2.2.1))))
 (0, 0, 0, 0) [] fun y26 =>
 .ret (y26.1, y26.2.1, y26.2.2)
noncomputable def pzr (a0 : (List (Int × Int × Int))) : CallS (Int × Int × Int) :=
  mkC [] hd Tryz.func244 (by kernel_rfl) (pzs a0) 0 [.pure (encL 3 az2 a0)] [] (fun r => .pure (az2 r)) (fun _ => []) (by kernel_rfl)
noncomputable def kzm (a0 : (Int × Int × Int)) : T ((Int × Int × Int) × Bool) :=
 .loop (fun (x29 : (Int × Int × Int)) => ⟨[(1, .ptr 0 0), (2, .ptr 1 0)], [(0, .box [pz x29.1, pz x29.2.1, pz x29.2.2]), (1, .box [pz 0, pz 0, pz 0])], [], 2⟩)
 (.exit 0) (fun (y36 : (Int × Int × Int)) => ⟨[(1, .ptr 0 0), (2, .ptr 1 0)], [(0, .box [pz y36.1, pz y36.2.1, pz y36.2.2]), (1, .box [pz 0, pz 0, pz 0])], [], 2⟩)
 (fun x29 => .call (izw (x29.1, x29.2.1, x29.2.2)) [] fun y40 =>
 .br (!y40)
 (.unroll 4 <|
 .known true <|
 .ix 0 3 rfl <|
 .ok ((2 : Int) ≠ 0) (by decide) <|
 .ix 0 3 rfl <|
 .lit 6000 (1) <|
 .known true <|
 .ix 1 3 rfl <|
 .ok ((2 : Int) ≠ 0) (by decide) <|
 .ix 1 3 rfl <|
 .lit 6000 (2) <|
 .known true <|
 .ix 2 3 rfl <|
 .ok ((2 : Int) ≠ 0) (by decide) <|
 .ix 2 3 rfl <|
 .lit 6000 (3) <|
 .known false <|
 .ret (.next ((IntKind.i64.wrap (x29.1.tdiv 2)), (IntKind.i64.wrap (x29.2.1.tdiv 2)), (IntKind.i64.wrap (x29.2.2.tdiv 2)))))
 (.ret (.out (x29.1, x29.2.1, x29.2.2))))
 (a0.1, a0.2.1, a0.2.2) [] fun y36 =>
 .ret ((y36.1, y36.2.1, y36.2.2), (!((y36.1 == 0) && ((y36.2.1 == 0) && ((y36.2.2 == 0) && true)))))
noncomputable def kzl (a0 : (Int × Int × Int)) : CallS ((Int × Int × Int) × Bool) :=
  mkC [] hd Tryz.func212 (by kernel_rfl) (kzm a0) 0 [.pure (az2 a0)] [] (fun r => .tup [.pure (az2 r.1), .pure (.bool r.2)]) (fun _ => []) (by kernel_rfl)
noncomputable def nzs (a0 : (List (az0 × az0 × az0))) (a1 : (List (az0 × az0 × az0))) : T ((Int × Int × Int) × Bool) :=
 .cut 3 (fun (y55 : Bool) => ⟨[(0, .pure (encL 6 az4 a0)), (1, .pure (encL 6 az4 a1)), (4, .ptr 0 0), (5, .ptr 1 0), (18, .pure (.bool y55))], [(0, .box [pz 0, pz 0, pz 0]), (1, .box [.ff])], [.func 243 [] [.ptr 0 0, .ptr 1 0]], 2⟩)
 (.call (cze a0) [] fun y56 =>
 .br (!y56)
 (.ret (.out true))
 (.call (cze a1) [] fun y57 =>
 .ret (.out (!y57)))) fun y55 =>
 .br y55
 (.ret ((0, 0, 0), false))
 (.call (cz3 a0) [] fun y62 =>
 .call (pzr y62) [] fun y63 =>
 .call (cz3 a1) [] fun y64 =>
 .call (pzr y64) [] fun y65 =>
 .unroll 4 <|
 .known true <|
 .ix 0 3 rfl <|
 .ix 0 3 rfl <|
 .name 9013 ((IntKind.i64.wrap ((IntKind.i64.wrap (y63.1 * ((a1.length : Nat) : Int))) - (IntKind.i64.wrap (y65.1 * ((a0.length : Nat) : Int)))))) fun z81 =>
 .ix 0 3 rfl <|
 .lit 10000 (1) <|
 .known true <|
 .ix 1 3 rfl <|
 .ix 1 3 rfl <|
 .name 9013 ((IntKind.i64.wrap ((IntKind.i64.wrap (y63.2.1 * ((a1.length : Nat) : Int))) - (IntKind.i64.wrap (y65.2.1 * ((a0.length : Nat) : Int)))))) fun z83 =>
 .ix 1 3 rfl <|
 .lit 10000 (2) <|
 .known true <|
 .ix 2 3 rfl <|
 .ix 2 3 rfl <|
 .name 9013 ((IntKind.i64.wrap ((IntKind.i64.wrap (y63.2.2 * ((a1.length : Nat) : Int))) - (IntKind.i64.wrap (y65.2.2 * ((a0.length : Nat) : Int)))))) fun z85 =>
 .ix 2 3 rfl <|
 .lit 10000 (3) <|
 .known false <|
 .call (kzl (z81, z83, z85)) [] fun y86 =>
 .ret (y86.1, y86.2))
noncomputable def jz7 (a0 : (List (az0 × az0 × az0))) (a1 : (List (az0 × az0 × az0))) : CallS ((Int × Int × Int) × Bool) :=
  mkC [⟨243, Nzv⟩] hd Tryz.func205 (by kernel_rfl) (nzs a0 a1) 0 [.pure (encL 6 az4 a0), .pure (encL 6 az4 a1)] [] (fun r => .tup [.pure (az2 r.1), .pure (.bool r.2)]) (fun _ => []) (by kernel_rfl)
noncomputable def Bzj : T (List (Int × Int × Int)) :=
 .conv 1006 (czp 3 az2 ([(1, 0, 0), ((-1), 0, 0), (0, 1, 0), (0, (-1), 0), (0, 0, 1), (0, 0, (-1))] : (List (Int × Int × Int))) 78) <|
 .ret ([(1, 0, 0), ((-1), 0, 0), (0, 1, 0), (0, (-1), 0), (0, 0, 1), (0, 0, (-1))] : (List (Int × Int × Int)))
noncomputable def nzq : CallS (List (Int × Int × Int)) :=
  mkC [] hd Tryz.func206 (by kernel_rfl) (Bzj) 0 [] [] (fun r => .pure (encL 3 az2 r)) (fun _ => []) (by kernel_rfl)
noncomputable def kza (a0 : (List (Int × Int × Int))) : T Bool :=
 .cut 2 (fun (y258 : Bool) => ⟨[(0, .pure (encL 3 az2 a0)), (14, .pure (.bool y258))], [], [], 0⟩)
 (.br (decide (((a0.length : Nat) : Int) < 1))
 (.ret (.out true))
 (.ret (.out (decide (((a0.length : Nat) : Int) > 8))))) fun y258 =>
 .br y258
 (.ret false)
 (.loop (fun (x431 : Int) => ⟨[(15, .pure (encL 3 az2 a0)), (16, pz ((a0.length : Nat) : Int)), (17, pz x431)], [], [], 0⟩)
 (.exit 0) (fun (_ : U0) => ⟨[], [], [], 0⟩)
 (fun x431 => .br (decide (x431 < ((a0.length : Nat) : Int)))
 (.grd (0 ≤ x431 ∧ x431 < ((a0.length : Nat) : Int)) <|
 .loop (fun (x503 : Int) => ⟨[(15, .pure (encL 3 az2 a0)), (16, pz ((a0.length : Nat) : Int)), (17, pz x431), (21, .pure (az2 (a0.getD ((x431).toNat) default))), (22, pz x503)], [], [], 0⟩)
 (.exit 2) (fun (_ : U0) => ⟨[(15, .pure (encL 3 az2 a0)), (16, pz ((a0.length : Nat) : Int)), (17, pz x431)], [], [], 0⟩)
 (fun x503 => .br (decide (x503 < 3))
 (.grd (0 ≤ x503 ∧ x503 < ((3 : Nat) : Int)) <|
 .name 8000 ((([(a0.getD ((x431).toNat) default).1, (a0.getD ((x431).toNat) default).2.1, (a0.getD ((x431).toNat) default).2.2] : List Int).getD (x503).toNat 0)) fun z515 =>
 .cut 0 (fun (y516 : Bool) => ⟨[(15, .pure (encL 3 az2 a0)), (16, pz ((a0.length : Nat) : Int)), (17, pz x431), (21, .pure (az2 (a0.getD ((x431).toNat) default))), (22, pz x503), (30, .pure (.bool y516))], [], [], 0⟩)
 (.br (decide (z515 < (-268435456)))
 (.ret (.out true))
 (.ret (.out (decide (z515 > 268435456))))) fun y516 =>
 .br y516
 (.ret (.fin (.fin false)))
 (.ret (.next (IntKind.i64.wrap (x503 + 1)))))
 (.ret (.out .u)))
 0 [] fun _ =>
 .ret (.next (IntKind.i64.wrap (x431 + 1))))
 (.ret (.out .u)))
 0 [] fun _ =>
 .ret true)
noncomputable def kz9 (a0 : (List (Int × Int × Int))) : CallS Bool :=
  mkC [] hd Tryz.func171 (by kernel_rfl) (kza a0) 0 [.pure (encL 3 az2 a0)] [] (fun r => .pure (.bool r)) (fun _ => []) (by kernel_rfl)
noncomputable def izh (a0 : (List (Int × Int × Int))) : T ((List (Int × Int × Int)) × (List Int)) :=
 .conv 1002 (Ezt 1 az3 2 (((a0.length : Nat) : Int)).toNat 0) <|
 .grd (0 ≤ ((a0.length : Nat) : Int) ∧ ((a0.length : Nat) : Int) ≤ ((a0.length : Nat) : Int) ∧ ((a0.length : Nat) : Int) ≤ 9223372036854775807 ∧ ((a0.length : Nat) : Int) * 8 ≤ 140737488355328) <|
 .grd (0 ≤ (0 : Int) ∧ (0 : Int) < (((List.replicate (((a0.length : Nat) : Int)).toNat (0 : Int)).length : Nat) : Int)) <|
 .conv 2002 (fzj 1 az3 (List.replicate (((a0.length : Nat) : Int)).toNat (0 : Int)) 2 ((0 : Int).toNat) 65536) <|
 .grd ((0 : Int).toNat < (List.replicate (((a0.length : Nat) : Int)).toNat (0 : Int)).length ∧ 0 ≤ (0 : Int).toNat) <|
 .ret (a0, ((List.replicate (((a0.length : Nat) : Int)).toNat (0 : Int)).set ((0 : Int).toNat) 65536))
noncomputable def izg (a0 : (List (Int × Int × Int))) : CallS ((List (Int × Int × Int)) × (List Int)) :=
  mkC [] hd Tryz.func172 (by kernel_rfl) (izh a0) 0 [.pure (encL 3 az2 a0)] [] (fun r => .agg [.pure (encL 3 az2 r.1), .vec 0]) (fun r => [(0, vecO 1 az3 r.2 2)]) (by kernel_rfl)
noncomputable def xz4 (a0 : (List (Int × Int × Int))) (a1 : (List Int)) : T (Int × Int × Int) :=
 .loop (fun (x567 : (Int × Int × Int × Int)) => ⟨[(1, .ptr 1 0), (2, .ptr 2 0), (3, .ptr 3 0), (9, .pure (encL 3 az2 a0)), (10, pz ((a0.length : Nat) : Int)), (11, pz x567.2.2.2)], [(0, vecO 1 az3 a1 2), (1, .box [.pure (encL 3 az2 a0), .vec 0]), (2, .box [pz 0, pz 0, pz 0]), (3, .box [pz x567.1, pz x567.2.1, pz x567.2.2.1])], [], 4⟩)
 (.exit 0) (fun (y624 : (Int × Int × Int)) => ⟨[(2, .ptr 1 0), (3, .ptr 2 0)], [(0, vecO 1 az3 a1 2), (1, .box [pz 0, pz 0, pz 0]), (2, .box [pz y624.1, pz y624.2.1, pz y624.2.2])], [], 3⟩)
 (fun x567 => .br (decide (x567.2.2.2 < ((a0.length : Nat) : Int)))
 (.grd (0 ≤ x567.2.2.2 ∧ x567.2.2.2 < ((a0.length : Nat) : Int)) <|
 .unroll 4 <|
 .known true <|
 .ix 0 3 rfl <|
 .name 7001 ((a0.getD ((x567.2.2.2).toNat) default).1) fun z667 =>
 .ix 0 3 rfl <|
 .grd (0 ≤ x567.2.2.2 ∧ x567.2.2.2 < ((a1.length : Nat) : Int)) <|
 .grd ((x567.2.2.2).toNat < a1.length) <|
 .name 8010 ((IntKind.i64.wrap (x567.1 + (IntKind.i64.wrap ((a1.getD ((x567.2.2.2).toNat) default) * z667))))) fun z668 =>
 .ix 0 3 rfl <|
 .lit 9000 (1) <|
 .known true <|
 .ix 1 3 rfl <|
 .name 7001 ((a0.getD ((x567.2.2.2).toNat) default).2.1) fun z673 =>
 .ix 1 3 rfl <|
 .grd (0 ≤ x567.2.2.2 ∧ x567.2.2.2 < ((a1.length : Nat) : Int)) <|
 .grd ((x567.2.2.2).toNat < a1.length) <|
 .name 8010 ((IntKind.i64.wrap (x567.2.1 + (IntKind.i64.wrap ((a1.getD ((x567.2.2.2).toNat) default) * z673))))) fun z674 =>
 .ix 1 3 rfl <|
 .lit 9000 (2) <|
 .known true <|
 .ix 2 3 rfl <|
 .name 7001 ((a0.getD ((x567.2.2.2).toNat) default).2.2) fun z679 =>
 .ix 2 3 rfl <|
 .grd (0 ≤ x567.2.2.2 ∧ x567.2.2.2 < ((a1.length : Nat) : Int)) <|
 .grd ((x567.2.2.2).toNat < a1.length) <|
 .name 8010 ((IntKind.i64.wrap (x567.2.2.1 + (IntKind.i64.wrap ((a1.getD ((x567.2.2.2).toNat) default) * z679))))) fun z680 =>
 .ix 2 3 rfl <|
 .lit 9000 (3) <|
 .known false <|
 .ret (.next (z668, z674, z680, (IntKind.i64.wrap (x567.2.2.2 + 1)))))
 (.ret (.out (x567.1, x567.2.1, x567.2.2.1))))
 (0, 0, 0, 0) [] fun y624 =>
 .ret (y624.1, y624.2.1, y624.2.2)
noncomputable def xz3 (a0 : (List (Int × Int × Int))) (a1 : (List Int)) : CallS (Int × Int × Int) :=
  mkC [] hd Tryz.func210 (by kernel_rfl) (xz4 a0 a1) 1 [.agg [.pure (encL 3 az2 a0), .vec 0]] [(0, vecO 1 az3 a1 2)] (fun r => .pure (az2 r)) (fun _ => [(0, vecO 1 az3 a1 2)]) (by kernel_rfl)
noncomputable def Az8 (a0 : (Int × Int × Int)) (a1 : (Int × Int × Int)) : T (Int × Int × Int) :=
 .ix 0 3 rfl <|
 .ix 0 3 rfl <|
 .ix 1 3 rfl <|
 .ix 1 3 rfl <|
 .ix 2 3 rfl <|
 .ix 2 3 rfl <|
 .ret ((IntKind.i64.wrap (a0.1 - a1.1)), (IntKind.i64.wrap (a0.2.1 - a1.2.1)), (IntKind.i64.wrap (a0.2.2 - a1.2.2)))
noncomputable def hza (a0 : (Int × Int × Int)) (a1 : (Int × Int × Int)) : CallS (Int × Int × Int) :=
  mkC [] hd Tryz.func209 (by kernel_rfl) (Az8 a0 a1) 0 [.pure (az2 a0), .pure (az2 a1)] [] (fun r => .pure (az2 r)) (fun _ => []) (by kernel_rfl)
noncomputable def izf (a0 : (Int × Int × Int)) (a1 : Int) : T Bool :=
 .loop (fun (x87 : (Int × Int)) => ⟨[(1, pz a1), (5, pz x87.1), (9, .pure (az2 a0)), (10, pz x87.2)], [], [], 0⟩)
 (.exit 0) (fun (y96 : Int) => ⟨[(1, pz a1), (5, pz y96)], [], [], 0⟩)
 (fun x87 => .br (decide (x87.2 < 3))
 (.grd (0 ≤ x87.2 ∧ x87.2 < ((3 : Nat) : Int)) <|
 .name 5003 ((max (([a0.1, a0.2.1, a0.2.2] : List Int).getD (x87.2).toNat 0) (IntKind.i64.wrap (0 - (([a0.1, a0.2.1, a0.2.2] : List Int).getD (x87.2).toNat 0))))) fun z103 =>
 .call (bz3 z103 16) [] fun y104 =>
 .ret (.next ((IntKind.i64.wrap (x87.1 + (IntKind.i64.wrap (y104 * y104)))), (IntKind.i64.wrap (x87.2 + 1)))))
 (.ret (.out x87.1)))
 (0, 0) [] fun y96 =>
 .ret (decide (y96 ≤ (IntKind.i64.wrap (a1 * a1))))
noncomputable def ozn (a0 : (Int × Int × Int)) (a1 : Int) : CallS Bool :=
  mkC [] hd Tryz.func211 (by kernel_rfl) (izf a0 a1) 0 [.pure (az2 a0), pz a1] [] (fun r => .pure (.bool r)) (fun _ => []) (by kernel_rfl)
noncomputable def Dzq (a0 : (Int × Int × Int)) (a1 : (Int × Int × Int)) : T Int :=
 .ix 0 3 rfl <|
 .ix 0 3 rfl <|
 .ix 1 3 rfl <|
 .ix 1 3 rfl <|
 .ix 2 3 rfl <|
 .ix 2 3 rfl <|
 .name 1016 ((IntKind.i64.wrap ((IntKind.i64.wrap ((IntKind.i64.wrap (a0.1 * a1.1)) + (IntKind.i64.wrap (a0.2.1 * a1.2.1)))) + (IntKind.i64.wrap (a0.2.2 * a1.2.2))))) fun z2 =>
 .ret z2
noncomputable def ezm (a0 : (Int × Int × Int)) (a1 : (Int × Int × Int)) : CallS Int :=
  mkC [] hd Tryz.func247 (by kernel_rfl) (Dzq a0 a1) 0 [.pure (az2 a0), .pure (az2 a1)] [] (fun r => pz r) (fun _ => []) (by kernel_rfl)
noncomputable def rzl (a0 : (List (Int × Int × Int))) (a1 : (List Int)) (a2 : (Int × Int × Int)) : T (Int × Int) :=
 .grd (0 ≤ (0 : Int) ∧ (0 : Int) < ((a0.length : Nat) : Int)) <|
 .call (ezm a2 (a0.getD ((0 : Int).toNat) default)) [] fun y2 =>
 .loop (fun (x51 : (Int × Int × Int)) => ⟨[(3, .ptr 1 0), (6, pz x51.1), (7, pz x51.2.1), (20, .pure (encL 3 az2 a0)), (21, pz ((a0.length : Nat) : Int)), (22, pz x51.2.2)], [(0, vecO 1 az3 a1 2), (1, .box [pz a2.1, pz a2.2.1, pz a2.2.2])], [], 2⟩)
 (.exit 0) (fun (y59 : (Int × Int)) => ⟨[(6, pz y59.1), (7, pz y59.2)], [(0, vecO 1 az3 a1 2)], [], 1⟩)
 (fun x51 => .br (decide (x51.2.2 < ((a0.length : Nat) : Int)))
 (.cut 0 (fun (y64 : (Int × Int)) => ⟨[(3, .ptr 1 0), (6, pz y64.1), (7, pz y64.2), (20, .pure (encL 3 az2 a0)), (21, pz ((a0.length : Nat) : Int)), (22, pz x51.2.2)], [(0, vecO 1 az3 a1 2), (1, .box [pz a2.1, pz a2.2.1, pz a2.2.2])], [], 2⟩)
 (.grd (0 ≤ x51.2.2 ∧ x51.2.2 < ((a0.length : Nat) : Int)) <|
 .call (ezm a2 (a0.getD ((x51.2.2).toNat) default)) [] fun y66 =>
 .br (decide (y66 < x51.1))
 (.ret (.out (y66, x51.2.2)))
 (.ret (.out (x51.1, x51.2.1)))) fun y64 =>
 .ret (.next (y64.1, y64.2, (IntKind.i64.wrap (x51.2.2 + 1)))))
 (.ret (.out (x51.1, x51.2.1))))
 (y2, 0, 0) [] fun y59 =>
 .ret (y59.1, y59.2)
noncomputable def xzz (a0 : (List (Int × Int × Int))) (a1 : (List Int)) (a2 : (Int × Int × Int)) : CallS (Int × Int) :=
  mkC [] hd Tryz.func213 (by kernel_rfl) (rzl a0 a1 a2) 1 [.agg [.pure (encL 3 az2 a0), .vec 0], .pure (az2 a2)] [(0, vecO 1 az3 a1 2)] (fun r => .tup [pz r.1, pz r.2]) (fun _ => [(0, vecO 1 az3 a1 2)]) (by kernel_rfl)
noncomputable def kzd (a0 : (List (Int × Int × Int))) (a1 : (List Int)) (a2 : (Int × Int × Int)) : T (Int × Int) :=
 .grd (0 ≤ (0 : Int) ∧ (0 : Int) < ((a0.length : Nat) : Int)) <|
 .call (ezm a2 (a0.getD ((0 : Int).toNat) default)) [] fun y2 =>
 .loop (fun (x51 : (Int × Int × Int)) => ⟨[(3, .ptr 1 0), (6, pz x51.1), (7, pz x51.2.1), (20, .pure (encL 3 az2 a0)), (21, pz ((a0.length : Nat) : Int)), (22, pz x51.2.2)], [(0, vecO 1 az3 a1 2), (1, .box [pz a2.1, pz a2.2.1, pz a2.2.2])], [], 2⟩)
 (.exit 0) (fun (y59 : (Int × Int)) => ⟨[(6, pz y59.1), (7, pz y59.2)], [(0, vecO 1 az3 a1 2)], [], 1⟩)
 (fun x51 => .br (decide (x51.2.2 < ((a0.length : Nat) : Int)))
 (.cut 0 (fun (y64 : (Int × Int)) => ⟨[(3, .ptr 1 0), (6, pz y64.1), (7, pz y64.2), (20, .pure (encL 3 az2 a0)), (21, pz ((a0.length : Nat) : Int)), (22, pz x51.2.2)], [(0, vecO 1 az3 a1 2), (1, .box [pz a2.1, pz a2.2.1, pz a2.2.2])], [], 2⟩)
 (.grd (0 ≤ x51.2.2 ∧ x51.2.2 < ((a0.length : Nat) : Int)) <|
 .call (ezm a2 (a0.getD ((x51.2.2).toNat) default)) [] fun y66 =>
 .br (decide (y66 > x51.1))
 (.ret (.out (y66, x51.2.2)))
 (.ret (.out (x51.1, x51.2.1)))) fun y64 =>
 .ret (.next (y64.1, y64.2, (IntKind.i64.wrap (x51.2.2 + 1)))))
 (.ret (.out (x51.1, x51.2.1))))
 (y2, 0, 0) [] fun y59 =>
 .ret (y59.1, y59.2)
noncomputable def qzu (a0 : (List (Int × Int × Int))) (a1 : (List Int)) (a2 : (Int × Int × Int)) : CallS (Int × Int) :=
  mkC [] hd Tryz.func214 (by kernel_rfl) (kzd a0 a1 a2) 1 [.agg [.pure (encL 3 az2 a0), .vec 0], .pure (az2 a2)] [(0, vecO 1 az3 a1 2)] (fun r => .tup [pz r.1, pz r.2]) (fun _ => [(0, vecO 1 az3 a1 2)]) (by kernel_rfl)
noncomputable def nzp (a0 : (Int × Int × Int)) (a1 : (Int × Int × Int)) : T Int :=
 .call (hza a0 a1) [] fun y2 =>
 .call (ezm a0 y2) [] fun y5 =>
 .call (ezm y2 y2) [] fun y6 =>
 .br (decide (y5 ≤ 0))
 (.ret 0)
 (.ok ((256 : Int) ≠ 0) (by decide) <|
 .grd ((max 1 (IntKind.i64.wrap (y6.tdiv 256))) ≠ 0) <|
 .ret (min 256 (IntKind.i64.wrap (y5.tdiv (max 1 (IntKind.i64.wrap (y6.tdiv 256)))))))
noncomputable def tzr (a0 : (Int × Int × Int)) (a1 : (Int × Int × Int)) : CallS Int :=
  mkC [] hd Tryz.func216 (by kernel_rfl) (nzp a0 a1) 0 [.pure (az2 a0), .pure (az2 a1)] [] (fun r => pz r) (fun _ => []) (by kernel_rfl)
open Go.Proofs
noncomputable def pzi (a0 : (List (Int × Int × Int))) (a1 : (List Int)) (a2 : Int) (a3 : Int) : T (List Int) :=
 .loop (fun (x69 : ((List Int) × Int × Int)) => ⟨[(1, pz a2), (2, pz a3), (3, .ptr 1 0), (6, pz x69.2.1), (11, .vec 0), (12, pz ((a1.length : Nat) : Int)), (13, pz x69.2.2)], [(0, vecO 1 az3 x69.1 2), (1, .box [.pure (encL 3 az2 a0), .vec 0])], [], 2⟩)
 (.exit 0) (fun (y76 : ((List Int) × Int)) => ⟨[(1, pz a2), (3, .ptr 1 0), (6, pz y76.2)], [(0, vecO 1 az3 y76.1 2), (1, .box [.pure (encL 3 az2 a0), .vec 0])], [], 2⟩)
 (fun x69 => .br (decide (x69.2.2 < ((a1.length : Nat) : Int)))
 (.grd (0 ≤ x69.2.2 ∧ x69.2.2 < ((x69.1.length : Nat) : Int)) <|
 .grd ((x69.2.2).toNat < x69.1.length) <|
 .ok ((256 : Int) ≠ 0) (by decide) <|
 .grd (0 ≤ x69.2.2 ∧ x69.2.2 < ((x69.1.length : Nat) : Int)) <|
 .grd ((x69.2.2).toNat < x69.1.length) <|
 .name 6006 ((IntKind.i64.wrap ((x69.1.getD ((x69.2.2).toNat) default) - (IntKind.i64.wrap ((IntKind.i64.wrap ((x69.1.getD ((x69.2.2).toNat) default) * a3)).tdiv 256))))) fun z81 =>
 .grd (0 ≤ x69.2.2 ∧ x69.2.2 < ((x69.1.length : Nat) : Int)) <|
 .conv 6008 (fzj 1 az3 x69.1 2 ((x69.2.2).toNat) z81) <|
 .grd ((x69.2.2).toNat < x69.1.length ∧ 0 ≤ (x69.2.2).toNat) <|
 .name 7002 ((IntKind.i64.wrap (x69.2.1 + (IntKind.i64.wrap ((IntKind.i64.wrap ((x69.1.getD ((x69.2.2).toNat) default) * a3)).tdiv 256))))) fun z82 =>
 .ret (.next ((x69.1.set ((x69.2.2).toNat) z81), z82, (IntKind.i64.wrap (x69.2.2 + 1)))))
 (.ret (.out (x69.1, x69.2.1))))
 (a1, 0, 0) [] fun y76 =>
 .grd (0 ≤ a2 ∧ a2 < ((y76.1.length : Nat) : Int)) <|
 .grd ((a2).toNat < y76.1.length) <|
 .grd (0 ≤ a2 ∧ a2 < ((y76.1.length : Nat) : Int)) <|
 .conv 9008 (fzj 1 az3 y76.1 2 ((a2).toNat) (IntKind.i64.wrap ((y76.1.getD ((a2).toNat) default) + y76.2))) <|
 .grd ((a2).toNat < y76.1.length ∧ 0 ≤ (a2).toNat) <|
 .ret (y76.1.set ((a2).toNat) (IntKind.i64.wrap ((y76.1.getD ((a2).toNat) default) + y76.2)))
noncomputable def pzh (a0 : (List (Int × Int × Int))) (a1 : (List Int)) (a2 : Int) (a3 : Int) : CallS (List Int) :=
  mkC [] hd Tryz.func217 (by kernel_rfl) (pzi a0 a1 a2 a3) 1 [.agg [.pure (encL 3 az2 a0), .vec 0], pz a2, pz a3] [(0, vecO 1 az3 a1 2)] (fun _ => .tup []) (fun r => [(0, vecO 1 az3 r 2)]) (by kernel_rfl)
noncomputable def vz3 (a0 : (List (Int × Int × Int))) (a1 : (List Int)) (a2 : (List (Int × Int × Int))) (a3 : (List Int)) (a4 : Int) (a5 : Int) (a6 : Int) (a7 : Int) (a8 : Int) (a9 : Int) : T (Int × (List (Int × Int × Int)) × (List Int) × (List (Int × Int × Int)) × (List Int) × Int × Int × Int × Int) :=
 .loop (fun (x30 : ((List Int) × (List Int) × Int × Int × Int × Int)) => ⟨[(0, .ptr 0 0), (1, pz a8), (2, pz a9)], [(0, .box [.pure (encL 3 az2 a0), .vec 1, .pure (encL 3 az2 a2), .vec 2, pz x30.2.2.1, pz x30.2.2.2.1, pz x30.2.2.2.2.1, pz x30.2.2.2.2.2]), (1, vecO 1 az3 x30.1 2), (2, vecO 1 az3 x30.2.1 2)], [], 3⟩)
 .ret (fun (_ : U0) => ⟨[], [], [], 3⟩)
 (fun x30 => .call (xz3 a0 x30.1) [(0, 1)] fun y63 =>
 .call (xz3 a2 x30.2.1) [(0, 2)] fun y64 =>
 .call (hza y63 y64) [] fun y65 =>
 .call (ozn y65 a8) [] fun y69 =>
 .br y69
 (.ret (.fin (2, a0, x30.1, a2, x30.2.1, x30.2.2.1, x30.2.2.2.1, x30.2.2.2.2.1, x30.2.2.2.2.2)))
 (.ix 0 3 rfl <|
 .ok ((65536 : Int) ≠ 0) (by decide) <|
 .ix 1 3 rfl <|
 .ok ((65536 : Int) ≠ 0) (by decide) <|
 .ix 2 3 rfl <|
 .ok ((65536 : Int) ≠ 0) (by decide) <|
 .call (kzl ((IntKind.i64.wrap (y65.1.tdiv 65536)), (IntKind.i64.wrap (y65.2.1.tdiv 65536)), (IntKind.i64.wrap (y65.2.2.tdiv 65536)))) [] fun y71 =>
 .br (!y71.2)
 (.ret (.fin (0, a0, x30.1, a2, x30.2.1, y71.1.1, y71.1.2.1, y71.1.2.2, x30.2.2.2.2.2)))
 (.call (xzz a0 x30.1 y71.1) [(0, 1)] fun y73 =>
 .call (qzu a2 x30.2.1 y71.1) [(0, 2)] fun y75 =>
 .call (oz9 y71.1) [] fun y79 =>
 .br (decide ((IntKind.i64.wrap (y73.1 - y75.1)) > (IntKind.i64.wrap (y79 * a8))))
 (.ret (.fin (1, a0, x30.1, a2, x30.2.1, y71.1.1, y71.1.2.1, y71.1.2.2, x30.2.2.2.2.2)))
 (.br (x30.2.2.2.2.2 == a9)
 (.ret (.fin (0, a0, x30.1, a2, x30.2.1, y71.1.1, y71.1.2.1, y71.1.2.2, x30.2.2.2.2.2)))
 (.grd (0 ≤ y73.2 ∧ y73.2 < ((a0.length : Nat) : Int)) <|
 .grd (0 ≤ y75.2 ∧ y75.2 < ((a2.length : Nat) : Int)) <|
 .call (hza (a0.getD ((y73.2).toNat) default) (a2.getD ((y75.2).toNat) default)) [] fun y82 =>
 .call (tzr ((IntKind.i64.wrap (y65.1.tdiv 65536)), (IntKind.i64.wrap (y65.2.1.tdiv 65536)), (IntKind.i64.wrap (y65.2.2.tdiv 65536))) y82) [] fun y83 =>
 .br (y83 == 0)
 (.ret (.fin (0, a0, x30.1, a2, x30.2.1, y71.1.1, y71.1.2.1, y71.1.2.2, x30.2.2.2.2.2)))
 (.call (pzh a0 x30.1 y73.2 y83) [(0, 1)] fun y85 =>
 .call (pzh a2 x30.2.1 y75.2 y83) [(0, 2)] fun y87 =>
 .ret (.next (y85, y87, y71.1.1, y71.1.2.1, y71.1.2.2, (IntKind.i64.wrap (x30.2.2.2.2.2 + 1))))))))))
 (a1, a3, a4, a5, a6, a7) [] fun _ =>
 .stop
noncomputable def Azv (a0 : (List (Int × Int × Int))) (a1 : (List Int)) (a2 : (List (Int × Int × Int))) (a3 : (List Int)) (a4 : Int) (a5 : Int) (a6 : Int) (a7 : Int) (a8 : Int) (a9 : Int) : CallS (Int × (List (Int × Int × Int)) × (List Int) × (List (Int × Int × Int)) × (List Int) × Int × Int × Int × Int) :=
  mkC [] hd Tryz.func173 (by kernel_rfl) (vz3 a0 a1 a2 a3 a4 a5 a6 a7 a8 a9) 3 [.ptr 0 0, pz a8, pz a9] [(0, .box [.pure (encL 3 az2 a0), .vec 1, .pure (encL 3 az2 a2), .vec 2, pz a4, pz a5, pz a6, pz a7]), (1, vecO 1 az3 a1 2), (2, vecO 1 az3 a3 2)] (fun r => pz r.1) (fun r => [(0, .box [.pure (encL 3 az2 r.2.1), .vec 1, .pure (encL 3 az2 r.2.2.2.1), .vec 2, pz r.2.2.2.2.2.1, pz r.2.2.2.2.2.2.1, pz r.2.2.2.2.2.2.2.1, pz r.2.2.2.2.2.2.2.2]), (1, vecO 1 az3 r.2.2.1 2), (2, vecO 1 az3 r.2.2.2.2.1 2)]) (by kernel_rfl)
noncomputable def kz8 (a0 : (List (Int × Int × Int))) (a1 : (List (Int × Int × Int))) (a2 : Int) (a3 : Int) : T gzq :=
 .cut 2 (fun (y12 : Bool) => ⟨[(0, .pure (encL 3 az2 a0)), (1, .pure (encL 3 az2 a1)), (2, pz a2), (3, pz a3), (8, .ptr 0 0), (34, .pure (.bool y12))], [(0, .box [pz 0, pz 0, pz 0, pz 0, .vec 1, .vec 2, pz 0]), (1, .nilv), (2, .nilv)], [], 3⟩)
 (.call (kz9 a0) [] fun y13 =>
 .br (!y13)
 (.ret (.out true))
 (.call (kz9 a1) [] fun y14 =>
 .br (!y14)
 (.ret (.out true))
 (.br (decide (a2 < 0))
 (.ret (.out true))
 (.br (decide (a2 > 2097152))
 (.ret (.out true))
 (.br (decide (a3 < 0))
 (.ret (.out true))
 (.ret (.out (decide (a3 > 64))))))))) fun y12 =>
 .br y12
 (.ret (⟨0, (0, 0, 0), nl, nl, 0⟩ : gzq))
 (.call (izg a0) [] fun y17 =>
 .call (izg a1) [] fun y18 =>
 .call (Azv y17.1 y17.2 y18.1 y18.2 0 0 0 0 a2 a3) [(0, 451), (1, 67), (2, 259)] fun y20 =>
 .ret (⟨y20.1, (y20.2.2.2.2.2.1, y20.2.2.2.2.2.2.1, y20.2.2.2.2.2.2.2.1), y20.2.2.1, y20.2.2.2.2.1, y20.2.2.2.2.2.2.2.2⟩ : gzq))
noncomputable def dzt (a0 : (List (Int × Int × Int))) (a1 : (List (Int × Int × Int))) (a2 : Int) (a3 : Int) : CallS gzq :=
  mkC [] hd Tryz.func140 (by kernel_rfl) (kz8 a0 a1 a2 a3) 0 [.pure (encL 3 az2 a0), .pure (encL 3 az2 a1), pz a2, pz a3] [] (fun r => .pure (Hz5 r)) (fun _ => []) (by kernel_rfl)
noncomputable def fz1 {o : (Int × Int × Int) → Option Bool} (Y : YldS Tryz.prog az2 o) (a0 : (List (az0 × az0 × az0))) (a1 : (List (az0 × az0 × az0))) (a2 : Int) (a3 : Int) (a4 : (List (Int × Int × Int))) : T (Bool × (Int × Int × Int) × (List (az0 × az0 × az0)) × (List (az0 × az0 × az0)) × Int × Int × (List (Int × Int × Int))) :=
 .cut 1 (fun (y22 : Bool) => ⟨[(0, .yld Y.l), (1, .ptr 1 0), (2, .ptr 2 0), (3, .ptr 3 0), (4, .ptr 4 0), (5, .ptr 5 0), (31, .pure (.bool y22))], [(0, .tok Y.τ (tokP false (az2 default))), (1, .box [.pure (encL 6 az4 a0)]), (2, .box [.pure (encL 6 az4 a1)]), (3, .box [pz a2]), (4, .box [pz a3]), (5, .box [.pure (encL 3 az2 a4)])], [], 6⟩)
 (.call (cze a0) [] fun y23 =>
 .br (!y23)
 (.ret (.out true))
 (.call (cze a1) [] fun y24 =>
 .br (!y24)
 (.ret (.out true))
 (.call (hzb a2) [] fun y25 =>
 .br (!y25)
 (.ret (.out true))
 (.call (hzb a3) [] fun y26 =>
 .ret (.out (!y26)))))) fun y22 =>
 .br y22
 (.ret (false, default, a0, a1, a2, a3, a4))
 (.loop (fun (x87 : (Int × Bool × (Int × Int × Int))) => ⟨[(0, .yld Y.l), (1, .ptr 1 0), (2, .ptr 2 0), (3, .ptr 3 0), (4, .ptr 4 0), (32, .pure (encL 3 az2 a4)), (33, pz ((a4.length : Nat) : Int)), (34, pz x87.1)], [(0, .tok Y.τ (tokP x87.2.1 (az2 x87.2.2))), (1, .box [.pure (encL 6 az4 a0)]), (2, .box [.pure (encL 6 az4 a1)]), (3, .box [pz a2]), (4, .box [pz a3]), (5, .box [.pure (encL 3 az2 a4)])], [], 6⟩)
 (.exit 0) (fun (y102 : (Bool × (Int × Int × Int))) => ⟨[(0, .yld Y.l), (1, .ptr 1 0), (2, .ptr 2 0), (3, .ptr 3 0), (4, .ptr 4 0)], [(0, .tok Y.τ (tokP y102.1 (az2 y102.2))), (1, .box [.pure (encL 6 az4 a0)]), (2, .box [.pure (encL 6 az4 a1)]), (3, .box [pz a2]), (4, .box [pz a3]), (5, .box [.pure (encL 3 az2 a4)])], [], 6⟩)
 (fun x87 => .br (decide (x87.1 < ((a4.length : Nat) : Int)))
 (.grd (0 ≤ x87.1 ∧ x87.1 < ((a4.length : Nat) : Int)) <|
 .cut 0 (fun (y114 : (Bool × Bool × (Int × Int × Int))) => ⟨[(0, .yld Y.l), (1, .ptr 1 0), (2, .ptr 2 0), (3, .ptr 3 0), (4, .ptr 4 0), (32, .pure (encL 3 az2 a4)), (33, pz ((a4.length : Nat) : Int)), (34, pz x87.1), (45, .pure (.bool y114.1))], [(0, .tok Y.τ (tokP y114.2.1 (az2 y114.2.2))), (1, .box [.pure (encL 6 az4 a0)]), (2, .box [.pure (encL 6 az4 a1)]), (3, .box [pz a2]), (4, .box [pz a3]), (5, .box [.pure (encL 3 az2 a4)])], [], 6⟩)
 (.call (dzu (a4.getD ((x87.1).toNat) default)) [] fun y115 =>
 .br y115
 (.call (Y.C x87.2.1 x87.2.2 (a4.getD ((x87.1).toNat) default)) [(0, 0)] fun y116 =>
 .ret (.out ((!(!y116)), y116, (a4.getD ((x87.1).toNat) default))))
 (.ret (.out (false, x87.2.1, x87.2.2)))) fun y114 =>
 .br y114.1
 (.ret (.fin (y114.2.1, y114.2.2, a0, a1, a2, a3, a4)))
 (.ret (.next ((IntKind.i64.wrap (x87.1 + 1)), y114.2.1, y114.2.2))))
 (.ret (.out (x87.2.1, x87.2.2))))
 (0, false, default) [] fun y102 =>
 .call (jz7 a0 a1) [] fun y124 =>
 .cut 0 (fun (y127 : (Bool × Bool × (Int × Int × Int))) => ⟨[(0, .yld Y.l), (1, .ptr 1 0), (2, .ptr 2 0), (3, .ptr 3 0), (4, .ptr 4 0), (59, .pure (.bool y127.1))], [(0, .tok Y.τ (tokP y127.2.1 (az2 y127.2.2))), (1, .box [.pure (encL 6 az4 a0)]), (2, .box [.pure (encL 6 az4 a1)]), (3, .box [pz a2]), (4, .box [pz a3]), (5, .box [.pure (encL 3 az2 a4)])], [], 6⟩)
 (.br y124.2
 (.call (Y.C y102.1 y102.2 y124.1) [(0, 0)] fun y128 =>
 .ret (.out ((!(!y128)), y128, y124.1)))
 (.ret (.out (false, y102.1, y102.2)))) fun y127 =>
 .br y127.1
 (.ret (y127.2.1, y127.2.2, a0, a1, a2, a3, a4))
 (.call (nzq) [] fun y147 =>
 .loop (fun (x153 : (Int × Bool × (Int × Int × Int))) => ⟨[(0, .yld Y.l), (1, .ptr 1 0), (2, .ptr 2 0), (3, .ptr 3 0), (4, .ptr 4 0), (60, .pure (encL 3 az2 y147)), (61, pz ((y147.length : Nat) : Int)), (62, pz x153.1)], [(0, .tok Y.τ (tokP x153.2.1 (az2 x153.2.2))), (1, .box [.pure (encL 6 az4 a0)]), (2, .box [.pure (encL 6 az4 a1)]), (3, .box [pz a2]), (4, .box [pz a3]), (5, .box [.pure (encL 3 az2 a4)])], [], 6⟩)
 (.exit 2) (fun (y158 : (Bool × (Int × Int × Int))) => ⟨[(0, .yld Y.l), (1, .ptr 1 0), (2, .ptr 2 0), (3, .ptr 3 0), (4, .ptr 4 0)], [(0, .tok Y.τ (tokP y158.1 (az2 y158.2))), (1, .box [.pure (encL 6 az4 a0)]), (2, .box [.pure (encL 6 az4 a1)]), (3, .box [pz a2]), (4, .box [pz a3]), (5, .box [.pure (encL 3 az2 a4)])], [], 6⟩)
 (fun x153 => .br (decide (x153.1 < ((y147.length : Nat) : Int)))
 (.grd (0 ≤ x153.1 ∧ x153.1 < ((y147.length : Nat) : Int)) <|
 .call (Y.C x153.2.1 x153.2.2 (y147.getD ((x153.1).toNat) default)) [(0, 0)] fun y162 =>
 .br (!(!y162))
 (.ret (.fin (y162, (y147.getD ((x153.1).toNat) default), a0, a1, a2, a3, a4)))
 (.ret (.next ((IntKind.i64.wrap (x153.1 + 1)), y162, (y147.getD ((x153.1).toNat) default)))))
 (.ret (.out (x153.2.1, x153.2.2))))
 (0, y127.2.1, y127.2.2) [] fun y158 =>
 .call (cz3 a0) [] fun y166 =>
 .call (cz3 a1) [] fun y167 =>
 .call (dzt y166 y167 (IntKind.i64.wrap (a2 + a3)) 64) [] fun y168 =>
 .call (dzu y168.Normal) [] fun y170 =>
 .br y170
 (.call (Y.C y158.1 y158.2 y168.Normal) [(0, 0)] fun y171 =>
 .ret (y171, y168.Normal, a0, a1, a2, a3, a4))
 (.ret (y158.1, y158.2, a0, a1, a2, a3, a4))))
noncomputable def fz0 {o : (Int × Int × Int) → Option Bool} (Y : YldS Tryz.prog az2 o) (a0 : (List (az0 × az0 × az0))) (a1 : (List (az0 × az0 × az0))) (a2 : Int) (a3 : Int) (a4 : (List (Int × Int × Int))) : CallS (Bool × (Int × Int × Int) × (List (az0 × az0 × az0)) × (List (az0 × az0 × az0)) × Int × Int × (List (Int × Int × Int))) :=
  mkC [] hd Tryz.func202 (by kernel_rfl) (fz1 Y a0 a1 a2 a3 a4) 6 [.yld Y.l, .ptr 1 0, .ptr 2 0, .ptr 3 0, .ptr 4 0, .ptr 5 0] [(0, .tok Y.τ (tokP false (az2 default))), (1, .box [.pure (encL 6 az4 a0)]), (2, .box [.pure (encL 6 az4 a1)]), (3, .box [pz a2]), (4, .box [pz a3]), (5, .box [.pure (encL 3 az2 a4)])] (fun _ => .tup []) (fun r => [(0, .tok Y.τ (tokP r.1 (az2 r.2.1))), (1, .box [.pure (encL 6 az4 r.2.2.1)]), (2, .box [.pure (encL 6 az4 r.2.2.2.1)]), (3, .box [pz r.2.2.2.2.1]), (4, .box [pz r.2.2.2.2.2.1]), (5, .box [.pure (encL 3 az2 r.2.2.2.2.2.2)])]) (by kernel_rfl)
noncomputable def jz6 (a0 : (List (az0 × az0 × az0))) (a1 : Int) (a2 : (List (az0 × az0 × az0))) (a3 : Int) (_a4 : (List (Int × Int × Int))) (x : (Int × Int × Int)) : T Bool :=
 .call (ozp x a0 a1 a2 a3) [] fun y3 =>
 .br y3
 (.ret true)
 (.ret false)
noncomputable def nzr (a0 : (List (az0 × az0 × az0))) (a1 : Int) (a2 : (List (az0 × az0 × az0))) (a3 : Int) (a4 : (List (Int × Int × Int))) : CallS ((Int × Int × Int) × Bool) :=
  mkR (encX := az2) [⟨168, Nzs⟩] hd Tryz.func139 (by kernel_rfl) (.call (fzw a0 a1 a2 a3 a4) [] fun y1 =>
  .ret y1)
  (jz6 a0 a1 a2 a3 a4) [(0, .box [.pure (encL 6 az4 a0)]), (64, .box [pz a1]), (128, .box [.pure (encL 6 az4 a2)]), (192, .box [pz a3]), (256, .box [pz 0, pz 0, pz 0]), (320, .box [.ff])]
  (fun p => [(0, .box [.pure (encL 6 az4 a0)]), (64, .box [pz a1]), (128, .box [.pure (encL 6 az4 a2)]), (192, .box [pz a3]), (256, .box (p.cells.map .pure)), (320, .box [.tt])]) [(0, 960), (1, 832), (2, 833), (3, 834), (4, 835), (5, 836)] (fun r => r.1) (fun r => r.2.1)
  (fun y1 Y => fz0 Y y1.1 y1.2.1 y1.2.2.1 y1.2.2.2.1 y1.2.2.2.2)
  (.ret ((0, 0, 0), false)) (fun x => (x, true)) (fun _ _ => rfl) 0 [.pure (encL 6 az4 a0), pz a1, .pure (encL 6 az4 a2), pz a3, .pure (encL 3 az2 a4)] [] (fun r => .tup [.pure (az2 r.1), .pure (.bool r.2)]) (fun _ => []) (by kernel_rfl)
set_option maxHeartbeats 8000000 in
set_option maxRecDepth 20000 in
noncomputable def mz4 (a0 : (List (az0 × az0 × az0))) (a1 : (List Int)) : T ((az0 × az0 × az0) × Int × Bool) :=
 .cut 2 (fun (y599 : Bool) => ⟨[(0, .pure (encL 6 az4 a0)), (1, .pure (encL 1 az3 a1)), (4, .ptr 0 0), (22, .pure (.bool y599))], [(0, .box [pz 0, pz 0, pz 0, pz 0, pz 0, pz 0])], [], 1⟩)
 (.call (cze a0) [] fun y600 =>
 .br (!y600)
 (.ret (.out true))
 (.ret (.out (((a1.length : Nat) : Int) != ((a0.length : Nat) : Int))))) fun y599 =>
 .br y599
 (.ret (((⟨0, 0⟩ : az0), (⟨0, 0⟩ : az0), (⟨0, 0⟩ : az0)), 0, false))
 (.loop (fun (x1021 : (Int × Int × Int × Int × Int × Int × Int × Int)) => ⟨[(0, .pure (encL 6 az4 a0)), (4, .ptr 0 0), (7, .ptr 1 0), (8, pz x1021.2.2.2.2.2.2.1), (24, .pure (encL 1 az3 a1)), (25, pz ((a1.length : Nat) : Int)), (26, pz x1021.2.2.2.2.2.2.2)], [(0, .box [pz 0, pz 0, pz 0, pz 0, pz 0, pz 0]), (1, .box [pz x1021.1, pz x1021.2.1, pz x1021.2.2.1, pz x1021.2.2.2.1, pz x1021.2.2.2.2.1, pz x1021.2.2.2.2.2.1])], [], 2⟩)
 (.exit 0) (fun (y1126 : (Int × Int × Int × Int × Int × Int × Int)) => ⟨[(4, .ptr 0 0), (7, .ptr 1 0), (8, pz y1126.2.2.2.2.2.2)], [(0, .box [pz 0, pz 0, pz 0, pz 0, pz 0, pz 0]), (1, .box [pz y1126.1, pz y1126.2.1, pz y1126.2.2.1, pz y1126.2.2.2.1, pz y1126.2.2.2.2.1, pz y1126.2.2.2.2.2.1])], [], 2⟩)
 (fun x1021 => .br (decide (x1021.2.2.2.2.2.2.2 < ((a1.length : Nat) : Int)))
 (.grd (0 ≤ x1021.2.2.2.2.2.2.2 ∧ x1021.2.2.2.2.2.2.2 < ((a1.length : Nat) : Int)) <|
 .cut 1 (fun (y1180 : Bool) => ⟨[(0, .pure (encL 6 az4 a0)), (4, .ptr 0 0), (7, .ptr 1 0), (8, pz x1021.2.2.2.2.2.2.1), (9, pz x1021.2.2.2.2.2.2.2), (10, pz (a1.getD ((x1021.2.2.2.2.2.2.2).toNat) default)), (24, .pure (encL 1 az3 a1)), (25, pz ((a1.length : Nat) : Int)), (26, pz x1021.2.2.2.2.2.2.2), (36, .pure (.bool y1180))], [(0, .box [pz 0, pz 0, pz 0, pz 0, pz 0, pz 0]), (1, .box [pz x1021.1, pz x1021.2.1, pz x1021.2.2.1, pz x1021.2.2.2.1, pz x1021.2.2.2.2.1, pz x1021.2.2.2.2.2.1])], [], 2⟩)
 (.br (decide ((a1.getD ((x1021.2.2.2.2.2.2.2).toNat) default) < 0))
 (.ret (.out true))
 (.ret (.out (decide ((a1.getD ((x1021.2.2.2.2.2.2.2).toNat) default) > 65536))))) fun y1180 =>
 .br y1180
 (.ret (.fin (((⟨0, 0⟩ : az0), (⟨0, 0⟩ : az0), (⟨0, 0⟩ : az0)), 0, false)))
 (.grd (0 ≤ x1021.2.2.2.2.2.2.2 ∧ x1021.2.2.2.2.2.2.2 < ((a0.length : Nat) : Int)) <|
 .unroll 4 <|
 .known true <|
 .ix 0 3 rfl <|
 .ix 0 3 rfl <|
 .name 14007 ((IntKind.i64.wrap ((a1.getD ((x1021.2.2.2.2.2.2.2).toNat) default) * ((a0.getD ((x1021.2.2.2.2.2.2.2).toNat) default).1.Lo)))) fun z1203 =>
 .name 14008 ((IntKind.i64.wrap (x1021.1 + z1203))) fun z1204 =>
 .ix 0 3 rfl <|
 .ix 0 3 rfl <|
 .name 15007 ((IntKind.i64.wrap ((a1.getD ((x1021.2.2.2.2.2.2.2).toNat) default) * ((a0.getD ((x1021.2.2.2.2.2.2.2).toNat) default).1.Hi)))) fun z1205 =>
 .name 15008 ((IntKind.i64.wrap (x1021.2.1 + z1205))) fun z1206 =>
 .ix 0 3 rfl <|
 .lit 16000 (1) <|
 .known true <|
 .ix 1 3 rfl <|
 .ix 1 3 rfl <|
 .name 14007 ((IntKind.i64.wrap ((a1.getD ((x1021.2.2.2.2.2.2.2).toNat) default) * ((a0.getD ((x1021.2.2.2.2.2.2.2).toNat) default).2.1.Lo)))) fun z1215 =>
 .name 14008 ((IntKind.i64.wrap (x1021.2.2.1 + z1215))) fun z1216 =>
 .ix 1 3 rfl <|
 .ix 1 3 rfl <|
 .name 15007 ((IntKind.i64.wrap ((a1.getD ((x1021.2.2.2.2.2.2.2).toNat) default) * ((a0.getD ((x1021.2.2.2.2.2.2.2).toNat) default).2.1.Hi)))) fun z1217 =>
 .name 15008 ((IntKind.i64.wrap (x1021.2.2.2.1 + z1217))) fun z1218 =>
 .ix 1 3 rfl <|
 .lit 16000 (2) <|
 .known true <|
 .ix 2 3 rfl <|
 .ix 2 3 rfl <|
 .name 14007 ((IntKind.i64.wrap ((a1.getD ((x1021.2.2.2.2.2.2.2).toNat) default) * ((a0.getD ((x1021.2.2.2.2.2.2.2).toNat) default).2.2.Lo)))) fun z1227 =>
 .name 14008 ((IntKind.i64.wrap (x1021.2.2.2.2.1 + z1227))) fun z1228 =>
 .ix 2 3 rfl <|
 .ix 2 3 rfl <|
 .name 15007 ((IntKind.i64.wrap ((a1.getD ((x1021.2.2.2.2.2.2.2).toNat) default) * ((a0.getD ((x1021.2.2.2.2.2.2.2).toNat) default).2.2.Hi)))) fun z1229 =>
 .name 15008 ((IntKind.i64.wrap (x1021.2.2.2.2.2.1 + z1229))) fun z1230 =>
 .ix 2 3 rfl <|
 .lit 16000 (3) <|
 .known false <|
 .ret (.next (z1204, z1206, z1216, z1218, z1228, z1230, (IntKind.i64.wrap (x1021.2.2.2.2.2.2.1 + (a1.getD ((x1021.2.2.2.2.2.2.2).toNat) default))), (IntKind.i64.wrap (x1021.2.2.2.2.2.2.2 + 1))))))
 (.ret (.out (x1021.1, x1021.2.1, x1021.2.2.1, x1021.2.2.2.1, x1021.2.2.2.2.1, x1021.2.2.2.2.2.1, x1021.2.2.2.2.2.2.1))))
 (0, 0, 0, 0, 0, 0, 0, 0) [] fun y1126 =>
 .cut 1 (fun (y1232 : Bool) => ⟨[(4, .ptr 0 0), (7, .ptr 1 0), (8, pz y1126.2.2.2.2.2.2), (78, .pure (.bool y1232))], [(0, .box [pz 0, pz 0, pz 0, pz 0, pz 0, pz 0]), (1, .box [pz y1126.1, pz y1126.2.1, pz y1126.2.2.1, pz y1126.2.2.2.1, pz y1126.2.2.2.2.1, pz y1126.2.2.2.2.2.1])], [], 2⟩)
 (.br (decide (y1126.2.2.2.2.2.2 < 1))
 (.ret (.out true))
 (.ret (.out (decide (y1126.2.2.2.2.2.2 > 65536))))) fun y1232 =>
 .br y1232
 (.ret (((⟨0, 0⟩ : az0), (⟨0, 0⟩ : az0), (⟨0, 0⟩ : az0)), 0, false))
 (.ret (((⟨y1126.1, y1126.2.1⟩ : az0), (⟨y1126.2.2.1, y1126.2.2.2.1⟩ : az0), (⟨y1126.2.2.2.2.1, y1126.2.2.2.2.2.1⟩ : az0)), y1126.2.2.2.2.2.2, true)))
noncomputable def mz3 (a0 : (List (az0 × az0 × az0))) (a1 : (List Int)) : CallS ((az0 × az0 × az0) × Int × Bool) :=
  mkC [] hd Tryz.func220 (by kernel_rfl) (mz4 a0 a1) 0 [.pure (encL 6 az4 a0), .pure (encL 1 az3 a1)] [] (fun r => .tup [.pure (az4 r.1), pz r.2.1, .pure (.bool r.2.2)]) (fun _ => []) (by kernel_rfl)
noncomputable def hzh (a0 : Int) : T Bool :=
 .br (decide (a0 ≥ 0))
 (.ret (decide (a0 ≤ 1048576)))
 (.ret false)
noncomputable def hzg (a0 : Int) : CallS Bool :=
  mkC [] hd Tryz.func221 (by kernel_rfl) (hzh a0) 0 [pz a0] [] (fun r => .pure (.bool r)) (fun _ => []) (by kernel_rfl)
noncomputable def hzf (a0 : (List Int)) : T Int :=
 .loop (fun (x5 : (Int × Int)) => ⟨[(3, pz x5.1), (6, .pure (encL 1 az3 a0)), (7, pz ((a0.length : Nat) : Int)), (8, pz x5.2)], [], [], 0⟩)
 (.exit 0) (fun (y6 : Int) => ⟨[(3, pz y6)], [], [], 0⟩)
 (fun x5 => .br (decide (x5.2 < ((a0.length : Nat) : Int)))
 (.grd (0 ≤ x5.2 ∧ x5.2 < ((a0.length : Nat) : Int)) <|
 .ret (.next ((max (max x5.1 (a0.getD ((x5.2).toNat) default)) (IntKind.i64.wrap (0 - (a0.getD ((x5.2).toNat) default)))), (IntKind.i64.wrap (x5.2 + 1)))))
 (.ret (.out x5.1)))
 (0, 0) [] fun y6 =>
 .ret y6
noncomputable def fz3 (a0 : (List Int)) : CallS Int :=
  mkC [] hd Tryz.func222 (by kernel_rfl) (hzf a0) 0 [.pure (encL 1 az3 a0)] [] (fun r => pz r) (fun _ => []) (by kernel_rfl)
noncomputable def kzb (a0 : (List Int)) (a1 : (List Int)) (a2 : (List (az0 × az0 × az0))) (a3 : Int) (a4 : (List (az0 × az0 × az0))) (a5 : Int) : T (Int × Bool) :=
 .call (mz3 a2 a0) [] fun y84 =>
 .call (mz3 a4 a1) [] fun y86 =>
 .cut 1 (fun (y98 : Bool) => ⟨[(3, pz a3), (5, pz a5), (12, .ptr 0 0), (13, .ptr 1 0), (14, .ptr 2 0), (15, pz y84.2.1), (17, .ptr 3 0), (59, .pure (.bool y98))], [(0, .box [pz 0]), (1, .box [.ff]), (2, .box [pz y84.1.1.Lo, pz y84.1.1.Hi, pz y84.1.2.1.Lo, pz y84.1.2.1.Hi, pz y84.1.2.2.Lo, pz y84.1.2.2.Hi]), (3, .box [pz y86.1.1.Lo, pz y86.1.1.Hi, pz y86.1.2.1.Lo, pz y86.1.2.1.Hi, pz y86.1.2.2.Lo, pz y86.1.2.2.Hi])], [.func 219 [] [.ptr 0 0, .ptr 1 0]], 4⟩)
 (.br (!y84.2.2)
 (.ret (.out true))
 (.br (!y86.2.2)
 (.ret (.out true))
 (.br (y84.2.1 != y86.2.1)
 (.ret (.out true))
 (.call (hzg a3) [] fun y99 =>
 .br (!y99)
 (.ret (.out true))
 (.call (hzg a5) [] fun y100 =>
 .ret (.out (!y100))))))) fun y98 =>
 .br y98
 (.ret (0, false))
 (.unroll 4 <|
 .known true <|
 .ix 0 3 rfl <|
 .ix 0 3 rfl <|
 .ix 0 3 rfl <|
 .ix 0 3 rfl <|
 .conv 11018 (czp 1 az3 ([(IntKind.i64.wrap (y84.1.1.Lo - y86.1.1.Hi)), (IntKind.i64.wrap (y84.1.1.Hi - y86.1.1.Lo))] : (List Int)) 2) <|
 .call (fz3 ([(IntKind.i64.wrap (y84.1.1.Lo - y86.1.1.Hi)), (IntKind.i64.wrap (y84.1.1.Hi - y86.1.1.Lo))] : (List Int))) [] fun y150 =>
 .grd (y84.2.1 ≠ 0) <|
 .br (decide ((IntKind.i64.wrap ((IntKind.i64.wrap ((IntKind.i64.wrap (y150 + y84.2.1)) - 1)).tdiv y84.2.1)) > (IntKind.i64.wrap (a3 + a5))))
 (.ret ((-1), true))
 (.name 15003 ((IntKind.i64.wrap ((IntKind.i64.wrap ((IntKind.i64.wrap ((IntKind.i64.wrap (y150 + y84.2.1)) - 1)).tdiv y84.2.1)) * (IntKind.i64.wrap ((IntKind.i64.wrap ((IntKind.i64.wrap (y150 + y84.2.1)) - 1)).tdiv y84.2.1))))) fun z151 =>
 .name 15004 ((IntKind.i64.wrap ((IntKind.i64.wrap ((IntKind.i64.wrap (a3 + a5)) * (IntKind.i64.wrap (a3 + a5)))) - z151))) fun z152 =>
 .lit 16000 (1) <|
 .known true <|
 .ix 1 3 rfl <|
 .ix 1 3 rfl <|
 .ix 1 3 rfl <|
 .ix 1 3 rfl <|
 .conv 11018 (czp 1 az3 ([(IntKind.i64.wrap (y84.1.2.1.Lo - y86.1.2.1.Hi)), (IntKind.i64.wrap (y84.1.2.1.Hi - y86.1.2.1.Lo))] : (List Int)) 2) <|
 .call (fz3 ([(IntKind.i64.wrap (y84.1.2.1.Lo - y86.1.2.1.Hi)), (IntKind.i64.wrap (y84.1.2.1.Hi - y86.1.2.1.Lo))] : (List Int))) [] fun y158 =>
 .grd (y84.2.1 ≠ 0) <|
 .br (decide ((IntKind.i64.wrap ((IntKind.i64.wrap ((IntKind.i64.wrap (y158 + y84.2.1)) - 1)).tdiv y84.2.1)) > (IntKind.i64.wrap (a3 + a5))))
 (.ret ((-1), true))
 (.name 15003 ((IntKind.i64.wrap ((IntKind.i64.wrap ((IntKind.i64.wrap ((IntKind.i64.wrap (y158 + y84.2.1)) - 1)).tdiv y84.2.1)) * (IntKind.i64.wrap ((IntKind.i64.wrap ((IntKind.i64.wrap (y158 + y84.2.1)) - 1)).tdiv y84.2.1))))) fun z159 =>
 .name 15004 ((IntKind.i64.wrap (z152 - z159))) fun z160 =>
 .lit 16000 (2) <|
 .known true <|
 .ix 2 3 rfl <|
 .ix 2 3 rfl <|
 .ix 2 3 rfl <|
 .ix 2 3 rfl <|
 .conv 11018 (czp 1 az3 ([(IntKind.i64.wrap (y84.1.2.2.Lo - y86.1.2.2.Hi)), (IntKind.i64.wrap (y84.1.2.2.Hi - y86.1.2.2.Lo))] : (List Int)) 2) <|
 .call (fz3 ([(IntKind.i64.wrap (y84.1.2.2.Lo - y86.1.2.2.Hi)), (IntKind.i64.wrap (y84.1.2.2.Hi - y86.1.2.2.Lo))] : (List Int))) [] fun y166 =>
 .grd (y84.2.1 ≠ 0) <|
 .br (decide ((IntKind.i64.wrap ((IntKind.i64.wrap ((IntKind.i64.wrap (y166 + y84.2.1)) - 1)).tdiv y84.2.1)) > (IntKind.i64.wrap (a3 + a5))))
 (.ret ((-1), true))
 (.name 15003 ((IntKind.i64.wrap ((IntKind.i64.wrap ((IntKind.i64.wrap ((IntKind.i64.wrap (y166 + y84.2.1)) - 1)).tdiv y84.2.1)) * (IntKind.i64.wrap ((IntKind.i64.wrap ((IntKind.i64.wrap (y166 + y84.2.1)) - 1)).tdiv y84.2.1))))) fun z167 =>
 .name 15004 ((IntKind.i64.wrap (z160 - z167))) fun z168 =>
 .lit 16000 (3) <|
 .known false <|
 .ret (z168, true)))))
noncomputable def qzt (a0 : (List Int)) (a1 : (List Int)) (a2 : (List (az0 × az0 × az0))) (a3 : Int) (a4 : (List (az0 × az0 × az0))) (a5 : Int) : CallS (Int × Bool) :=
  mkC [⟨219, Nzu⟩] hd Tryz.func177 (by kernel_rfl) (kzb a0 a1 a2 a3 a4 a5) 0 [.pure (encL 1 az3 a0), .pure (encL 1 az3 a1), .pure (encL 6 az4 a2), pz a3, .pure (encL 6 az4 a4), pz a5] [] (fun r => .tup [pz r.1, .pure (.bool r.2)]) (fun _ => []) (by kernel_rfl)
noncomputable def hze (a0 : (List Int)) (a1 : (List Int)) (a2 : (List (az0 × az0 × az0))) (a3 : Int) (a4 : (List (az0 × az0 × az0))) (a5 : Int) : T Bool :=
 .call (qzt a0 a1 a2 a3 a4 a5) [] fun y2 =>
 .br y2.2
 (.ret (decide (y2.1 ≥ 0)))
 (.ret false)
noncomputable def hzd (a0 : (List Int)) (a1 : (List Int)) (a2 : (List (az0 × az0 × az0))) (a3 : Int) (a4 : (List (az0 × az0 × az0))) (a5 : Int) : CallS Bool :=
  mkC [⟨176, Nzt⟩] hd Tryz.func142 (by kernel_rfl) (hze a0 a1 a2 a3 a4 a5) 0 [.pure (encL 1 az3 a0), .pure (encL 1 az3 a1), .pure (encL 6 az4 a2), pz a3, .pure (encL 6 az4 a4), pz a5] [] (fun r => .pure (.bool r)) (fun _ => []) (by kernel_rfl)
noncomputable def vza (a0 : dz7) : T dzl :=
 .ret (⟨2, nl, a0.witness⟩ : dzl)
noncomputable def vz9 (a0 : dz7) : CallS dzl :=
  mkC [] hd Tryz.func143 (by kernel_rfl) (vza a0) 0 [.iface 219 (.pure (rz0 a0))] [] (fun r => .pure (uzb r)) (fun _ => []) (by kernel_rfl)
noncomputable def tz4 (a0 : czv) : T dzl :=
 .ret (⟨1, a0.normals, (⟨0, nl, nl⟩ : azz)⟩ : dzl)
noncomputable def tz3 (a0 : czv) : CallS dzl :=
  mkC [] hd Tryz.func143 (by kernel_rfl) (tz4 a0) 0 [.iface 221 (.pure (pz9 a0))] [] (fun r => .pure (uzb r)) (fun _ => []) (by kernel_rfl)
noncomputable def nz5 (a0 : azn) (a1 : (List az0)) (a2 : (List (Int × Int × Int))) : T dzl :=
 .call (qze (⟨a0.Robot, a0.Shapes, a0.Skips⟩ : azn) a1) [] fun y2 =>
 .br (!y2.2)
 (.ret (⟨0, nl, (⟨0, nl, nl⟩ : azz)⟩ : dzl))
 (.conv 5003 (Ezt 3 az2 78 (((y2.1.pairs.length : Nat) : Int)).toNat (0, 0, 0)) <|
 .grd (0 ≤ ((y2.1.pairs.length : Nat) : Int) ∧ ((y2.1.pairs.length : Nat) : Int) ≤ ((y2.1.pairs.length : Nat) : Int) ∧ ((y2.1.pairs.length : Nat) : Int) ≤ 9223372036854775807 ∧ ((y2.1.pairs.length : Nat) : Int) * 24 ≤ 140737488355328) <|
 .loop (fun (x191 : ((List (Int × Int × Int)) × Bool × Int)) => ⟨[(2, .pure (encL 3 az2 a2)), (6, .ptr 0 0), (7, .ptr 4 0), (9, .vec 5), (10, .pure (.bool x191.2.1)), (33, pz ((y2.1.pairs.length : Nat) : Int)), (34, pz x191.2.2)], [(0, .box [pz 0, .vec 1, pz 0, .vec 2, .vec 3]), (1, .nilv), (2, .nilv), (3, .nilv), (4, .box [.pure (encL 3 azv y2.1.shapes), .pure (encL 2 gz9 y2.1.pairs), .pure (encL 1 (encL 6 az4) y2.1.points)]), (5, vecO 3 az2 x191.1 78)], [.func 136 [] [.ptr 0 0]], 6⟩)
 (.exit 0) (fun (y238 : ((List (Int × Int × Int)) × Bool)) => ⟨[(6, .ptr 0 0), (9, .vec 4), (10, .pure (.bool y238.2))], [(0, .box [pz 0, .vec 1, pz 0, .vec 2, .vec 3]), (1, .nilv), (2, .nilv), (3, .nilv), (4, vecO 3 az2 y238.1 78)], [.func 136 [] [.ptr 0 0]], 5⟩)
 (fun x191 => .br (decide (x191.2.2 < ((y2.1.pairs.length : Nat) : Int)))
 (.cut 0 (fun (y269 : ((List (Int × Int × Int)) × Bool)) => ⟨[(2, .pure (encL 3 az2 a2)), (6, .ptr 0 0), (7, .ptr 4 0), (9, .vec 5), (10, .pure (.bool y269.2)), (33, pz ((y2.1.pairs.length : Nat) : Int)), (34, pz x191.2.2)], [(0, .box [pz 0, .vec 1, pz 0, .vec 2, .vec 3]), (1, .nilv), (2, .nilv), (3, .nilv), (4, .box [.pure (encL 3 azv y2.1.shapes), .pure (encL 2 gz9 y2.1.pairs), .pure (encL 1 (encL 6 az4) y2.1.points)]), (5, vecO 3 az2 y269.1 78)], [.func 136 [] [.ptr 0 0]], 6⟩)
 (.call (vz7 (⟨y2.1.shapes, y2.1.pairs, y2.1.points⟩ : bzq) x191.2.2) [] fun y271 =>
 .conv 11010 (Qzk 3 az2 a2 (min x191.2.2 ((a2.length : Nat) : Int)) (min (IntKind.i64.wrap (x191.2.2 + 1)) ((a2.length : Nat) : Int))) <|
 .grd (0 ≤ (min x191.2.2 ((a2.length : Nat) : Int)) ∧ (min x191.2.2 ((a2.length : Nat) : Int)) ≤ (min (IntKind.i64.wrap (x191.2.2 + 1)) ((a2.length : Nat) : Int)) ∧ (min (IntKind.i64.wrap (x191.2.2 + 1)) ((a2.length : Nat) : Int)) ≤ ((a2.length : Nat) : Int)) <|
 .call (nzr y271.a y271.ra y271.b y271.rb ((a2.drop (((min x191.2.2 ((a2.length : Nat) : Int))).toNat)).take (((min (IntKind.i64.wrap (x191.2.2 + 1)) ((a2.length : Nat) : Int))).toNat - ((min x191.2.2 ((a2.length : Nat) : Int))).toNat))) [] fun y275 =>
 .br y275.2
 (.grd (0 ≤ x191.2.2 ∧ x191.2.2 < ((x191.1.length : Nat) : Int)) <|
 .conv 14004 (fzj 3 az2 x191.1 78 ((x191.2.2).toNat) y275.1) <|
 .grd ((x191.2.2).toNat < x191.1.length ∧ 0 ≤ (x191.2.2).toNat) <|
 .ret (.out ((x191.1.set ((x191.2.2).toNat) y275.1), x191.2.1)))
 (.call (cz3 y271.a) [] fun y279 =>
 .call (cz3 y271.b) [] fun y280 =>
 .call (dzt y279 y280 (IntKind.i64.wrap (y271.ra + y271.rb)) 64) [] fun y281 =>
 .call (hzd y281.Left y281.Right y271.a y271.ra y271.b y271.rb) [] fun y283 =>
 .br y283
 (.call (vz9 (⟨(⟨x191.2.2, y281.Left, y281.Right⟩ : azz)⟩ : dz7)) [] fun y284 =>
 .ret (.fin (.fin y284)))
 (.ret (.out (x191.1, false))))) fun y269 =>
 .ret (.next (y269.1, y269.2, (IntKind.i64.wrap (x191.2.2 + 1)))))
 (.ret (.out (x191.1, x191.2.1))))
 ((List.replicate (((y2.1.pairs.length : Nat) : Int)).toNat ((0, 0, 0) : (Int × Int × Int))), true, 0) [] fun y238 =>
 .br (!y238.2)
 (.ret (⟨0, y238.1, (⟨0, nl, nl⟩ : azz)⟩ : dzl))
 (.call (tz3 (⟨y238.1⟩ : czv)) [] fun y285 =>
 .ret y285))
noncomputable def jz0 (a0 : azn) (a1 : (List az0)) (a2 : (List (Int × Int × Int))) : CallS dzl :=
  mkC [⟨136, Nzr⟩] hd Tryz.func106 (by kernel_rfl) (nz5 a0 a1 a2) 0 [.pure (ezr a0), .pure (encL 2 azf a1), .pure (encL 3 az2 a2)] [] (fun r => .pure (uzb r)) (fun _ => []) (by kernel_rfl)
abbrev nza := RecS Tryz.prog 104 8 (Int × Int × (List (Int × Int × Int)) × (List azq) × Int × (List azq) × Int × Int × (List (Int × Int × Int)) × Int × (List Int) × (List Int) × (List Int) × (List Int) × (List azs) × (List bzf) × (List bz0) × (List gzl) × Int) (Bool × (List azq) × Int × (List azq) × Int × Int × (List (Int × Int × Int)) × Int × (List Int) × (List Int) × (List Int) × (List Int) × (List azs) × (List bzf) × (List bz0) × (List gzl) × Int) (fun a => [pz a.1, pz a.2.1, .pure (encL 3 az2 a.2.2.1), .ptr 0 0, .ptr 2 0, .ptr 3 0, .ptr 4 0, .ptr 5 0, .ptr 6 0, .ptr 7 0]) (fun a => [(0, .box [.vec 1]), (1, vecO 3 bz1 a.2.2.2.1 58), (2, .box [pz a.2.2.2.2.1, .pure (encL 3 bz1 a.2.2.2.2.2.1), pz a.2.2.2.2.2.2.1, pz a.2.2.2.2.2.2.2.1, .pure (encL 3 az2 a.2.2.2.2.2.2.2.2.1), pz a.2.2.2.2.2.2.2.2.2.1, .pure (encL 1 az3 a.2.2.2.2.2.2.2.2.2.2.1), .pure (encL 1 az3 a.2.2.2.2.2.2.2.2.2.2.2.1)]), (3, .box [.pure (encL 1 az3 a.2.2.2.2.2.2.2.2.2.2.2.2.1)]), (4, .box [.pure (encL 1 az3 a.2.2.2.2.2.2.2.2.2.2.2.2.2.1)]), (5, .box [.pure (encL 12 azh a.2.2.2.2.2.2.2.2.2.2.2.2.2.2.1), .pure (encL 5 azl a.2.2.2.2.2.2.2.2.2.2.2.2.2.2.2.1), .pure (encL 3 azv a.2.2.2.2.2.2.2.2.2.2.2.2.2.2.2.2.1), .pure (encL 2 bzp a.2.2.2.2.2.2.2.2.2.2.2.2.2.2.2.2.2.1)]), (6, .box [pz a.2.2.2.2.2.2.2.2.2.2.2.2.2.2.2.2.2.2]), (7, .box [.func 104 [] [.ptr 0 0, .ptr 2 0, .ptr 3 0, .ptr 4 0, .ptr 5 0, .ptr 6 0, .ptr 7 0]])]) (fun _ r => .pure (.bool r.1)) (fun _ r => [(0, .box [.vec 8]), (1, .gone), (2, .box [pz r.2.2.1, .pure (encL 3 bz1 r.2.2.2.1), pz r.2.2.2.2.1, pz r.2.2.2.2.2.1, .pure (encL 3 az2 r.2.2.2.2.2.2.1), pz r.2.2.2.2.2.2.2.1, .pure (encL 1 az3 r.2.2.2.2.2.2.2.2.1), .pure (encL 1 az3 r.2.2.2.2.2.2.2.2.2.1)]), (3, .box [.pure (encL 1 az3 r.2.2.2.2.2.2.2.2.2.2.1)]), (4, .box [.pure (encL 1 az3 r.2.2.2.2.2.2.2.2.2.2.2.1)]), (5, .box [.pure (encL 12 azh r.2.2.2.2.2.2.2.2.2.2.2.2.1), .pure (encL 5 azl r.2.2.2.2.2.2.2.2.2.2.2.2.2.1), .pure (encL 3 azv r.2.2.2.2.2.2.2.2.2.2.2.2.2.2.1), .pure (encL 2 bzp r.2.2.2.2.2.2.2.2.2.2.2.2.2.2.2.1)]), (6, .box [pz r.2.2.2.2.2.2.2.2.2.2.2.2.2.2.2.2]), (7, .box [.func 104 [] [.ptr 0 0, .ptr 2 0, .ptr 3 0, .ptr 4 0, .ptr 5 0, .ptr 6 0, .ptr 7 0]]), (8, vecO 3 bz1 r.2.1 58)])
noncomputable def nzb (rec : nza) (a0 : Int) (a1 : Int) (a2 : (List (Int × Int × Int))) (a3 : (List azq)) (a4 : Int) (a5 : (List azq)) (a6 : Int) (a7 : Int) (a8 : (List (Int × Int × Int))) (a9 : Int) (a10 : (List Int)) (a11 : (List Int)) (a12 : (List Int)) (a13 : (List Int)) (a14 : (List azs)) (a15 : (List bzf)) (a16 : (List bz0)) (a17 : (List gzl)) (a18 : Int) : T (Bool × (List azq) × Int × (List azq) × Int × Int × (List (Int × Int × Int)) × Int × (List Int) × (List Int) × (List Int) × (List Int) × (List azs) × (List bzf) × (List bz0) × (List gzl) × Int) :=
 .br (decide (((a3.length : Nat) : Int) ≥ 4096))
 (.ret (false, a3, 0, nl, a0, a1, nl, 0, nl, nl, a12, a13, a14, a15, a16, a17, a18))
 (.call (tzd a12 a13 a0 a1) [] fun y6 =>
 .call (jz0 (⟨(⟨a14, a15⟩ : azo), a16, a17⟩ : azn) y6.1 a2) [] fun y8 =>
 .br (y8.Kind == 1)
 (.conv 8006 (czp 3 bz1 ([(⟨a0, a1, y8.Normals⟩ : azq)] : (List azq)) 58) <|
 .conv 8007 (fzt 3 bz1 a3 ([(⟨a0, a1, y8.Normals⟩ : azq)] : (List azq)) 58) <|
 .grd ((a3.length + ([(⟨a0, a1, y8.Normals⟩ : azq)] : (List azq)).length) * 40 ≤ 140737488355328 ∧ (a3.length + ([(⟨a0, a1, y8.Normals⟩ : azq)] : (List azq)).length) ≤ maxLen) <|
 .ret (true, (a3 ++ ([(⟨a0, a1, y8.Normals⟩ : azq)] : (List azq))), a4, a5, a6, a7, a8, a9, a10, a11, a12, a13, a14, a15, a16, a17, a18))
 (.br (y8.Kind == 2)
 (.ret (false, a3, 2, nl, a0, a1, nl, y8.Witness.Pair, y8.Witness.Left, y8.Witness.Right, a12, a13, a14, a15, a16, a17, a18))
 (.br (decide (a0 < a18))
 (.call (rec.C ((IntKind.i64.wrap (a0 + 1)), (IntKind.i64.wrap (2 * a1)), y8.Normals, a3, a4, a5, a6, a7, a8, a9, a10, a11, a12, a13, a14, a15, a16, a17, a18)) [(0, 0), (1, 1), (2, 2), (3, 3), (4, 4), (5, 5), (6, 6), (7, 7)] fun y11 =>
 .br y11.1
 (.call (rec.C ((IntKind.i64.wrap (a0 + 1)), (IntKind.i64.wrap ((IntKind.i64.wrap (2 * a1)) + 1)), y8.Normals, y11.2.1, y11.2.2.1, y11.2.2.2.1, y11.2.2.2.2.1, y11.2.2.2.2.2.1, y11.2.2.2.2.2.2.1, y11.2.2.2.2.2.2.2.1, y11.2.2.2.2.2.2.2.2.1, y11.2.2.2.2.2.2.2.2.2.1, y11.2.2.2.2.2.2.2.2.2.2.1, y11.2.2.2.2.2.2.2.2.2.2.2.1, y11.2.2.2.2.2.2.2.2.2.2.2.2.1, y11.2.2.2.2.2.2.2.2.2.2.2.2.2.1, y11.2.2.2.2.2.2.2.2.2.2.2.2.2.2.1, y11.2.2.2.2.2.2.2.2.2.2.2.2.2.2.2.1, y11.2.2.2.2.2.2.2.2.2.2.2.2.2.2.2.2)) [(0, 0), (1, 2824), (2, 2), (3, 3), (4, 4), (5, 5), (6, 6), (7, 7)] fun y12 =>
 .ret (y12.1, y12.2.1, y12.2.2.1, y12.2.2.2.1, y12.2.2.2.2.1, y12.2.2.2.2.2.1, y12.2.2.2.2.2.2.1, y12.2.2.2.2.2.2.2.1, y12.2.2.2.2.2.2.2.2.1, y12.2.2.2.2.2.2.2.2.2.1, y12.2.2.2.2.2.2.2.2.2.2.1, y12.2.2.2.2.2.2.2.2.2.2.2.1, y12.2.2.2.2.2.2.2.2.2.2.2.2.1, y12.2.2.2.2.2.2.2.2.2.2.2.2.2.1, y12.2.2.2.2.2.2.2.2.2.2.2.2.2.2.1, y12.2.2.2.2.2.2.2.2.2.2.2.2.2.2.2.1, y12.2.2.2.2.2.2.2.2.2.2.2.2.2.2.2.2))
 (.ret (false, y11.2.1, y11.2.2.1, y11.2.2.2.1, y11.2.2.2.2.1, y11.2.2.2.2.2.1, y11.2.2.2.2.2.2.1, y11.2.2.2.2.2.2.2.1, y11.2.2.2.2.2.2.2.2.1, y11.2.2.2.2.2.2.2.2.2.1, y11.2.2.2.2.2.2.2.2.2.2.1, y11.2.2.2.2.2.2.2.2.2.2.2.1, y11.2.2.2.2.2.2.2.2.2.2.2.2.1, y11.2.2.2.2.2.2.2.2.2.2.2.2.2.1, y11.2.2.2.2.2.2.2.2.2.2.2.2.2.2.1, y11.2.2.2.2.2.2.2.2.2.2.2.2.2.2.2.1, y11.2.2.2.2.2.2.2.2.2.2.2.2.2.2.2.2)))
 (.ret (false, a3, 0, nl, a0, a1, nl, 0, nl, nl, a12, a13, a14, a15, a16, a17, a18)))))
noncomputable def ezx : nza → nza := RecS.next [] hd Tryz.func104 (by kernel_rfl) (fun rec a => nzb rec a.1 a.2.1 a.2.2.1 a.2.2.2.1 a.2.2.2.2.1 a.2.2.2.2.2.1 a.2.2.2.2.2.2.1 a.2.2.2.2.2.2.2.1 a.2.2.2.2.2.2.2.2.1 a.2.2.2.2.2.2.2.2.2.1 a.2.2.2.2.2.2.2.2.2.2.1 a.2.2.2.2.2.2.2.2.2.2.2.1 a.2.2.2.2.2.2.2.2.2.2.2.2.1 a.2.2.2.2.2.2.2.2.2.2.2.2.2.1 a.2.2.2.2.2.2.2.2.2.2.2.2.2.2.1 a.2.2.2.2.2.2.2.2.2.2.2.2.2.2.2.1 a.2.2.2.2.2.2.2.2.2.2.2.2.2.2.2.2.1 a.2.2.2.2.2.2.2.2.2.2.2.2.2.2.2.2.2.1 a.2.2.2.2.2.2.2.2.2.2.2.2.2.2.2.2.2.2) (fun rec a => by kernel_rfl)
noncomputable def tzf (a0 : Int) (a1 : Int) (a2 : (List (Int × Int × Int))) (a3 : (List azq)) (a4 : Int) (a5 : (List azq)) (a6 : Int) (a7 : Int) (a8 : (List (Int × Int × Int))) (a9 : Int) (a10 : (List Int)) (a11 : (List Int)) (a12 : (List Int)) (a13 : (List Int)) (a14 : (List azs)) (a15 : (List bzf)) (a16 : (List bz0)) (a17 : (List gzl)) (a18 : Int) : CallS (Bool × (List azq) × Int × (List azq) × Int × Int × (List (Int × Int × Int)) × Int × (List Int) × (List Int) × (List Int) × (List Int) × (List azs) × (List bzf) × (List bz0) × (List gzl) × Int) := (RecS.fix ezx NN).C (a0, a1, a2, a3, a4, a5, a6, a7, a8, a9, a10, a11, a12, a13, a14, a15, a16, a17, a18)
noncomputable def rza (a0 : azn) (a1 : (List Int)) (a2 : (List Int)) (a3 : Int) : T azj :=
 .unroll 1000 <|
 .cut 2 (fun (y17 : Bool) => ⟨[(4, .ptr 0 0), (5, .ptr 1 0), (6, .ptr 2 0), (7, .ptr 3 0), (8, .ptr 4 0), (28, .pure (.bool y17))], [(0, .box [.pure (encL 12 azh a0.Robot.Joints), .pure (encL 5 azl a0.Robot.Masses), .pure (encL 3 azv a0.Shapes), .pure (encL 2 bzp a0.Skips)]), (1, .box [.pure (encL 1 az3 a1)]), (2, .box [.pure (encL 1 az3 a2)]), (3, .box [pz a3]), (4, .box [pz 0, .pure (.lst 0 0 fun _ => .unk), pz 0, pz 0, .pure (.lst 0 0 fun _ => .unk), pz 0, .pure (.lst 0 0 fun _ => .unk), .pure (.lst 0 0 fun _ => .unk)])], [.func 102 [] [.ptr 4 0]], 5⟩)
 (.call (dzb (⟨a0.Robot, a0.Shapes, a0.Skips⟩ : azn)) [] fun y18 =>
 .br (y18 != 0)
 (.ret (.out true))
 (.call (lze a0.Robot a1) [] fun y19 =>
 .br (!y19)
 (.ret (.out true))
 (.call (lze a0.Robot a2) [] fun y20 =>
 .ret (.out (!y20))))) fun y17 =>
 .br y17
 (.ret (⟨0, nl, (⟨0, 0, nl⟩ : azq), (⟨0, nl, nl⟩ : azz)⟩ : azj))
 (.cut 1 (fun (y22 : Bool) => ⟨[(4, .ptr 0 0), (5, .ptr 1 0), (6, .ptr 2 0), (7, .ptr 3 0), (8, .ptr 4 0), (35, .pure (.bool y22))], [(0, .box [.pure (encL 12 azh a0.Robot.Joints), .pure (encL 5 azl a0.Robot.Masses), .pure (encL 3 azv a0.Shapes), .pure (encL 2 bzp a0.Skips)]), (1, .box [.pure (encL 1 az3 a1)]), (2, .box [.pure (encL 1 az3 a2)]), (3, .box [pz a3]), (4, .box [pz 0, .pure (.lst 0 0 fun _ => .unk), pz 0, pz 0, .pure (.lst 0 0 fun _ => .unk), pz 0, .pure (.lst 0 0 fun _ => .unk), .pure (.lst 0 0 fun _ => .unk)])], [.func 102 [] [.ptr 4 0]], 5⟩)
 (.br (decide (a3 < 0))
 (.ret (.out true))
 (.ret (.out (decide (a3 > 20))))) fun y22 =>
 .br y22
 (.ret (⟨0, nl, (⟨0, 0, nl⟩ : azq), (⟨0, nl, nl⟩ : azz)⟩ : azj))
 (.cut 3 (fun (y27 : (Int × (List azq) × Int × Int × (List (Int × Int × Int)) × Int × (List Int) × (List Int))) => ⟨[(8, .ptr 0 0)], [(0, .box [pz y27.1, .pure (encL 3 bz1 y27.2.1), pz y27.2.2.1, pz y27.2.2.2.1, .pure (encL 3 az2 y27.2.2.2.2.1), pz y27.2.2.2.2.2.1, .pure (encL 1 az3 y27.2.2.2.2.2.2.1), .pure (encL 1 az3 y27.2.2.2.2.2.2.2)])], [.func 102 [] [.ptr 0 0]], 1⟩)
 (.call (tzf 0 0 nl nl 0 nl 0 0 nl 0 nl nl a1 a2 a0.Robot.Joints a0.Robot.Masses a0.Shapes a0.Skips a3) [(0, 5), (1, 6), (2, 4), (3, 1), (4, 2), (5, 0), (6, 3), (7, 69)] fun y29 =>
 .br y29.1
 (.ret (.out (1, y29.2.1, 0, 0, nl, 0, nl, nl)))
 (.ret (.out (y29.2.2.1, y29.2.2.2.1, y29.2.2.2.2.1, y29.2.2.2.2.2.1, y29.2.2.2.2.2.2.1, y29.2.2.2.2.2.2.2.1, y29.2.2.2.2.2.2.2.2.1, y29.2.2.2.2.2.2.2.2.2.1)))) fun y27 =>
 .ret (⟨y27.1, y27.2.1, (⟨y27.2.2.1, y27.2.2.2.1, y27.2.2.2.2.1⟩ : azq), (⟨y27.2.2.2.2.2.1, y27.2.2.2.2.2.2.1, y27.2.2.2.2.2.2.2⟩ : azz)⟩ : azj)))
noncomputable def jzf (a0 : azn) (a1 : (List Int)) (a2 : (List Int)) (a3 : Int) : CallS azj :=
  mkC [⟨102, Nzq⟩] hd Tryz.func71 (by kernel_rfl) (rza a0 a1 a2 a3) 0 [.pure (ezr a0), .pure (encL 1 az3 a1), .pure (encL 1 az3 a2), pz a3] [] (fun r => .pure (dzh r)) (fun _ => []) (by kernel_rfl)
noncomputable def qz3 (a0 : azn) (a1 : (List (List Int))) (a2 : (List az1)) (a3 : Nat) (a4 : Nat) (a5 : Int) (a6 : Int) : T ((List (List Int)) × (List az1) × Bool) :=
 .cut 3 (fun (y3 : Bool) => ⟨[(2, pz a5), (3, pz a6), (4, .ptr 2 0), (5, .ptr 3 0), (8, .ptr 4 0), (9, .ptr 7 0), (20, .pure (.bool y3))], [(0, vecO 1 (encL 1 az3) a1 59), (1, vecO 12 az5 a2 65), (2, .box [.pure (encL 12 azh a0.Robot.Joints), .pure (encL 5 azl a0.Robot.Masses), .pure (encL 3 azv a0.Shapes), .pure (encL 2 bzp a0.Skips)]), (3, .box [.vec 0, .view 1 12 a3 a4]), (4, .box [.vec 5, .vec 6]), (5, .nilv), (6, .nilv), (7, .box [.ff])], [.func 70 [] [.ptr 4 0, .ptr 7 0]], 8⟩)
 (.br (decide (a5 < 0))
 (.ret (.out true))
 (.ret (.out (decide (a5 ≥ ((a4 : Nat) : Int)))))) fun y3 =>
 .br y3
 (.call (kzr a1 a2 a3 a4) [(0, 0), (1, 1)] fun y4 =>
 .ret (y4.1, y4.2, false))
 (.grd (0 ≤ a5 ∧ a5 < ((a4 : Nat) : Int)) <|
 .grd ((a3 + ((a5).toNat)) < a2.length) <|
 .cut 1 (fun (y17 : Bool) => ⟨[(2, pz a5), (3, pz a6), (4, .ptr 2 0), (5, .ptr 3 0), (8, .ptr 4 0), (9, .ptr 7 0), (10, .ptr 8 0), (49, .pure (.bool y17))], [(0, vecO 1 (encL 1 az3) a1 59), (1, vecO 12 az5 a2 65), (2, .box [.pure (encL 12 azh a0.Robot.Joints), .pure (encL 5 azl a0.Robot.Masses), .pure (encL 3 azv a0.Shapes), .pure (encL 2 bzp a0.Skips)]), (3, .box [.vec 0, .view 1 12 a3 a4]), (4, .box [.vec 5, .vec 6]), (5, .nilv), (6, .nilv), (7, .box [.ff]), (8, .box [pz ((a2.getD (a3 + ((a5).toNat)) default).U), pz ((a2.getD (a3 + ((a5).toNat)) default).V), pz ((a2.getD (a3 + ((a5).toNat)) default).Cost), pz ((a2.getD (a3 + ((a5).toNat)) default).State), pz ((a2.getD (a3 + ((a5).toNat)) default).Proof.Kind), .pure (encL 3 bz1 ((a2.getD (a3 + ((a5).toNat)) default).Proof.Pieces)), pz ((a2.getD (a3 + ((a5).toNat)) default).Proof.At.Depth), pz ((a2.getD (a3 + ((a5).toNat)) default).Proof.At.Index), .pure (encL 3 az2 ((a2.getD (a3 + ((a5).toNat)) default).Proof.At.Normals)), pz ((a2.getD (a3 + ((a5).toNat)) default).Proof.Witness.Pair), .pure (encL 1 az3 ((a2.getD (a3 + ((a5).toNat)) default).Proof.Witness.Left)), .pure (encL 1 az3 ((a2.getD (a3 + ((a5).toNat)) default).Proof.Witness.Right))])], [.func 70 [] [.ptr 4 0, .ptr 7 0]], 9⟩)
 (.call (hzt a1 a2 a3 a4 ((a2.getD (a3 + ((a5).toNat)) default).U)) [(0, 0), (1, 1)] fun y18 =>
 .br (!y18)
 (.ret (.out true))
 (.call (hzt a1 a2 a3 a4 ((a2.getD (a3 + ((a5).toNat)) default).V)) [(0, 0), (1, 1)] fun y19 =>
 .br (!y19)
 (.ret (.out true))
 (.br (((a2.getD (a3 + ((a5).toNat)) default).State) == 1)
 (.ret (.out true))
 (.ret (.out (((a2.getD (a3 + ((a5).toNat)) default).State) == 2)))))) fun y17 =>
 .br y17
 (.call (kzr a1 a2 a3 a4) [(0, 0), (1, 1)] fun y20 =>
 .ret (y20.1, y20.2, false))
 (.grd (0 ≤ ((a2.getD (a3 + ((a5).toNat)) default).U) ∧ ((a2.getD (a3 + ((a5).toNat)) default).U) < ((a1.length : Nat) : Int)) <|
 .grd (((a2.getD (a3 + ((a5).toNat)) default).U).toNat < a1.length) <|
 .grd (0 ≤ ((a2.getD (a3 + ((a5).toNat)) default).V) ∧ ((a2.getD (a3 + ((a5).toNat)) default).V) < ((a1.length : Nat) : Int)) <|
 .grd (((a2.getD (a3 + ((a5).toNat)) default).V).toNat < a1.length) <|
 .call (jzf (⟨a0.Robot, a0.Shapes, a0.Skips⟩ : azn) (a1.getD (((a2.getD (a3 + ((a5).toNat)) default).U).toNat) default) (a1.getD (((a2.getD (a3 + ((a5).toNat)) default).V).toNat) default) a6) [] fun y21 =>
 .call (kze a1 a2 a3 a4 a5 y21) [(0, 0), (1, 1)] fun y22 =>
 .ret (y22.1, y22.2.1, y22.2.2)))
noncomputable def wz8 (a0 : azn) (a1 : (List (List Int))) (a2 : (List az1)) (a3 : Nat) (a4 : Nat) (a5 : Int) (a6 : Int) : CallS ((List (List Int)) × (List az1) × Bool) :=
  mkC [⟨70, Qzv⟩] hd Tryz.func40 (by kernel_rfl) (qz3 a0 a1 a2 a3 a4 a5 a6) 2 [.pure (ezr a0), .agg [.vec 0, .view 1 12 a3 a4], pz a5, pz a6] [(0, vecO 1 (encL 1 az3) a1 59), (1, vecO 12 az5 a2 65)] (fun r => .tup [.agg [.vec 2, .vec 3], .pure (.bool r.2.2)]) (fun r => [(0, vecO 1 (encL 1 az3) a1 59), (1, vecO 12 az5 a2 65), (2, vecO 1 (encL 1 az3) r.1 59), (3, vecO 12 az5 r.2.1 65)]) (by kernel_rfl)
noncomputable def hzr (a0 : azn) (a1 : aze) (a2 : Int) (a3 : Int) (a4 : Int) (a5 : Int) : T (aze × bzx × Int × Int) :=
 .call (mzw (⟨a1.Points, a1.Edges⟩ : aze)) [] fun y2 =>
 .call (dzb a0) [] fun y6 =>
 .br (y6 != 0)
 (.ret ((⟨y2.1, y2.2⟩ : aze), (⟨nl, 0⟩ : bzx), 0, 0))
 (.loop (fun (x17 : ((List az1) × Int)) => ⟨[(2, pz a2), (3, pz a3), (4, pz a4), (5, pz a5), (6, .ptr 0 0), (12, .ptr 1 0), (13, .ptr 4 0), (14, .ptr 6 0), (15, .ptr 7 0)], [(0, .box [.pure (encL 12 azh a0.Robot.Joints), .pure (encL 5 azl a0.Robot.Masses), .pure (encL 3 azv a0.Shapes), .pure (encL 2 bzp a0.Skips)]), (1, .box [.vec 2, .vec 3]), (2, vecO 1 (encL 1 az3) y2.1 59), (3, vecO 12 az5 x17.1 65), (4, .box [.vec 5, pz 0]), (5, .nilv), (6, .box [pz 0]), (7, .box [pz x17.2])], [.func 37 [] [.ptr 1 0, .ptr 4 0, .ptr 6 0, .ptr 7 0]], 8⟩)
 .ret (fun (_ : U0) => ⟨[], [], [], 0⟩)
 (fun x17 => .call (szg y2.1 x17.1 a2 a3) [(0, 2), (1, 3)] fun y29 =>
 .br (y29.2.2.2 != 3)
 (.ret (.fin ((⟨y2.1, x17.1⟩ : aze), (⟨y29.2.1, y29.2.2.1⟩ : bzx), y29.2.2.2, x17.2)))
 (.br (decide (x17.2 ≥ a5))
 (.ret (.fin ((⟨y2.1, x17.1⟩ : aze), (⟨y29.2.1, y29.2.2.1⟩ : bzx), 4, x17.2)))
 (.unroll 2 <|
 .grd (0 ≤ y29.1 ∧ y29.1 ≤ (IntKind.i64.wrap (y29.1 + 1)) ∧ (IntKind.i64.wrap (y29.1 + 1)) ≤ ((x17.1.length : Nat) : Int)) <|
 .cut 0 (fun (y34 : (List az1)) => ⟨[(2, pz a2), (3, pz a3), (4, pz a4), (5, pz a5), (6, .ptr 0 0), (12, .ptr 1 0), (13, .ptr 4 0), (14, .ptr 6 0), (15, .ptr 7 0)], [(0, .box [.pure (encL 12 azh a0.Robot.Joints), .pure (encL 5 azl a0.Robot.Masses), .pure (encL 3 azv a0.Shapes), .pure (encL 2 bzp a0.Skips)]), (1, .box [.vec 2, .vec 3]), (2, vecO 1 (encL 1 az3) y2.1 59), (3, vecO 12 az5 y34 65), (4, .box [.vec 5, pz 0]), (5, .nilv), (6, .box [pz 0]), (7, .box [pz x17.2])], [.func 37 [] [.ptr 1 0, .ptr 4 0, .ptr 6 0, .ptr 7 0]], 8⟩)
 (.call (wz8 (⟨a0.Robot, a0.Shapes, a0.Skips⟩ : azn) y2.1 x17.1 ((y29.1).toNat) (((IntKind.i64.wrap (y29.1 + 1))).toNat - (y29.1).toNat) 0 a4) [(0, 2), (1, 3)] fun y36 =>
 .br y36.2.2
 (.grd (0 ≤ (0 : Int) ∧ (0 : Int) < ((y36.2.1.length : Nat) : Int)) <|
 .grd ((0 : Int).toNat < y36.2.1.length) <|
 .grd (0 ≤ y29.1 ∧ y29.1 < ((x17.1.length : Nat) : Int)) <|
 .conv 13008 (fzj 12 az5 x17.1 65 ((y29.1).toNat) (y36.2.1.getD ((0 : Int).toNat) default)) <|
 .grd ((y29.1).toNat < x17.1.length ∧ 0 ≤ (y29.1).toNat) <|
 .ret (.out (x17.1.set ((y29.1).toNat) (y36.2.1.getD ((0 : Int).toNat) default))))
 (.ret (.out x17.1))) fun y34 =>
 .ret (.next (y34, (IntKind.i64.wrap (x17.2 + 1)))))))
 (y2.2, 0) [] fun _ =>
 .stop)
noncomputable def ez0 (a0 : azn) (a1 : aze) (a2 : Int) (a3 : Int) (a4 : Int) (a5 : Int) : CallS (aze × bzx × Int × Int) :=
  mkC [⟨37, Qzs⟩] hd Tryz.func15 (by kernel_rfl) (hzr a0 a1 a2 a3 a4 a5) 0 [.pure (ezr a0), .pure (cz8 a1), pz a2, pz a3, pz a4, pz a5] [] (fun r => .tup [.pure (cz8 r.1), .pure (vzd r.2.1), pz r.2.2.1, pz r.2.2.2]) (fun _ => []) (by kernel_rfl)
noncomputable def Fzn (a0 : Int) : T azj :=
 .br (a0 == 1)
 (.conv 3001 (Kzt 3 bz1 ([(⟨0, 0, nl⟩ : azq)] : (List azq)) 58 [.agg [.int .i64 0, .int .i64 0, .lst 0 0 fun _ => .unk]] (by kernel_rfl)) <|
 .ret (⟨1, ([(⟨0, 0, nl⟩ : azq)] : (List azq)), (⟨0, 0, nl⟩ : azq), (⟨0, nl, nl⟩ : azz)⟩ : azj))
 (.br (a0 == 2)
 (.conv 5000 (czp 1 az3 ([1] : (List Int)) 2) <|
 .conv 5001 (czp 1 az3 ([1] : (List Int)) 2) <|
 .ret (⟨2, nl, (⟨0, 0, nl⟩ : azq), (⟨0, ([1] : (List Int)), ([1] : (List Int))⟩ : azz)⟩ : azj))
 (.br (a0 == 3)
 (.ret (⟨0, nl, (⟨1, 0, nl⟩ : azq), (⟨0, nl, nl⟩ : azz)⟩ : azj))
 (.ret (⟨0, nl, (⟨0, 0, nl⟩ : azq), (⟨0, nl, nl⟩ : azz)⟩ : azj))))
noncomputable def rzn (a0 : Int) : CallS azj :=
  mkC [] hd Tryz.func56 (by kernel_rfl) (Fzn a0) 0 [pz a0] [] (fun r => .pure (dzh r)) (fun _ => []) (by kernel_rfl)
noncomputable def yzj (a0 : Int) : T aze :=
 .conv 1000 (czp 1 az3 ([0] : (List Int)) 2) <|
 .conv 1001 (czp 1 az3 ([1] : (List Int)) 2) <|
 .conv 1002 (czp 1 az3 ([2] : (List Int)) 2) <|
 .conv 1003 (czp 1 (encL 1 az3) ([([0] : (List Int)), ([1] : (List Int)), ([2] : (List Int))] : (List (List Int))) 59) <|
 .call (rzn a0) [] fun y4 =>
 .call (rzn a0) [] fun y5 =>
 .call (rzn a0) [] fun y6 =>
 .conv 2012 (czp 12 az5 ([(⟨0, 1, 1, a0, y4⟩ : az1), (⟨0, 2, 3, a0, y5⟩ : az1), (⟨1, 2, 1, a0, y6⟩ : az1)] : (List az1)) 65) <|
 .ret (⟨([([0] : (List Int)), ([1] : (List Int)), ([2] : (List Int))] : (List (List Int))), ([(⟨0, 1, 1, a0, y4⟩ : az1), (⟨0, 2, 3, a0, y5⟩ : az1), (⟨1, 2, 1, a0, y6⟩ : az1)] : (List az1))⟩ : aze)
noncomputable def qzl (a0 : Int) : CallS aze :=
  mkC [] hd Tryz.func23 (by kernel_rfl) (yzj a0) 0 [pz a0] [] (fun r => .pure (cz8 r)) (fun _ => []) (by kernel_rfl)
noncomputable def xzn (a0 : aze) (a1 : Int) (a2 : Int) (a3 : Int) : T (bzx × Bool) :=
 .cut 3 (fun (y17 : Bool) => ⟨[(1, pz a1), (2, pz a2), (3, pz a3), (4, .ptr 0 0), (8, .ptr 1 0), (9, .ptr 3 0), (33, .pure (.bool y17))], [(0, .box [.pure (encL 1 (encL 1 az3) a0.Points), .pure (encL 12 az5 a0.Edges)]), (1, .box [.vec 2, pz 0]), (2, .nilv), (3, .box [.ff])], [.func 57 [] [.ptr 1 0, .ptr 3 0]], 4⟩)
 (.call (ezo a0) [] fun y18 =>
 .br (!y18)
 (.ret (.out true))
 (.call (czm a0 a1) [] fun y19 =>
 .br (!y19)
 (.ret (.out true))
 (.call (czm a0 a2) [] fun y20 =>
 .br (!y20)
 (.ret (.out true))
 (.br (decide (a3 < 0))
 (.ret (.out true))
 (.ret (.out (decide (a3 > 2)))))))) fun y17 =>
 .br y17
 (.ret ((⟨nl, 0⟩ : bzx), false))
 (.call (gz8 a0 a3) [] fun y21 =>
 .call (dzk y21 a1 a2) [] fun y22 =>
 .ret ((⟨y22.1, y22.2.1⟩ : bzx), y22.2.2))
noncomputable def xzm (a0 : aze) (a1 : Int) (a2 : Int) (a3 : Int) : CallS (bzx × Bool) :=
  mkC [⟨57, Qzu⟩] hd Tryz.func24 (by kernel_rfl) (xzn a0 a1 a2 a3) 0 [.pure (cz8 a0), pz a1, pz a2, pz a3] [] (fun r => .tup [.pure (vzd r.1), .pure (.bool r.2)]) (fun _ => []) (by kernel_rfl)
noncomputable def lzq (a0 : (List Int)) (a1 : (List Int)) : T Bool :=
 .br (((a0.length : Nat) : Int) != ((a1.length : Nat) : Int))
 (.ret false)
 (.loop (fun (x5 : Int) => ⟨[(0, .pure (encL 1 az3 a0)), (1, .pure (encL 1 az3 a1)), (5, pz x5)], [], [], 0⟩)
 (.exit 0) (fun (_ : U0) => ⟨[], [], [], 0⟩)
 (fun x5 => .br (decide (x5 < ((a0.length : Nat) : Int)))
 (.grd (0 ≤ x5 ∧ x5 < ((a0.length : Nat) : Int)) <|
 .grd (0 ≤ x5 ∧ x5 < ((a1.length : Nat) : Int)) <|
 .br ((a0.getD ((x5).toNat) default) != (a1.getD ((x5).toNat) default))
 (.ret (.fin false))
 (.ret (.next (IntKind.i64.wrap (x5 + 1)))))
 (.ret (.out .u)))
 0 [] fun _ =>
 .ret true)
noncomputable def lzp (a0 : (List Int)) (a1 : (List Int)) : CallS Bool :=
  mkC [] hd Tryz.func47 (by kernel_rfl) (lzq a0 a1) 0 [.pure (encL 1 az3 a0), .pure (encL 1 az3 a1)] [] (fun r => .pure (.bool r)) (fun _ => []) (by kernel_rfl)
noncomputable def kz5 (a0 : bzx) (a1 : bzx) : T Bool :=
 .br (a0.Cost == a1.Cost)
 (.call (lzp a0.Vertices a1.Vertices) [] fun y1 =>
 .ret y1)
 (.ret false)
noncomputable def ezs (a0 : bzx) (a1 : bzx) : CallS Bool :=
  mkC [] hd Tryz.func18 (by kernel_rfl) (kz5 a0 a1) 0 [.pure (vzd a0), .pure (vzd a1)] [] (fun r => .pure (.bool r)) (fun _ => []) (by kernel_rfl)
noncomputable def Dzh : T Bool :=
 .call (qzl 0) [] fun y3 =>
 .call (ezn y3 0 2) [] fun y4 =>
 .call (qzl 1) [] fun y7 =>
 .call (xzm y7 0 2 0) [] fun y8 =>
 .br (y4.1 == 0)
 (.br (y4.2.2.2 == 3)
 (.br y8.2
 (.conv 3011 (czp 1 az3 ([0, 1, 2] : (List Int)) 3) <|
 .call (ezs y8.1 (⟨([0, 1, 2] : (List Int)), 2⟩ : bzx)) [] fun y9 =>
 .ret y9)
 (.ret false))
 (.ret false))
 (.ret false)
noncomputable def pzg : CallS Bool :=
  mkC [] hd Tryz.func9 (by kernel_rfl) (Dzh) 0 [] [] (fun r => .pure (.bool r)) (fun _ => []) (by kernel_rfl)
noncomputable def izc (a0 : (List Int)) (a1 : (List Int)) : T Bool :=
 .br (((a0.length : Nat) : Int) != ((a1.length : Nat) : Int))
 (.ret false)
 (.loop (fun (x5 : Int) => ⟨[(0, .pure (encL 1 az3 a0)), (1, .pure (encL 1 az3 a1)), (5, pz x5)], [], [], 0⟩)
 (.exit 0) (fun (_ : U0) => ⟨[], [], [], 0⟩)
 (fun x5 => .br (decide (x5 < ((a0.length : Nat) : Int)))
 (.grd (0 ≤ x5 ∧ x5 < ((a0.length : Nat) : Int)) <|
 .grd (0 ≤ x5 ∧ x5 < ((a1.length : Nat) : Int)) <|
 .br ((a0.getD ((x5).toNat) default) != (a1.getD ((x5).toNat) default))
 (.ret (.fin false))
 (.ret (.next (IntKind.i64.wrap (x5 + 1)))))
 (.ret (.out .u)))
 0 [] fun _ =>
 .ret true)
noncomputable def fzn (a0 : (List Int)) (a1 : (List Int)) : CallS Bool :=
  mkC [] hd Tryz.func48 (by kernel_rfl) (izc a0 a1) 0 [.pure (encL 1 az3 a0), .pure (encL 1 az3 a1)] [] (fun r => .pure (.bool r)) (fun _ => []) (by kernel_rfl)
noncomputable def ezz (a0 : (List (List Int))) (a1 : (List (List Int))) : T Bool :=
 .br (((a0.length : Nat) : Int) != ((a1.length : Nat) : Int))
 (.ret false)
 (.loop (fun (x21 : Int) => ⟨[(0, .pure (encL 1 (encL 1 az3) a0)), (1, .pure (encL 1 (encL 1 az3) a1)), (5, pz x21)], [], [], 0⟩)
 (.exit 0) (fun (_ : U0) => ⟨[], [], [], 0⟩)
 (fun x21 => .br (decide (x21 < ((a0.length : Nat) : Int)))
 (.grd (0 ≤ x21 ∧ x21 < ((a0.length : Nat) : Int)) <|
 .grd (0 ≤ x21 ∧ x21 < ((a1.length : Nat) : Int)) <|
 .call (fzn (a0.getD ((x21).toNat) default) (a1.getD ((x21).toNat) default)) [] fun y30 =>
 .br (!y30)
 (.ret (.fin false))
 (.ret (.next (IntKind.i64.wrap (x21 + 1)))))
 (.ret (.out .u)))
 0 [] fun _ =>
 .ret true)
noncomputable def iz0 (a0 : (List (List Int))) (a1 : (List (List Int))) : CallS Bool :=
  mkC [] hd Tryz.func19 (by kernel_rfl) (ezz a0 a1) 0 [.pure (encL 1 (encL 1 az3) a0), .pure (encL 1 (encL 1 az3) a1)] [] (fun r => .pure (.bool r)) (fun _ => []) (by kernel_rfl)
noncomputable def gzg (a0 : (List (Int × Int × Int))) (a1 : (List (Int × Int × Int))) : T Bool :=
 .br (((a0.length : Nat) : Int) != ((a1.length : Nat) : Int))
 (.ret false)
 (.loop (fun (x5 : Int) => ⟨[(0, .pure (encL 3 az2 a0)), (1, .pure (encL 3 az2 a1)), (5, pz x5)], [], [], 0⟩)
 (.exit 0) (fun (_ : U0) => ⟨[], [], [], 0⟩)
 (fun x5 => .br (decide (x5 < ((a0.length : Nat) : Int)))
 (.grd (0 ≤ x5 ∧ x5 < ((a0.length : Nat) : Int)) <|
 .grd (0 ≤ x5 ∧ x5 < ((a1.length : Nat) : Int)) <|
 .br (!((((a0.getD ((x5).toNat) default).1) == ((a1.getD ((x5).toNat) default).1)) && ((((a0.getD ((x5).toNat) default).2.1) == ((a1.getD ((x5).toNat) default).2.1)) && ((((a0.getD ((x5).toNat) default).2.2) == ((a1.getD ((x5).toNat) default).2.2)) && true))))
 (.ret (.fin false))
 (.ret (.next (IntKind.i64.wrap (x5 + 1)))))
 (.ret (.out .u)))
 0 [] fun _ =>
 .ret true)
noncomputable def lzo (a0 : (List (Int × Int × Int))) (a1 : (List (Int × Int × Int))) : CallS Bool :=
  mkC [] hd Tryz.func116 (by kernel_rfl) (gzg a0 a1) 0 [.pure (encL 3 az2 a0), .pure (encL 3 az2 a1)] [] (fun r => .pure (.bool r)) (fun _ => []) (by kernel_rfl)
noncomputable def kz4 (a0 : azq) (a1 : azq) : T Bool :=
 .br (a0.Depth == a1.Depth)
 (.br (a0.Index == a1.Index)
 (.call (lzo a0.Normals a1.Normals) [] fun y1 =>
 .ret y1)
 (.ret false))
 (.ret false)
noncomputable def kz3 (a0 : azq) (a1 : azq) : CallS Bool :=
  mkC [] hd Tryz.func78 (by kernel_rfl) (kz4 a0 a1) 0 [.pure (bz1 a0), .pure (bz1 a1)] [] (fun r => .pure (.bool r)) (fun _ => []) (by kernel_rfl)
noncomputable def izb (a0 : (List azq)) (a1 : (List azq)) : T Bool :=
 .br (((a0.length : Nat) : Int) != ((a1.length : Nat) : Int))
 (.ret false)
 (.loop (fun (x21 : Int) => ⟨[(0, .pure (encL 3 bz1 a0)), (1, .pure (encL 3 bz1 a1)), (5, pz x21)], [], [], 0⟩)
 (.exit 0) (fun (_ : U0) => ⟨[], [], [], 0⟩)
 (fun x21 => .br (decide (x21 < ((a0.length : Nat) : Int)))
 (.grd (0 ≤ x21 ∧ x21 < ((a0.length : Nat) : Int)) <|
 .grd (0 ≤ x21 ∧ x21 < ((a1.length : Nat) : Int)) <|
 .call (kz3 (a0.getD ((x21).toNat) default) (a1.getD ((x21).toNat) default)) [] fun y30 =>
 .br (!y30)
 (.ret (.fin false))
 (.ret (.next (IntKind.i64.wrap (x21 + 1)))))
 (.ret (.out .u)))
 0 [] fun _ =>
 .ret true)
noncomputable def ozm (a0 : (List azq)) (a1 : (List azq)) : CallS Bool :=
  mkC [] hd Tryz.func77 (by kernel_rfl) (izb a0 a1) 0 [.pure (encL 3 bz1 a0), .pure (encL 3 bz1 a1)] [] (fun r => .pure (.bool r)) (fun _ => []) (by kernel_rfl)
noncomputable def hz5 (a0 : azz) (a1 : azz) : T Bool :=
 .br (a0.Pair == a1.Pair)
 (.call (fzn a0.Left a1.Left) [] fun y1 =>
 .br y1
 (.call (fzn a0.Right a1.Right) [] fun y2 =>
 .ret y2)
 (.ret false))
 (.ret false)
noncomputable def mzm (a0 : azz) (a1 : azz) : CallS Bool :=
  mkC [] hd Tryz.func79 (by kernel_rfl) (hz5 a0 a1) 0 [.pure (zzh a0), .pure (zzh a1)] [] (fun r => .pure (.bool r)) (fun _ => []) (by kernel_rfl)
noncomputable def lzn (a0 : azj) (a1 : azj) : T Bool :=
 .br (a0.Kind == a1.Kind)
 (.call (ozm a0.Pieces a1.Pieces) [] fun y1 =>
 .br y1
 (.call (kz3 a0.At a1.At) [] fun y2 =>
 .br y2
 (.call (mzm a0.Witness a1.Witness) [] fun y3 =>
 .ret y3)
 (.ret false))
 (.ret false))
 (.ret false)
noncomputable def rzp (a0 : azj) (a1 : azj) : CallS Bool :=
  mkC [] hd Tryz.func49 (by kernel_rfl) (lzn a0 a1) 0 [.pure (dzh a0), .pure (dzh a1)] [] (fun r => .pure (.bool r)) (fun _ => []) (by kernel_rfl)
noncomputable def nzl (a0 : aze) (a1 : aze) : T Bool :=
 .cut 2 (fun (y7 : Bool) => ⟨[(2, .ptr 0 0), (3, .ptr 1 0), (22, .pure (.bool y7))], [(0, .box [.pure (encL 1 (encL 1 az3) a0.Points), .pure (encL 12 az5 a0.Edges)]), (1, .box [.pure (encL 1 (encL 1 az3) a1.Points), .pure (encL 12 az5 a1.Edges)])], [], 2⟩)
 (.call (iz0 a0.Points a1.Points) [] fun y8 =>
 .br (!y8)
 (.ret (.out true))
 (.ret (.out (((a0.Edges.length : Nat) : Int) != ((a1.Edges.length : Nat) : Int))))) fun y7 =>
 .br y7
 (.ret false)
 (.loop (fun (x45 : Int) => ⟨[(2, .ptr 0 0), (3, .ptr 1 0), (5, pz x45)], [(0, .box [.pure (encL 1 (encL 1 az3) a0.Points), .pure (encL 12 az5 a0.Edges)]), (1, .box [.pure (encL 1 (encL 1 az3) a1.Points), .pure (encL 12 az5 a1.Edges)])], [], 2⟩)
 (.exit 0) (fun (_ : U0) => ⟨[], [], [], 0⟩)
 (fun x45 => .br (decide (x45 < ((a0.Edges.length : Nat) : Int)))
 (.grd (0 ≤ x45 ∧ x45 < ((a0.Edges.length : Nat) : Int)) <|
 .grd (0 ≤ x45 ∧ x45 < ((a1.Edges.length : Nat) : Int)) <|
 .cut 0 (fun (y61 : Bool) => ⟨[(2, .ptr 0 0), (3, .ptr 1 0), (5, pz x45), (73, .pure (.bool y61))], [(0, .box [.pure (encL 1 (encL 1 az3) a0.Points), .pure (encL 12 az5 a0.Edges)]), (1, .box [.pure (encL 1 (encL 1 az3) a1.Points), .pure (encL 12 az5 a1.Edges)])], [], 2⟩)
 (.br (((a0.Edges.getD ((x45).toNat) default).U) != ((a1.Edges.getD ((x45).toNat) default).U))
 (.ret (.out true))
 (.br (((a0.Edges.getD ((x45).toNat) default).V) != ((a1.Edges.getD ((x45).toNat) default).V))
 (.ret (.out true))
 (.br (((a0.Edges.getD ((x45).toNat) default).Cost) != ((a1.Edges.getD ((x45).toNat) default).Cost))
 (.ret (.out true))
 (.br (((a0.Edges.getD ((x45).toNat) default).State) != ((a1.Edges.getD ((x45).toNat) default).State))
 (.ret (.out true))
 (.call (rzp ((a0.Edges.getD ((x45).toNat) default).Proof) ((a1.Edges.getD ((x45).toNat) default).Proof)) [] fun y62 =>
 .ret (.out (!y62))))))) fun y61 =>
 .br y61
 (.ret (.fin false))
 (.ret (.next (IntKind.i64.wrap (x45 + 1)))))
 (.ret (.out .u)))
 0 [] fun _ =>
 .ret true)
noncomputable def gz2 (a0 : aze) (a1 : aze) : CallS Bool :=
  mkC [] hd Tryz.func21 (by kernel_rfl) (nzl a0 a1) 0 [.pure (cz8 a0), .pure (cz8 a1)] [] (fun r => .pure (.bool r)) (fun _ => []) (by kernel_rfl)
noncomputable def fzv (a0 : (List Int)) (a1 : (List Int)) (a2 : Int) (a3 : Int) (a4 : Int) (a5 : Int) (a6 : Int) : T Bool :=
 .call (rzq a0) [] fun y2 =>
 .call (czy a2 6) [] fun y7 =>
 .call (tzo y2.Robot (IntKind.i64.wrap (2 + y7)) a1) [] fun y8 =>
 .call (czy a3 3) [] fun y9 =>
 .call (nzx y2.Robot y8 (IntKind.i64.wrap (1 + y9))) [] fun y10 =>
 .call (czy a4 ((y10.Points.length : Nat) : Int)) [] fun y14 =>
 .call (czy a5 ((y10.Points.length : Nat) : Int)) [] fun y15 =>
 .call (czy a6 9) [] fun y16 =>
 .call (ez0 (⟨y2.Robot, y2.Shapes, y2.Skips⟩ : azn) (⟨y10.Points, y10.Edges⟩ : aze) y14 y15 2 100) [] fun y18 =>
 .call (ez0 (⟨y2.Robot, y2.Shapes, y2.Skips⟩ : azn) (⟨y10.Points, y10.Edges⟩ : aze) y14 y15 2 y16) [] fun y20 =>
 .call (ez0 (⟨y2.Robot, y2.Shapes, y2.Skips⟩ : azn) y20.1 y14 y15 2 100) [] fun y22 =>
 .br (y20.2.2.1 != 4)
 (.call (pzg) [] fun y25 =>
 .br y25
 (.br (y20.2.2.1 == y18.2.2.1)
 (.br (y20.2.2.2 == y18.2.2.2)
 (.call (gz2 y18.1 y20.1) [] fun y26 =>
 .ret y26)
 (.ret false))
 (.ret false))
 (.ret false))
 (.call (pzg) [] fun y27 =>
 .br y27
 (.br (y20.2.2.2 == y16)
 (.br (decide (y18.2.2.2 > y16))
 (.br (y22.2.2.1 == y18.2.2.1)
 (.br ((IntKind.i64.wrap (y20.2.2.2 + y22.2.2.2)) == y18.2.2.2)
 (.call (ezs y18.2.1 (⟨y22.2.1.Vertices, y22.2.1.Cost⟩ : bzx)) [] fun y28 =>
 .br y28
 (.call (gz2 y18.1 (⟨y22.1.Points, y22.1.Edges⟩ : aze)) [] fun y29 =>
 .ret y29)
 (.ret false))
 (.ret false))
 (.ret false))
 (.ret false))
 (.ret false))
 (.ret false))
noncomputable def czl (a0 : (List Int)) (a1 : (List Int)) (a2 : Int) (a3 : Int) (a4 : Int) (a5 : Int) (a6 : Int) : CallS Bool :=
  mkC [] hd Tryz.func6 (by kernel_rfl) (fzv a0 a1 a2 a3 a4 a5 a6) 0 [.pure (encL 1 az3 a0), .pure (encL 1 az3 a1), pz a2, pz a3, pz a4, pz a5, pz a6] [] (fun r => .pure (.bool r)) (fun _ => []) (by kernel_rfl)
noncomputable def uzr (a0 : Int) (a1 : Int) : T Int :=
 .grd (a1 ≠ 0) <|
 .cut 0 (fun (y1 : Int) => ⟨[(5, pz y1)], [], [], 0⟩)
 (.grd (a1 ≠ 0) <|
 .br (decide ((a0.tmod a1) > 0))
 (.ret (.out (IntKind.i64.wrap ((IntKind.i64.wrap (a0.tdiv a1)) + 1))))
 (.ret (.out (IntKind.i64.wrap (a0.tdiv a1))))) fun y1 =>
 .ret y1
noncomputable def izk (a0 : Int) (a1 : Int) : CallS Int :=
  mkC [] hd Tryz.func109 (by kernel_rfl) (uzr a0 a1) 0 [pz a0, pz a1] [] (fun r => pz r) (fun _ => []) (by kernel_rfl)
open Go.Proofs
noncomputable def lzt (a0 : (az0 × az0 × az0)) : T Bool :=
 .unroll 4 <|
 .known true <|
 .cut 1 (fun (y16 : Bool) => ⟨[(1, .ptr 0 0), (3, pz 0), (30, .pure (.bool y16))], [(0, .box [pz a0.1.Lo, pz a0.1.Hi, pz a0.2.1.Lo, pz a0.2.1.Hi, pz a0.2.2.Lo, pz a0.2.2.Hi])], [], 1⟩)
 (.ix 0 3 rfl <|
 .br (decide (a0.1.Lo < (-268435456)))
 (.ret (.out true))
 (.ix 0 3 rfl <|
 .ix 0 3 rfl <|
 .br (decide (a0.1.Lo > a0.1.Hi))
 (.ret (.out true))
 (.ix 0 3 rfl <|
 .ret (.out (decide (a0.1.Hi > 268435456)))))) fun y16 =>
 .br y16
 (.ret false)
 (.lit 3001 (1) <|
 .known true <|
 .cut 1 (fun (y18 : Bool) => ⟨[(1, .ptr 0 0), (3, pz 1), (30, .pure (.bool y18))], [(0, .box [pz a0.1.Lo, pz a0.1.Hi, pz a0.2.1.Lo, pz a0.2.1.Hi, pz a0.2.2.Lo, pz a0.2.2.Hi])], [], 1⟩)
 (.ix 1 3 rfl <|
 .br (decide (a0.2.1.Lo < (-268435456)))
 (.ret (.out true))
 (.ix 1 3 rfl <|
 .ix 1 3 rfl <|
 .br (decide (a0.2.1.Lo > a0.2.1.Hi))
 (.ret (.out true))
 (.ix 1 3 rfl <|
 .ret (.out (decide (a0.2.1.Hi > 268435456)))))) fun y18 =>
 .br y18
 (.ret false)
 (.lit 3001 (2) <|
 .known true <|
 .cut 1 (fun (y20 : Bool) => ⟨[(1, .ptr 0 0), (3, pz 2), (30, .pure (.bool y20))], [(0, .box [pz a0.1.Lo, pz a0.1.Hi, pz a0.2.1.Lo, pz a0.2.1.Hi, pz a0.2.2.Lo, pz a0.2.2.Hi])], [], 1⟩)
 (.ix 2 3 rfl <|
 .br (decide (a0.2.2.Lo < (-268435456)))
 (.ret (.out true))
 (.ix 2 3 rfl <|
 .ix 2 3 rfl <|
 .br (decide (a0.2.2.Lo > a0.2.2.Hi))
 (.ret (.out true))
 (.ix 2 3 rfl <|
 .ret (.out (decide (a0.2.2.Hi > 268435456)))))) fun y20 =>
 .br y20
 (.ret false)
 (.lit 3001 (3) <|
 .known false <|
 .ret true)))
noncomputable def sz4 (a0 : (az0 × az0 × az0)) : CallS Bool :=
  mkC [] hd Tryz.func190 (by kernel_rfl) (lzt a0) 0 [.pure (az4 a0)] [] (fun r => .pure (.bool r)) (fun _ => []) (by kernel_rfl)
noncomputable def nzv (a0 : (List (az0 × az0 × az0))) : T Bool :=
 .loop (fun (x29 : Int) => ⟨[(0, .pure (encL 6 az4 a0)), (3, pz x29)], [], [], 0⟩)
 (.exit 0) (fun (_ : U0) => ⟨[(0, .pure (encL 6 az4 a0))], [], [], 0⟩)
 (fun x29 => .cut 1 (fun (y38 : Bool) => ⟨[(0, .pure (encL 6 az4 a0)), (3, pz x29), (11, .pure (.bool y38))], [], [], 0⟩)
 (.br (decide (x29 < ((a0.length : Nat) : Int)))
 (.ret (.out (decide (x29 ≤ 8))))
 (.ret (.out false))) fun y38 =>
 .br y38
 (.grd (0 ≤ x29 ∧ x29 < ((a0.length : Nat) : Int)) <|
 .call (sz4 (a0.getD ((x29).toNat) default)) [] fun y42 =>
 .br (!y42)
 (.ret (.fin false))
 (.ret (.next (IntKind.i64.wrap (x29 + 1)))))
 (.ret (.out .u)))
 0 [] fun _ =>
 .br (decide (((a0.length : Nat) : Int) ≥ 1))
 (.ret (decide (((a0.length : Nat) : Int) ≤ 8)))
 (.ret false)
noncomputable def tzv (a0 : (List (az0 × az0 × az0))) : CallS Bool :=
  mkC [] hd Tryz.func158 (by kernel_rfl) (nzv a0) 0 [.pure (encL 6 az4 a0)] [] (fun r => .pure (.bool r)) (fun _ => []) (by kernel_rfl)
noncomputable def gz6 (a0 : Int) : T Bool :=
 .br (decide (a0 ≥ 0))
 (.ret (decide (a0 ≤ 1048576)))
 (.ret false)
noncomputable def jzb (a0 : Int) : CallS Bool :=
  mkC [] hd Tryz.func184 (by kernel_rfl) (gz6 a0) 0 [pz a0] [] (fun r => .pure (.bool r)) (fun _ => []) (by kernel_rfl)
noncomputable def uzs (a0 : Int) : T Int :=
 .br (decide (a0 < 1))
 (.ret 0)
 (.loop (fun (x5 : (Int × Int)) => ⟨[(0, pz a0), (3, pz x5.1), (4, pz x5.2)], [], [], 0⟩)
 (.exit 0) (fun (y6 : Int) => ⟨[(3, pz y6)], [], [], 0⟩)
 (fun x5 => .br (decide ((IntKind.i64.wrap (x5.2 - x5.1)) > 1))
 (.ok ((2 : Int) ≠ 0) (by decide) <|
 .grd ((IntKind.i64.wrap (x5.1 + (IntKind.i64.wrap ((IntKind.i64.wrap (x5.2 - x5.1)).tdiv 2)))) ≠ 0) <|
 .br (decide ((IntKind.i64.wrap (x5.1 + (IntKind.i64.wrap ((IntKind.i64.wrap (x5.2 - x5.1)).tdiv 2)))) ≤ (IntKind.i64.wrap (a0.tdiv (IntKind.i64.wrap (x5.1 + (IntKind.i64.wrap ((IntKind.i64.wrap (x5.2 - x5.1)).tdiv 2))))))))
 (.ret (.next ((IntKind.i64.wrap (x5.1 + (IntKind.i64.wrap ((IntKind.i64.wrap (x5.2 - x5.1)).tdiv 2)))), x5.2)))
 (.ret (.next (x5.1, (IntKind.i64.wrap (x5.1 + (IntKind.i64.wrap ((IntKind.i64.wrap (x5.2 - x5.1)).tdiv 2))))))))
 (.ret (.out x5.1)))
 (1, 4294967296) [] fun y6 =>
 .ret y6)
noncomputable def pzv (a0 : Int) : CallS Int :=
  mkC [] hd Tryz.func231 (by kernel_rfl) (uzs a0) 0 [pz a0] [] (fun r => pz r) (fun _ => []) (by kernel_rfl)
open Go.Proofs
set_option maxHeartbeats 8000000 in
set_option maxRecDepth 20000 in
noncomputable def lzs (a0 : (List (az0 × az0 × az0))) (a1 : (List Int)) : T ((az0 × az0 × az0) × Int × Bool) :=
 .cut 2 (fun (y447 : Bool) => ⟨[(0, .pure (encL 6 az4 a0)), (1, .pure (encL 1 az3 a1)), (4, .ptr 0 0), (21, .pure (.bool y447))], [(0, .box [pz 0, pz 0, pz 0, pz 0, pz 0, pz 0])], [], 1⟩)
 (.call (tzv a0) [] fun y448 =>
 .br (!y448)
 (.ret (.out true))
 (.ret (.out (((a1.length : Nat) : Int) != ((a0.length : Nat) : Int))))) fun y447 =>
 .br y447
 (.ret (((⟨0, 0⟩ : az0), (⟨0, 0⟩ : az0), (⟨0, 0⟩ : az0)), 0, false))
 (.loop (fun (x469 : (Int × Int)) => ⟨[(0, .pure (encL 6 az4 a0)), (1, .pure (encL 1 az3 a1)), (4, .ptr 0 0), (7, pz x469.1), (8, pz x469.2)], [(0, .box [pz 0, pz 0, pz 0, pz 0, pz 0, pz 0])], [], 1⟩)
 (.exit 0) (fun (y474 : Int) => ⟨[(0, .pure (encL 6 az4 a0)), (1, .pure (encL 1 az3 a1)), (4, .ptr 0 0), (7, pz y474)], [(0, .box [pz 0, pz 0, pz 0, pz 0, pz 0, pz 0])], [], 1⟩)
 (fun x469 => .br (decide (x469.2 < ((a1.length : Nat) : Int)))
 (.cut 2 (fun (y478 : Bool) => ⟨[(0, .pure (encL 6 az4 a0)), (1, .pure (encL 1 az3 a1)), (4, .ptr 0 0), (7, pz x469.1), (8, pz x469.2), (42, .pure (.bool y478))], [(0, .box [pz 0, pz 0, pz 0, pz 0, pz 0, pz 0])], [], 1⟩)
 (.grd (0 ≤ x469.2 ∧ x469.2 < ((a1.length : Nat) : Int)) <|
 .br (decide ((a1.getD ((x469.2).toNat) default) < 0))
 (.ret (.out true))
 (.grd (0 ≤ x469.2 ∧ x469.2 < ((a1.length : Nat) : Int)) <|
 .ret (.out (decide ((a1.getD ((x469.2).toNat) default) > (IntKind.i64.wrap (65536 - x469.1))))))) fun y478 =>
 .br y478
 (.ret (.fin (((⟨0, 0⟩ : az0), (⟨0, 0⟩ : az0), (⟨0, 0⟩ : az0)), 0, false)))
 (.grd (0 ≤ x469.2 ∧ x469.2 < ((a1.length : Nat) : Int)) <|
 .ret (.next ((IntKind.i64.wrap (x469.1 + (a1.getD ((x469.2).toNat) default))), (IntKind.i64.wrap (x469.2 + 1))))))
 (.ret (.out x469.1)))
 (0, 0) [] fun y474 =>
 .br (decide (y474 < 1))
 (.ret (((⟨0, 0⟩ : az0), (⟨0, 0⟩ : az0), (⟨0, 0⟩ : az0)), 0, false))
 (.loop (fun (x883 : (Int × Int × Int × Int × Int × Int × Int)) => ⟨[(0, .pure (encL 6 az4 a0)), (1, .pure (encL 1 az3 a1)), (4, .ptr 0 0), (7, pz y474), (9, .ptr 1 0), (10, pz x883.2.2.2.2.2.2)], [(0, .box [pz 0, pz 0, pz 0, pz 0, pz 0, pz 0]), (1, .box [pz x883.1, pz x883.2.1, pz x883.2.2.1, pz x883.2.2.2.1, pz x883.2.2.2.2.1, pz x883.2.2.2.2.2.1])], [], 2⟩)
 (.exit 2) (fun (y984 : (Int × Int × Int × Int × Int × Int)) => ⟨[(4, .ptr 0 0), (7, pz y474), (9, .ptr 1 0)], [(0, .box [pz 0, pz 0, pz 0, pz 0, pz 0, pz 0]), (1, .box [pz y984.1, pz y984.2.1, pz y984.2.2.1, pz y984.2.2.2.1, pz y984.2.2.2.2.1, pz y984.2.2.2.2.2])], [], 2⟩)
 (fun x883 => .br (decide (x883.2.2.2.2.2.2 < ((a0.length : Nat) : Int)))
 (.unroll 4 <|
 .known true <|
 .ix 0 3 rfl <|
 .grd (0 ≤ x883.2.2.2.2.2.2 ∧ x883.2.2.2.2.2.2 < ((a1.length : Nat) : Int)) <|
 .grd (0 ≤ x883.2.2.2.2.2.2 ∧ x883.2.2.2.2.2.2 < ((a0.length : Nat) : Int)) <|
 .ix 0 3 rfl <|
 .name 19015 ((IntKind.i64.wrap ((a1.getD ((x883.2.2.2.2.2.2).toNat) default) * ((a0.getD ((x883.2.2.2.2.2.2).toNat) default).1.Lo)))) fun z1057 =>
 .name 19016 ((IntKind.i64.wrap (x883.1 + z1057))) fun z1058 =>
 .ix 0 3 rfl <|
 .ix 0 3 rfl <|
 .grd (0 ≤ x883.2.2.2.2.2.2 ∧ x883.2.2.2.2.2.2 < ((a1.length : Nat) : Int)) <|
 .grd (0 ≤ x883.2.2.2.2.2.2 ∧ x883.2.2.2.2.2.2 < ((a0.length : Nat) : Int)) <|
 .ix 0 3 rfl <|
 .name 20015 ((IntKind.i64.wrap ((a1.getD ((x883.2.2.2.2.2.2).toNat) default) * ((a0.getD ((x883.2.2.2.2.2.2).toNat) default).1.Hi)))) fun z1059 =>
 .name 20016 ((IntKind.i64.wrap (x883.2.1 + z1059))) fun z1060 =>
 .ix 0 3 rfl <|
 .lit 18001 (1) <|
 .known true <|
 .ix 1 3 rfl <|
 .grd (0 ≤ x883.2.2.2.2.2.2 ∧ x883.2.2.2.2.2.2 < ((a1.length : Nat) : Int)) <|
 .grd (0 ≤ x883.2.2.2.2.2.2 ∧ x883.2.2.2.2.2.2 < ((a0.length : Nat) : Int)) <|
 .ix 1 3 rfl <|
 .name 19015 ((IntKind.i64.wrap ((a1.getD ((x883.2.2.2.2.2.2).toNat) default) * ((a0.getD ((x883.2.2.2.2.2.2).toNat) default).2.1.Lo)))) fun z1069 =>
 .name 19016 ((IntKind.i64.wrap (x883.2.2.1 + z1069))) fun z1070 =>
 .ix 1 3 rfl <|
 .ix 1 3 rfl <|
 .grd (0 ≤ x883.2.2.2.2.2.2 ∧ x883.2.2.2.2.2.2 < ((a1.length : Nat) : Int)) <|
 .grd (0 ≤ x883.2.2.2.2.2.2 ∧ x883.2.2.2.2.2.2 < ((a0.length : Nat) : Int)) <|
 .ix 1 3 rfl <|
 .name 20015 ((IntKind.i64.wrap ((a1.getD ((x883.2.2.2.2.2.2).toNat) default) * ((a0.getD ((x883.2.2.2.2.2.2).toNat) default).2.1.Hi)))) fun z1071 =>
 .name 20016 ((IntKind.i64.wrap (x883.2.2.2.1 + z1071))) fun z1072 =>
 .ix 1 3 rfl <|
 .lit 18001 (2) <|
 .known true <|
 .ix 2 3 rfl <|
 .grd (0 ≤ x883.2.2.2.2.2.2 ∧ x883.2.2.2.2.2.2 < ((a1.length : Nat) : Int)) <|
 .grd (0 ≤ x883.2.2.2.2.2.2 ∧ x883.2.2.2.2.2.2 < ((a0.length : Nat) : Int)) <|
 .ix 2 3 rfl <|
 .name 19015 ((IntKind.i64.wrap ((a1.getD ((x883.2.2.2.2.2.2).toNat) default) * ((a0.getD ((x883.2.2.2.2.2.2).toNat) default).2.2.Lo)))) fun z1081 =>
 .name 19016 ((IntKind.i64.wrap (x883.2.2.2.2.1 + z1081))) fun z1082 =>
 .ix 2 3 rfl <|
 .ix 2 3 rfl <|
 .grd (0 ≤ x883.2.2.2.2.2.2 ∧ x883.2.2.2.2.2.2 < ((a1.length : Nat) : Int)) <|
 .grd (0 ≤ x883.2.2.2.2.2.2 ∧ x883.2.2.2.2.2.2 < ((a0.length : Nat) : Int)) <|
 .ix 2 3 rfl <|
 .name 20015 ((IntKind.i64.wrap ((a1.getD ((x883.2.2.2.2.2.2).toNat) default) * ((a0.getD ((x883.2.2.2.2.2.2).toNat) default).2.2.Hi)))) fun z1083 =>
 .name 20016 ((IntKind.i64.wrap (x883.2.2.2.2.2.1 + z1083))) fun z1084 =>
 .ix 2 3 rfl <|
 .lit 18001 (3) <|
 .known false <|
 .ret (.next (z1058, z1060, z1070, z1072, z1082, z1084, (IntKind.i64.wrap (x883.2.2.2.2.2.2 + 1)))))
 (.ret (.out (x883.1, x883.2.1, x883.2.2.1, x883.2.2.2.1, x883.2.2.2.2.1, x883.2.2.2.2.2.1))))
 (0, 0, 0, 0, 0, 0, 0) [] fun y984 =>
 .ret (((⟨y984.1, y984.2.1⟩ : az0), (⟨y984.2.2.1, y984.2.2.2.1⟩ : az0), (⟨y984.2.2.2.2.1, y984.2.2.2.2.2⟩ : az0)), y474, true)))
noncomputable def lzr (a0 : (List (az0 × az0 × az0))) (a1 : (List Int)) : CallS ((az0 × az0 × az0) × Int × Bool) :=
  mkC [] hd Tryz.func192 (by kernel_rfl) (lzs a0 a1) 0 [.pure (encL 6 az4 a0), .pure (encL 1 az3 a1)] [] (fun r => .tup [.pure (az4 r.1), pz r.2.1, .pure (.bool r.2.2)]) (fun _ => []) (by kernel_rfl)
noncomputable def Gz9 (a0 : Int) : T Int :=
 .ret (max a0 (IntKind.i64.wrap (0 - a0)))
noncomputable def fzb (a0 : Int) : CallS Int :=
  mkC [] hd Tryz.func193 (by kernel_rfl) (Gz9 a0) 0 [pz a0] [] (fun r => pz r) (fun _ => []) (by kernel_rfl)
noncomputable def gz5 (a0 : (List Int)) (a1 : (List Int)) (a2 : (List (az0 × az0 × az0))) (a3 : Int) (a4 : (List (az0 × az0 × az0))) (a5 : Int) : T (Int × Bool) :=
 .call (lzr a2 a0) [] fun y136 =>
 .call (lzr a4 a1) [] fun y138 =>
 .cut 1 (fun (y150 : Bool) => ⟨[(3, pz a3), (5, pz a5), (14, .ptr 0 0), (15, pz y136.2.1), (17, .ptr 1 0), (57, .pure (.bool y150))], [(0, .box [pz y136.1.1.Lo, pz y136.1.1.Hi, pz y136.1.2.1.Lo, pz y136.1.2.1.Hi, pz y136.1.2.2.Lo, pz y136.1.2.2.Hi]), (1, .box [pz y138.1.1.Lo, pz y138.1.1.Hi, pz y138.1.2.1.Lo, pz y138.1.2.1.Hi, pz y138.1.2.2.Lo, pz y138.1.2.2.Hi])], [], 2⟩)
 (.br (!y136.2.2)
 (.ret (.out true))
 (.br (!y138.2.2)
 (.ret (.out true))
 (.br (y136.2.1 != y138.2.1)
 (.ret (.out true))
 (.call (jzb a3) [] fun y151 =>
 .br (!y151)
 (.ret (.out true))
 (.call (jzb a5) [] fun y152 =>
 .ret (.out (!y152))))))) fun y150 =>
 .br y150
 (.ret (0, false))
 (.unroll 4 <|
 .known true <|
 .ix 0 3 rfl <|
 .ix 0 3 rfl <|
 .call (fzb (IntKind.i64.wrap (y136.1.1.Lo - y138.1.1.Hi))) [] fun y237 =>
 .ix 0 3 rfl <|
 .ix 0 3 rfl <|
 .call (fzb (IntKind.i64.wrap (y136.1.1.Hi - y138.1.1.Lo))) [] fun y238 =>
 .call (izk (max y237 y238) y136.2.1) [] fun y239 =>
 .br (decide (y239 > (IntKind.i64.wrap (a3 + a5))))
 (.ret ((-1), true))
 (.name 12004 ((IntKind.i64.wrap ((IntKind.i64.wrap ((IntKind.i64.wrap (a3 + a5)) * (IntKind.i64.wrap (a3 + a5)))) - (IntKind.i64.wrap (y239 * y239))))) fun z240 =>
 .lit 8001 (1) <|
 .known true <|
 .ix 1 3 rfl <|
 .ix 1 3 rfl <|
 .call (fzb (IntKind.i64.wrap (y136.1.2.1.Lo - y138.1.2.1.Hi))) [] fun y251 =>
 .ix 1 3 rfl <|
 .ix 1 3 rfl <|
 .call (fzb (IntKind.i64.wrap (y136.1.2.1.Hi - y138.1.2.1.Lo))) [] fun y252 =>
 .call (izk (max y251 y252) y136.2.1) [] fun y253 =>
 .br (decide (y253 > (IntKind.i64.wrap (a3 + a5))))
 (.ret ((-1), true))
 (.name 12004 ((IntKind.i64.wrap (z240 - (IntKind.i64.wrap (y253 * y253))))) fun z254 =>
 .lit 8001 (2) <|
 .known true <|
 .ix 2 3 rfl <|
 .ix 2 3 rfl <|
 .call (fzb (IntKind.i64.wrap (y136.1.2.2.Lo - y138.1.2.2.Hi))) [] fun y265 =>
 .ix 2 3 rfl <|
 .ix 2 3 rfl <|
 .call (fzb (IntKind.i64.wrap (y136.1.2.2.Hi - y138.1.2.2.Lo))) [] fun y266 =>
 .call (izk (max y265 y266) y136.2.1) [] fun y267 =>
 .br (decide (y267 > (IntKind.i64.wrap (a3 + a5))))
 (.ret ((-1), true))
 (.name 12004 ((IntKind.i64.wrap (z254 - (IntKind.i64.wrap (y267 * y267))))) fun z268 =>
 .lit 8001 (3) <|
 .known false <|
 .ret (z268, true)))))
noncomputable def jza (a0 : (List Int)) (a1 : (List Int)) (a2 : (List (az0 × az0 × az0))) (a3 : Int) (a4 : (List (az0 × az0 × az0))) (a5 : Int) : CallS (Int × Bool) :=
  mkC [] hd Tryz.func160 (by kernel_rfl) (gz5 a0 a1 a2 a3 a4 a5) 0 [.pure (encL 1 az3 a0), .pure (encL 1 az3 a1), .pure (encL 6 az4 a2), pz a3, .pure (encL 6 az4 a4), pz a5] [] (fun r => .tup [pz r.1, .pure (.bool r.2)]) (fun _ => []) (by kernel_rfl)
noncomputable def ezv (a0 : (List Int)) (a1 : (List Int)) (a2 : (List (az0 × az0 × az0))) (a3 : Int) (a4 : (List (az0 × az0 × az0))) (a5 : Int) : T Bool :=
 .call (jza a0 a1 a2 a3 a4 a5) [] fun y2 =>
 .br y2.2
 (.ret (decide (y2.1 ≥ 0)))
 (.ret false)
noncomputable def ezu (a0 : (List Int)) (a1 : (List Int)) (a2 : (List (az0 × az0 × az0))) (a3 : Int) (a4 : (List (az0 × az0 × az0))) (a5 : Int) : CallS Bool :=
  mkC [] hd Tryz.func114 (by kernel_rfl) (ezv a0 a1 a2 a3 a4 a5) 0 [.pure (encL 1 az3 a0), .pure (encL 1 az3 a1), .pure (encL 6 az4 a2), pz a3, .pure (encL 6 az4 a4), pz a5] [] (fun r => .pure (.bool r)) (fun _ => []) (by kernel_rfl)
end Go.Abs
