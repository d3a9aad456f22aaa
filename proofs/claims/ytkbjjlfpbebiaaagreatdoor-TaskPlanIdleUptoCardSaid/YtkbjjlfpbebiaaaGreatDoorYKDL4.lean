/-
  DL4 (a part of a claim: our own text).
-/
import Derived.Test.YtkbjjlfpbebiaaaGreatDoorYKDL3
namespace Go.Abs
open Go.Proofs
theorem v0_o (a0 a1 a2 a3 a4 a5 a6 a7 a8 a9 a10 a11 a12 a13 a14 a15 a16):(ezt a0 a1 a2 a3 a4 a5 a6 a7 a8 a9 a10 a11 a12 a13 a14 a15 a16).o=(fzp a0 a1 a2 a3 a4 a5 a6 a7 a8 a9 a10 a11 a12 a13 a14 a15 a16).run NN:=rfl
set_option maxHeartbeats 0 in
theorem try0:(ezt w1.Scene.Robot.Joints w1.Scene.Robot.Masses w1.Scene.Shapes w1.Scene.Skips w1.Objects w1.Places w1.Hands w1.Grips w1.Slack 1 3 4 9 nl (⟨[0]⟩:bz5) [0,0] ac1).o=none:=by
 rw[v0_o]
 unfold fzp
 simp only[T.run]
 exact Hz4 xs1 ([st1,st2],kn2) 2 rfl (by decide) (fun j hj=>match j,hj with
  |0,_=>by as_aux_lemma=>kernel_rfl
  |1,_=>by as_aux_lemma=>kernel_rfl) (by as_aux_lemma=>kernel_rfl)
end Go.Abs
