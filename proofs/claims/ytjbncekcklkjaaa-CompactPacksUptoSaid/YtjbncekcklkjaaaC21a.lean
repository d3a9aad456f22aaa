/-
  CompactPacks: for every input whose bulk is at most 2^20, the law 'armplanlaw21.CompactPacks' returns true and leaves its arguments as they were.
-/
import Derived.Test.YtjbncekcklkjaaaT21a
import Derived.Test.YtjbncekcklkjaaaLaw21b
namespace Go.Abs
open Go.Proofs

theorem sum_ge {α : Type} {f : α → Nat} (h : ∀ a, 1 ≤ f a) (l : List α) : l.length ≤ (l.map f).sum := by
  induction l with
  | nil => simp
  | cons a l ih => have := h a; simp only [List.length_cons, List.map_cons, List.sum_cons]; omega
theorem sum_mem {α : Type} {f : α → Nat} {l : List α} {a : α} (h : a ∈ l) : f a ≤ (l.map f).sum := by
  induction l with
  | nil => cases h
  | cons b l ih =>
    simp only [List.map_cons, List.sum_cons]
    rcases List.mem_cons.1 h with rfl | h
    · omega
    · have := ih h; omega
theorem sum_mono {α : Type} {f g : α → Nat} (h : ∀ a, f a ≤ g a) (l : List α) : (l.map f).sum ≤ (l.map g).sum := by
  induction l with
  | nil => simp
  | cons a l ih => have := h a; simp only [List.map_cons, List.sum_cons]; omega

namespace compactPacks
theorem vec_le (a : V3) : 1 ≤ bulk_t39 a := by unfold bulk_t39; omega
theorem piece_le (p : S_Piece) : p.Normals.length ≤ bulk_t45 p := by
  have := sum_ge vec_le p.Normals
  unfold bulk_t45 bulk_t23; omega
theorem use_le (p : S_Use) : p.Numbers.length ≤ bulk_t37 p := by
  have : ∀ n : Int, 1 ≤ bulk_t3 n := fun _ => Nat.le_refl _
  have := sum_ge this p.Numbers
  unfold bulk_t37 bulk_t27; omega
theorem plain (a0 : List S_Piece) (a1 : S_Packed) (a2 : List Int) (h : bulk_t22 a0 + bulk_t26 a1 + bulk_t27 a2 ≤ 1048576) : law21_CompactPacks_F 4294967296 a0 a1 a2 = some true := by
  have e0 : a0.length ≤ (a0.map bulk_t45).sum := sum_ge (fun p => by unfold bulk_t45; omega) a0
  have e1 : total a0 ≤ (a0.map bulk_t45).sum := sum_mono piece_le a0
  have e2 : a2.length ≤ (a2.map bulk_t3).sum := sum_ge (fun _ => Nat.le_refl _) a2
  have e3 : a1.Uses.length ≤ (a1.Uses.map bulk_t37).sum := sum_ge (fun p => by unfold bulk_t37; omega) a1.Uses
  have e4 : numbers a1.Uses ≤ (a1.Uses.map bulk_t37).sum := sum_mono use_le a1.Uses
  have e5 : a1.Table.length ≤ (a1.Table.map bulk_t39).sum := sum_ge vec_le a1.Table
  unfold bulk_t22 bulk_t26 bulk_t27 bulk_t23 bulk_t24 at h
  refine compactPacks_true _ 1048576 a0 a1 a2 (by omega) (by omega) (by omega) ⟨by omega, fun p hp => ?_⟩ (by omega) ⟨by omega, fun u hu => ?_⟩ (by omega) (by omega) (by omega)
  · have := piece_le p; have := sum_mem (f := bulk_t45) hp; omega
  · have := use_le u; have := sum_mem (f := bulk_t37) hu; omega
end compactPacks
end Go.Abs

namespace Go.Proofs.Ytjbncekcklkjaaa
theorem compactPacks_holds : Rows.CompactPacksUptoSaid := Go.Abs.compactPacks.over fun a0 a1 a2 _ _ _ h => Go.Abs.compactPacks.plain a0 a1 a2 h
end Go.Proofs.Ytjbncekcklkjaaa
