/-
  DL4 (a part of a claim: our own text).
-/
import Derived.Test.YtkjkbdobenmgbaaGreatXJDL3
import Derived.Test.YtkjkbdobenmgbaaGreatXJDL2
namespace Go.Abs
open Go.Proofs
def LtD (d : Nat → Int) (i j : Nat) : Prop := d i < d j ∨ (d i = d j ∧ i < j)
abbrev casts (l : List Nat) : List Int := l.map fun (i : Nat) => (i : Int)
theorem casts_get {l : List Nat} {i : Nat} (h : i < l.length) : (casts l).getD i default = ((l.getD i default : Nat) : Int) := by
  simp [List.getD_eq_getElem?_getD, List.getElem?_eq_getElem h]
def ixs (no : Int) (n : Nat) : List Nat := (List.range n).filter fun (i : Nat) => !((i : Int) == no)
theorem ixs_succ (no : Int) (n : Nat) : ixs no (n + 1) = if ((n : Int) == no) = true then ixs no n else ixs no n ++ [n] := by
  unfold ixs
  rw [List.range_succ, List.filter_append]
  cases h : ((n : Int) == no) <;> simp [h]
theorem ixs_lt {no : Int} {n i : Nat} (h : i ∈ ixs no n) : i < n := by
  unfold ixs at h
  exact List.mem_range.1 (List.mem_filter.1 h).1
def dQ (r : S_Robot) (pts : List (List Int)) (q : List Int) (i : Nat) : Int := dstV r (pts.getD i default) q
def OrdQ (d : Nat → Int) (no : Int) (n : Nat) (ns : List Nat) : Prop := ns.Perm (ixs no n) ∧ ns.Pairwise (LtD d)
theorem byDist_e (r : S_Robot) (pts : List (List Int)) (q : List Int) (no : Int) (hp : pts.length ≤ 1000) (hn : ∀ c ∈ pts, c.length < 4294967296) (hq : q.length < 4294967296) :
    ∃ l, (ref23_byDistance_C r pts q no).o = some l ∧ ∃ ns, l = casts ns ∧ OrdQ (dQ r pts q) no pts.length ns := by
  show ∃ l, (ref23_byDistance_T r pts q no).run NN = some l ∧ _
  simp only [ref23_byDistance_T, T.run]
  have hlen : ∀ {j : Nat} {ns : List Nat}, OrdQ (dQ r pts q) no j ns → ns.length ≤ j ∧ ∀ i ∈ ns, i < j := fun h => by
    have h1 := h.1.length_eq
    refine ⟨?_, fun i hi => ixs_lt (h.1.mem_iff.1 hi)⟩
    rw [h1]; unfold ixs; exact Nat.le_trans (List.length_filter_le _ _) (by simp)
  refine loop_mf (P := fun l : List Int => ∃ ns, l = casts ns ∧ OrdQ (dQ r pts q) no pts.length ns)
    (fun k (y : List Int × Int) => ∃ j : Nat, y.2 = (j : Int) ∧ j + k = pts.length ∧ ∃ ns, y.1 = casts ns ∧ OrdQ (dQ r pts q) no j ns)
    (fun l : List Int => ∃ ns, l = casts ns ∧ OrdQ (dQ r pts q) no pts.length ns) pts.length ⟨0, rfl, by omega, [], rfl, List.Perm.nil, List.Pairwise.nil⟩ (by omega) ?_ (fun z hz => ⟨_, rfl, hz⟩)
  rintro k ⟨l, y⟩ ⟨j, hj, hjk, ns, hns, ho⟩
  simp only at hj hns ⊢
  subst hj; subst hns
  cases k with
  | zero =>
    obtain rfl : j = pts.length := by omega
    exact .inr (.inl ⟨_, by rw [bif_dneg (by omega)], ns, rfl, ho⟩)
  | succ k =>
    obtain ⟨hl1, hl2⟩ := hlen ho
    rw [bif_dpos (by omega), wn (by omega)]
    by_cases c : (j : Int) = no
    · rw [bif_eq c, andC_out]
      refine .inl ⟨_, k, rfl, Nat.lt_succ_self k, j + 1, rfl, by omega, ns, rfl, ?_, ho.2⟩
      rw [ixs_succ, if_pos (by simpa using c)]; exact ho.1
    · have l1 := hn _ (getD_mem (show j < pts.length by omega))
      have hcl : (casts ns).length = ns.length := by simp
      rw [bif_ne c, grd_p (by simp only [List.length_cons, List.length_nil, maxLen_eq, hcl]; omega), grd_p (by omega), grd_p (by omega), Int.toNat_natCast, ref_dist r _ _ l1 hq]
      simp only [Option.bind_some]
      generalize hA : andK _ _ = A
      obtain ⟨s, e, l', rfl, h1⟩ : ∃ s, A = some s ∧ (∃ l' : List Int, s = Step3.out l' ∧ ∃ ns, l' = casts ns ∧ OrdQ (dQ r pts q) no (j + 1) ns) := by
        rw [← hA]
        refine loop_mf (fun k' (y : List Int × Int) => ∃ a b, y.2 = ((a.length : Nat) : Int) ∧ a.length ≤ k' ∧ ns = a ++ b ∧ y.1 = casts a ++ (j : Int) :: casts b ∧ ∀ x ∈ b, dQ r pts q j < dQ r pts q x)
          (fun l' : List Int => ∃ ns, l' = casts ns ∧ OrdQ (dQ r pts q) no (j + 1) ns) ns.length ⟨ns, [], by simp only [hcl], Nat.le_refl _, by simp, rfl, fun x hx => by cases hx⟩ (by omega) ?_ (fun z hz => ⟨_, rfl, z, rfl, hz⟩)
        rintro k' ⟨l2, y2⟩ ⟨a, b, hi, hik, hab, hl2', hb⟩
        simp only at hi hl2' ⊢
        subst hi; subst hl2'
        have hab' : ns.length = a.length + b.length := by rw [hab, List.length_append]
        have hll : (casts a ++ (j : Int) :: casts b).length = a.length + 1 + b.length := by simp; omega
        have fin1 : (∀ x ∈ a, dQ r pts q x ≤ dQ r pts q j) → ∃ ns', casts a ++ (j : Int) :: casts b = casts ns' ∧ OrdQ (dQ r pts q) no (j + 1) ns' := fun ha => by
          refine ⟨a ++ j :: b, by simp, ?_, ?_⟩
          · rw [ixs_succ, if_neg (by simpa using c)]
            have h1 := ho.1
            rw [hab] at h1
            exact List.perm_middle.trans ((List.Perm.cons j h1).trans (List.perm_append_singleton j _).symm)
          · have h2 := ho.2
            rw [hab] at h2
            obtain ⟨p1, p2, p3⟩ := List.pairwise_append.1 h2
            refine List.pairwise_append.2 ⟨p1, List.pairwise_cons.2 ⟨fun x hx => .inl (hb x hx), p2⟩, fun x hx y hy => ?_⟩
            rcases List.mem_cons.1 hy with rfl | hy
            · have := ha x hx
              have := hl2 x (by rw [hab]; exact List.mem_append_left _ hx)
              unfold LtD; omega
            · exact p3 x hx y hy
        by_cases h0 : a = []
        · subst h0
          rw [bif_dneg (by simp), andC_out]
          exact .inr (.inl ⟨_, rfl, fin1 fun x hx => by cases hx⟩)
        · obtain ⟨a', x, rfl⟩ : ∃ a' x, a = a' ++ [x] := ⟨a.dropLast, a.getLast h0, (List.dropLast_concat_getLast h0).symm⟩
          have hal : (a' ++ [x]).length = a'.length + 1 := by simp
          have hx := hl2 x (by rw [hab]; simp)
          have l2' := hn _ (getD_mem (show x < pts.length by omega))
          have hg : (casts (a' ++ [x]) ++ (j : Int) :: casts b).getD a'.length default = (x : Int) := by
            simp [List.getD_eq_getElem?_getD, List.getElem?_append]
          have hg2 : (casts (a' ++ [x]) ++ (j : Int) :: casts b).getD (a'.length + 1) default = (j : Int) := by
            simp [List.getD_eq_getElem?_getD, List.getElem?_append]
          rw [hal] at hll ⊢
          rw [bif_dpos (by omega), wpred (by omega) (by omega), Nat.add_sub_cancel, grd_p (by omega), Int.toNat_natCast, grd_p (by omega), hg, grd_p (by omega), Int.toNat_natCast, grd_p (by omega), ref_dist r _ _ l2' hq]
          simp only [Option.bind_some, andC_out]
          by_cases hd : dstV r (pts.getD j default) q < dstV r (pts.getD x default) q
          · rw [bif_dpos hd, grd_p (by omega), grd_p (by omega), grd_p (by omega), Int.toNat_natCast, grd_p (by omega), grd_p (by omega), grd_p (by omega), grd_p (by rw [List.length_set]; omega), grd_p (by rw [List.length_set]; omega), hg2]
            refine .inl ⟨_, a'.length, rfl, by omega, a', x :: b, rfl, Nat.le_refl _, by rw [hab]; simp, ?_, fun z hz => ?_⟩
            · simp
            · rcases List.mem_cons.1 hz with rfl | hz
              · exact hd
              · exact hb z hz
          · rw [bif_dneg hd]
            refine .inr (.inl ⟨_, rfl, fin1 fun z hz => ?_⟩)
            rcases List.mem_append.1 hz with hz | hz
            · have h2 := ho.2
              rw [hab, List.append_assoc] at h2
              have := (List.pairwise_append.1 h2).2.2 z hz x (by simp)
              unfold LtD at this
              unfold dQ at *
              omega
            · simp at hz; subst hz; unfold dQ; omega
      rw [e, andC_out]
      exact .inl ⟨_, k, rfl, Nat.lt_succ_self k, j + 1, rfl, by omega, h1⟩
def newE (r : S_Robot) (pts : List (List Int)) (u v : Int) : S_RoadmapEdge := ⟨u, v, dstV r (pts.getD u.toNat default) (pts.getD v.toNat default), 0, ⟨0, nl, ⟨0, 0, nl⟩, ⟨0, nl, nl⟩⟩⟩
def hitE (u v : Int) (e : S_RoadmapEdge) : Bool := bif decide (e.U > u) then true else bif e.U == u then decide (e.V ≥ v) else false
def othE (u v : Int) (e : S_RoadmapEdge) : Bool := bif e.U != u then true else e.V != v
def insF (n : S_RoadmapEdge) : List S_RoadmapEdge → List S_RoadmapEdge
  | [] => [n]
  | e :: t => bif hitE n.U n.V e then (bif othE n.U n.V e then n :: e :: t else e :: t) else e :: insF n t
theorem insF_len (n : S_RoadmapEdge) : ∀ l, (insF n l).length ≤ l.length + 1
  | [] => Nat.le_refl _
  | e :: t => by
    have := insF_len n t
    unfold insF
    cases hitE n.U n.V e <;> cases othE n.U n.V e <;> simp <;> omega
theorem insert_e (r : S_Robot) (pts : List (List Int)) (es : List S_RoadmapEdge) (u v : Int) (hn : ∀ c ∈ pts, c.length < 4294967296) (he : es.length ≤ 1000000) (hu : 0 ≤ u ∧ u < (pts.length : Int)) (hv : 0 ≤ v ∧ v < (pts.length : Int)) :
    (ref23_insert_C r pts es u v).o = some (insF (newE r pts (min u v) (max u v)) es) := by
  have la := hn _ (getD_mem (show (min u v).toNat < pts.length by omega))
  have lb := hn _ (getD_mem (show (max u v).toNat < pts.length by omega))
  obtain ⟨N, hN⟩ : ∃ N, N = newE r pts (min u v) (max u v) := ⟨_, rfl⟩
  have hN1 : (⟨min u v, max u v, dstV r (pts.getD (min u v).toNat default) (pts.getD (max u v).toNat default), 0, ⟨0, nl, ⟨0, 0, nl⟩, ⟨0, nl, nl⟩⟩⟩ : S_RoadmapEdge) = N := hN.symm
  have hU : N.U = min u v := by rw [hN]; rfl
  have hV : N.V = max u v := by rw [hN]; rfl
  have hil := insF_len N es
  have goal : ∃ x, (ref23_insert_T r pts es u v).run NN = some x ∧ x = insF N es := by
    simp only [ref23_insert_T, T.run, ref_dist r _ _ la lb, Option.bind_some, bif_out, andC_out, hN1]
    refine loop_mf (fun k (y : List S_RoadmapEdge × Bool × Int) => ∃ j : Nat, y.2.2 = (j : Int) ∧ j + k = es.length ∧ y.1 ++ (if y.2.1 = true then es.drop j else insF N (es.drop j)) = insF N es)
      (fun y : List S_RoadmapEdge × Bool => y.1 ++ (if y.2 = true then [] else [N]) = insF N es) es.length ⟨0, rfl, by omega, by simp [nl]⟩ (by omega) ?_ ?_
    · rintro k ⟨l, dn, y⟩ ⟨j, hj, hjk, hl⟩
      simp only at hj hl ⊢
      subst hj
      have hll : l.length ≤ 1000001 := by
        have := congrArg List.length hl
        rw [List.length_append] at this; omega
      cases k with
      | zero =>
        obtain rfl : j = es.length := by omega
        refine .inr (.inl ⟨_, by rw [bif_dneg (by omega)], ?_⟩)
        simp only
        rw [List.drop_length] at hl
        exact hl
      | succ k =>
        have hd : es.drop j = es.getD j default :: es.drop (j + 1) := by
          rw [List.drop_eq_getElem_cons (by omega), List.getD_eq_getElem?_getD, List.getElem?_eq_getElem (by omega), Option.getD_some]
        rw [hd] at hl
        rw [bif_dpos (by omega), grd_p (by omega), grd_p (by omega), Int.toNat_natCast, wn (by omega)]
        generalize es.getD j default = e at hl ⊢
        have hh : (bif decide (e.U > min u v) then true else bif e.U == min u v then decide (e.V ≥ max u v) else false) = hitE N.U N.V e := by rw [hU, hV]; rfl
        have ho : (bif e.U != min u v then true else e.V != max u v) = othE N.U N.V e := by rw [hU, hV]; rfl
        simp only [hh, ho]
        cases dn with
        | true =>
          simp only [Bool.not_true, cond_false, andC_out]
          rw [grd_p (by simp only [List.length_cons, List.length_nil, maxLen_eq]; omega)]
          refine .inl ⟨_, k, rfl, Nat.lt_succ_self k, j + 1, rfl, by omega, ?_⟩
          simp only [if_true, List.append_assoc] at hl ⊢
          exact hl
        | false =>
          simp only [Bool.not_false, cond_true]
          simp only [insF] at hl
          cases h1 : hitE N.U N.V e with
          | false =>
            rw [h1] at hl
            simp only [cond_false, andC_out]
            rw [grd_p (by simp only [List.length_cons, List.length_nil, maxLen_eq]; omega)]
            refine .inl ⟨_, k, rfl, Nat.lt_succ_self k, j + 1, rfl, by omega, ?_⟩
            simpa using hl
          | true =>
            rw [h1] at hl
            simp only [cond_true]
            cases h2 : othE N.U N.V e with
            | false =>
              rw [h2] at hl
              simp only [cond_false, andC_out]
              rw [grd_p (by simp only [List.length_cons, List.length_nil, maxLen_eq]; omega)]
              refine .inl ⟨_, k, rfl, Nat.lt_succ_self k, j + 1, rfl, by omega, ?_⟩
              simpa using hl
            | true =>
              rw [h2] at hl
              simp only [cond_true]
              rw [grd_p (by omega), grd_p (by omega), grd_p (by omega), grd_p (by omega), grd_p (by simp only [List.length_cons, List.length_nil, maxLen_eq]; omega), andC_out,
                grd_p (by simp only [List.length_append, List.length_cons, List.length_nil, maxLen_eq]; omega)]
              refine .inl ⟨_, k, rfl, Nat.lt_succ_self k, j + 1, rfl, by omega, ?_⟩
              simpa using hl
    · rintro ⟨l, dn⟩ hl
      simp only at hl ⊢
      have hll : l.length ≤ 1000001 := by
        have := congrArg List.length hl
        rw [List.length_append] at this; omega
      cases dn with
      | true =>
        simp only [Bool.not_true, cond_false, andC_out]
        exact ⟨_, rfl, by simpa using hl⟩
      | false =>
        simp only [Bool.not_false, cond_true]
        rw [grd_p (by omega), grd_p (by omega), grd_p (by omega), grd_p (by omega), grd_p (by simp only [List.length_cons, List.length_nil, maxLen_eq]; omega), andC_out]
        exact ⟨_, rfl, by simpa using hl⟩
  obtain ⟨x, h1, h2⟩ := goal
  rw [← hN, ← h2]; exact h1
open Go.Proofs
theorem ltE_iff {a b : S_RoadmapEdge} : ltE a b = true ↔ a.U < b.U ∨ (a.U = b.U ∧ a.V < b.V) := by unfold ltE; rw [decide_eq_true_eq]
theorem hitE_iff {n e : S_RoadmapEdge} : hitE n.U n.V e = true ↔ ¬ ltE e n = true := by
  rw [ltE_iff]; unfold hitE
  by_cases h1 : e.U > n.U
  · rw [bif_dpos h1]; simp; omega
  · rw [bif_dneg h1]
    by_cases h2 : e.U = n.U
    · rw [bif_eq h2, decide_eq_true_eq]; omega
    · rw [bif_ne h2]; simp; omega
theorem othE_iff {n e : S_RoadmapEdge} : othE n.U n.V e = true ↔ ¬ (e.U = n.U ∧ e.V = n.V) := by
  unfold othE
  by_cases h2 : e.U = n.U
  · rw [bif_nne h2]; simp [h2]
  · rw [bif_neq h2]; simp [h2]
abbrev SoE (l : List S_RoadmapEdge) : Prop := l.Pairwise fun a b => ltE a b = true
theorem insF_mem (n : S_RoadmapEdge) : ∀ l, SoE l → ∀ e, e ∈ insF n l ↔ e ∈ l ∨ (e = n ∧ ∀ x ∈ l, ¬ (x.U = n.U ∧ x.V = n.V))
  | [], _, e => by simp [insF]
  | x :: t, hs, e => by
    obtain ⟨h1, h2⟩ := List.pairwise_cons.1 hs
    have ih := insF_mem n t h2 e
    unfold insF
    cases hh : hitE n.U n.V x with
    | false =>
      have hx : ltE x n = true := by
        refine Classical.byContradiction fun h => ?_
        rw [hitE_iff.2 h] at hh; cases hh
      simp only [cond_false, List.mem_cons, ih]
      rw [ltE_iff] at hx
      constructor
      · rintro (h | h | ⟨h, h'⟩)
        · exact .inl (.inl h)
        · exact .inl (.inr h)
        · refine .inr ⟨h, fun y hy => ?_⟩
          rcases hy with rfl | hy
          · omega
          · exact h' y hy
      · rintro ((h | h) | ⟨h, h'⟩)
        · exact .inl h
        · exact .inr (.inl h)
        · exact .inr (.inr ⟨h, fun y hy => h' y (.inr hy)⟩)
    | true =>
      have hx := hitE_iff.1 hh
      cases ho : othE n.U n.V x with
      | false =>
        have ho' : x.U = n.U ∧ x.V = n.V := by
          refine Classical.byContradiction fun h => ?_
          rw [othE_iff.2 h] at ho; cases ho
        simp only [cond_true, cond_false]
        refine ⟨fun h => .inl h, fun h => ?_⟩
        rcases h with h | ⟨h, h'⟩
        · exact h
        · exact absurd ho' (h' x (List.mem_cons_self ..))
      | true =>
        have ho' := othE_iff.1 ho
        simp only [cond_true, List.mem_cons]
        constructor
        · rintro (h | h | h)
          · refine .inr ⟨h, fun y hy => ?_⟩
            rcases hy with rfl | hy
            · exact ho'
            · have := h1 y hy
              rw [ltE_iff] at this hx
              omega
          · exact .inl (.inl h)
          · exact .inl (.inr h)
        · rintro ((h | h) | ⟨h, -⟩)
          · exact .inr (.inl h)
          · exact .inr (.inr h)
          · exact .inl h
theorem insF_so (n : S_RoadmapEdge) : ∀ l, SoE l → SoE (insF n l)
  | [], _ => List.pairwise_singleton ..
  | x :: t, hs => by
    obtain ⟨h1, h2⟩ := List.pairwise_cons.1 hs
    have ih := insF_so n t h2
    have im := insF_mem n t h2
    unfold insF
    cases hh : hitE n.U n.V x with
    | false =>
      have hx : ltE x n = true := by
        refine Classical.byContradiction fun h => ?_
        rw [hitE_iff.2 h] at hh; cases hh
      simp only [cond_false]
      refine List.pairwise_cons.2 ⟨fun y hy => ?_, ih⟩
      rcases (im y).1 hy with hy | ⟨rfl, -⟩
      · exact h1 y hy
      · exact hx
    | true =>
      have hx := hitE_iff.1 hh
      cases ho : othE n.U n.V x with
      | false => exact hs
      | true =>
        have ho' := othE_iff.1 ho
        simp only [cond_true]
        have hnx : ltE n x = true := by rw [ltE_iff] at hx ⊢; omega
        refine List.pairwise_cons.2 ⟨fun y hy => ?_, hs⟩
        rcases List.mem_cons.1 hy with rfl | hy
        · exact hnx
        · have := h1 y hy
          rw [ltE_iff] at this hnx ⊢
          omega
def MapE (r : S_Robot) (P : List (List Int)) (S : Nat → Nat → Prop) (es : List S_RoadmapEdge) : Prop := SoE es ∧ ∀ e, e ∈ es ↔ ∃ a b : Nat, a < b ∧ b < P.length ∧ S a b ∧ e = newE r P a b
theorem MapE.congr {r : S_Robot} {P : List (List Int)} {S S' : Nat → Nat → Prop} {es : List S_RoadmapEdge} (h : MapE r P S es) (hs : ∀ a b, a < b → b < P.length → (S a b ↔ S' a b)) : MapE r P S' es :=
  ⟨h.1, fun e => (h.2 e).trans ⟨fun ⟨a, b, h1, h2, h3, h4⟩ => ⟨a, b, h1, h2, (hs a b h1 h2).1 h3, h4⟩, fun ⟨a, b, h1, h2, h3, h4⟩ => ⟨a, b, h1, h2, (hs a b h1 h2).2 h3, h4⟩⟩⟩
theorem MapE.nil (r : S_Robot) (P : List (List Int)) : MapE r P (fun _ _ => False) [] := ⟨List.Pairwise.nil, fun e => ⟨fun h => (by cases h), fun ⟨_, _, _, _, h, _⟩ => h.elim⟩⟩
theorem MapE.ins {r : S_Robot} {P : List (List Int)} {S : Nat → Nat → Prop} {es : List S_RoadmapEdge} (h : MapE r P S es) {x y : Nat} (hx : x < y) (hy : y < P.length) : MapE r P (fun a b => S a b ∨ (a = x ∧ b = y)) (insF (newE r P x y) es) := by
  refine ⟨insF_so _ _ h.1, fun e => (insF_mem _ _ h.1 e).trans ⟨?_, ?_⟩⟩
  · rintro (h1 | ⟨rfl, -⟩)
    · obtain ⟨a, b, h2, h3, h4, h5⟩ := (h.2 e).1 h1
      exact ⟨a, b, h2, h3, .inl h4, h5⟩
    · exact ⟨x, y, hx, hy, .inr ⟨rfl, rfl⟩, rfl⟩
  · rintro ⟨a, b, h2, h3, h4 | ⟨rfl, rfl⟩, h5⟩
    · exact .inl ((h.2 e).2 ⟨a, b, h2, h3, h4, h5⟩)
    · by_cases hs : S a b
      · exact .inl ((h.2 e).2 ⟨a, b, h2, h3, hs, h5⟩)
      · refine .inr ⟨h5, fun z hz hc => ?_⟩
        obtain ⟨a', b', k2, k3, k4, rfl⟩ := (h.2 z).1 hz
        simp only [newE] at hc
        have : a' = a ∧ b' = b := by omega
        rw [this.1, this.2] at k4
        exact hs k4
theorem MapE.inE {r : S_Robot} {P : List (List Int)} {S : Nat → Nat → Prop} {es : List S_RoadmapEdge} (h : MapE r P S es) : ∀ e ∈ es, 0 ≤ e.U ∧ e.U < e.V ∧ e.V < (P.length : Int) := fun e he => by
  obtain ⟨a, b, h2, h3, -, rfl⟩ := (h.2 e).1 he
  simp only [newE]; omega
def cntD (d : Nat → Int) (no : Int) (n v : Nat) : Nat := ((ixs no n).filter fun w => decide (d w < d v ∨ (d w = d v ∧ w < v))).length
theorem mem_ixs {no : Int} {n v : Nat} : v ∈ ixs no n ↔ v < n ∧ (v : Int) ≠ no := by unfold ixs; simp
theorem ord_split {d : Nat → Int} {no : Int} {n : Nat} {ns : List Nat} (h : OrdQ d no n ns) {v : Nat} (hv : v ∈ ns) : ∃ a b, ns = a ++ v :: b ∧ a.length = cntD d no n v ∧ ¬ v ∈ a := by
  obtain ⟨a, b, rfl⟩ := List.append_of_mem hv
  obtain ⟨h1, h2⟩ := h
  obtain ⟨p1, p2, p3⟩ := List.pairwise_append.1 h2
  have p4 := (List.pairwise_cons.1 p2).1
  refine ⟨a, b, rfl, ?_, fun ha => ?_⟩
  · unfold cntD
    rw [← (h1.filter _).length_eq, List.filter_append, List.filter_cons]
    have e1 : a.filter (fun w => decide (d w < d v ∨ (d w = d v ∧ w < v))) = a := List.filter_eq_self.2 fun w hw => by
      have := p3 w hw v (List.mem_cons_self ..)
      exact decide_eq_true this
    have e2 : b.filter (fun w => decide (d w < d v ∨ (d w = d v ∧ w < v))) = [] := List.filter_eq_nil_iff.2 fun w hw => by
      have := p4 w hw
      unfold LtD at this
      rw [decide_eq_true_eq]; omega
    rw [e1, e2, if_neg (by simp)]; simp
  · have := p3 v ha v (List.mem_cons_self ..)
    unfold LtD at this; omega
theorem mem_take_ord {d : Nat → Int} {no : Int} {n : Nat} {ns : List Nat} (h : OrdQ d no n ns) {v i : Nat} : v ∈ ns.take i ↔ v ∈ ixs no n ∧ cntD d no n v < i := by
  constructor
  · intro hv
    have hv' := List.mem_of_mem_take hv
    refine ⟨h.1.mem_iff.1 hv', ?_⟩
    obtain ⟨a, b, rfl, h2, h3⟩ := ord_split h hv'
    rw [← h2]
    refine Classical.byContradiction fun hc => h3 ?_
    rw [List.take_append_of_le_length (by omega)] at hv
    exact List.mem_of_mem_take hv
  · rintro ⟨h1, h2⟩
    obtain ⟨a, b, rfl, h4, h5⟩ := ord_split h (h.1.mem_iff.2 h1)
    rw [List.take_append]
    obtain ⟨m, hm⟩ : ∃ m, i - a.length = m + 1 := ⟨i - a.length - 1, by omega⟩
    rw [hm, List.take_succ_cons]
    exact List.mem_append_right _ (List.mem_cons_self ..)
theorem cnt_lt {d : Nat → Int} {no : Int} {n : Nat} {ns : List Nat} (h : OrdQ d no n ns) {v : Nat} (hv : v ∈ ixs no n) : cntD d no n v < ns.length := by
  obtain ⟨a, b, rfl, h4, h5⟩ := ord_split h (h.1.mem_iff.2 hv)
  rw [List.length_append, List.length_cons]; omega
def NearP (r : S_Robot) (P : List (List Int)) (k : Int) (u v : Nat) : Prop := v ∈ ixs (u : Int) P.length ∧ (cntD (dQ r P (P.getD u default)) (u : Int) P.length v : Int) < k
def JoinP (r : S_Robot) (P : List (List Int)) (k : Int) (a b : Nat) : Prop := NearP r P k a b ∨ NearP r P k b a
theorem pointOf_v (l : List (List Int)) (c : List Int) (hl : l.length < 4294967296) (hn : ∀ x ∈ l, x.length < 4294967296) : ∃ z, (ref23_PointOf_C l c).o = some z ∧ decide (z < 0) = !memB l c := by
  obtain ⟨z, h1, h2⟩ := pointOf_e l c hl hn
  refine ⟨z, ?_, by rw [← h2, Bool.eq_iff_iff]; simp⟩
  rw [← h1]
  show (ref23_PointOf_T l c).run NN = (ref23_PointOf_1_T l c).run NN
  simp only [ref23_PointOf_T, ref23_PointOf_1_T, T.run]
  have : ∀ x : Int, 0 ≤ x ∧ x < (l.length : Int) → x.toNat < l.length := fun x hx => by omega
  refine congrArg (fun f => andK (iter f NN 0) fun _ => some (-1)) (funext fun x => ?_)
  by_cases h : x < (l.length : Int)
  · rw [bif_dpos h, bif_dpos h]
    by_cases h0 : 0 ≤ x ∧ x < (l.length : Int)
    · rw [grd_p h0, grd_p h0, grd_p (this x h0)]
    · unfold grd; rw [if_neg h0, if_neg h0]
  · rw [bif_dneg h, bif_dneg h]
theorem newMap_e (r : S_Robot) (pts : List (List Int)) (k : Int) (hp : pts.length ≤ 1000) (hn : ∀ c ∈ pts, c.length < 4294967296) :
    ∃ m, (ref23_NewMap_C r pts k).o = some m ∧ (robotV r ≠ 0 → m = ([], [])) ∧ (robotV r = 0 → m.1 = disL r pts pts.length ∧ ∃ es, m.2 = es.take 8192 ∧ es.length ≤ m.1.length * m.1.length ∧ MapE r m.1 (JoinP r m.1 k) es) := by
  show ∃ m, (ref23_NewMap_T r pts k).run NN = some m ∧ _
  have er : (⟨r.Joints, r.Masses⟩ : S_Robot) = r := rfl
  simp only [ref23_NewMap_T, T.run, er, ref6_CheckRobot_e, ref10_Inside_e, Option.bind_some]
  by_cases hr : robotV r ≠ 0
  · rw [bif_neq hr]
    exact ⟨_, rfl, fun _ => rfl, fun h => absurd h hr⟩
  have hr : robotV r = 0 := Classical.not_not.1 hr
  rw [bif_nne hr]
  refine loop_mf (x := ((nl : List (List Int)), (0 : Int))) (P := fun m : List (List Int) × List S_RoadmapEdge => (robotV r ≠ 0 → m = ([], [])) ∧ (robotV r = 0 → m.1 = disL r pts pts.length ∧ ∃ es, m.2 = es.take 8192 ∧ es.length ≤ m.1.length * m.1.length ∧ MapE r m.1 (JoinP r m.1 k) es))
    (fun m (y : List (List Int) × Int) => ∃ j : Nat, y.2 = (j : Int) ∧ j + m = pts.length ∧ y.1 = disL r pts j) (fun z : List (List Int) => z = disL r pts pts.length) pts.length ⟨0, rfl, by omega, rfl⟩ (by omega) ?_ ?_
  · rintro m ⟨l, y⟩ ⟨j, hj, hjm, hl⟩
    simp only at hj hl ⊢
    subst hj; subst hl
    have hlen := disL_len r pts j
    cases m with
    | zero =>
      obtain rfl : j = pts.length := by omega
      rw [bif_dneg (by omega), andC_out]
      exact .inr (.inl ⟨_, rfl, rfl⟩)
    | succ m =>
      have hin := disL_in r pts j
      have hs : disL r pts (j + 1) = if insideV r (pts.getD j default) = true ∧ ¬ pts.getD j default ∈ disL r pts j then disL r pts j ++ [pts.getD j default] else disL r pts j := rfl
      have hc := hn _ (getD_mem (show j < pts.length by omega))
      rw [bif_dpos (by omega), decide_eq_true (p := ((disL r pts j).length : Int) < 1024) (by omega), andC_out]
      simp only [cond_true]
      rw [grd_p (by omega), wn (by omega), Int.toNat_natCast]
      generalize pts.getD j default = c at hs hc ⊢
      cases h1 : insideV r c with
      | false =>
        simp only [cond_false, andC_out]
        refine .inl ⟨_, m, rfl, Nat.lt_succ_self m, j + 1, rfl, by omega, ?_⟩
        rw [hs, if_neg (fun h => by rw [h1] at h; cases h.1)]
      | true =>
        obtain ⟨z, z1, z2⟩ := pointOf_v (disL r pts j) c (by omega) (fun x hx => by have := inside_len (hin x hx); omega)
        simp only [cond_true]
        rw [grd_p (by omega), z1]
        simp only [Option.bind_some, andC_out, z2]
        by_cases hm : c ∈ disL r pts j
        · have : memB (disL r pts j) c = true := decide_eq_true hm
          rw [this]
          simp only [Bool.not_true, cond_false, andC_out]
          refine .inl ⟨_, m, rfl, Nat.lt_succ_self m, j + 1, rfl, by omega, ?_⟩
          rw [hs, if_neg (fun h => h.2 hm)]
        · have : memB (disL r pts j) c = false := decide_eq_false hm
          rw [this]
          simp only [Bool.not_false, cond_true]
          rw [grd_p (by omega), grd_p (by rw [maxLen_eq]; omega), grd_p (by simp only [List.length_cons, List.length_nil, maxLen_eq]; omega), andC_out]
          refine .inl ⟨_, m, rfl, Nat.lt_succ_self m, j + 1, rfl, by omega, ?_⟩
          rw [hs, if_pos ⟨h1, hm⟩]
  · rintro P hP
    have hPl : P.length ≤ 1000 := by have := disL_len r pts pts.length; rw [hP]; omega
    have hPn : ∀ c ∈ P, c.length < 4294967296 := fun c hc => by rw [hP] at hc; have := inside_len (disL_in r pts _ c hc); omega
    refine loop_mf (x := ((nl : List S_RoadmapEdge), (0 : Int))) (P := fun m : List (List Int) × List S_RoadmapEdge => (robotV r ≠ 0 → m = ([], [])) ∧ (robotV r = 0 → m.1 = disL r pts pts.length ∧ ∃ es, m.2 = es.take 8192 ∧ es.length ≤ m.1.length * m.1.length ∧ MapE r m.1 (JoinP r m.1 k) es))
      (fun m (y : List S_RoadmapEdge × Int) => ∃ u : Nat, y.2 = (u : Int) ∧ u + m = P.length ∧ y.1.length ≤ P.length * u ∧ MapE r P (fun a b => (a < u ∧ NearP r P k a b) ∨ (b < u ∧ NearP r P k b a)) y.1)
      (fun es : List S_RoadmapEdge => es.length ≤ P.length * P.length ∧ MapE r P (JoinP r P k) es) P.length ⟨0, rfl, by omega, by simp [nl], (MapE.nil r P).congr fun a b _ _ => by simp⟩ (by omega) ?_ ?_
    · rintro m ⟨es, y⟩ ⟨u, hu, hum, hel, hes⟩
      simp only at hu hel hes ⊢
      subst hu
      cases m with
      | zero =>
        obtain rfl : u = P.length := by omega
        rw [bif_dneg (by omega)]
        exact .inr (.inl ⟨_, rfl, hel, hes.congr fun a b h1 h2 => by unfold JoinP; constructor <;> rintro (h | h) <;> first | exact .inl h.2 | exact .inr h.2 | exact .inl ⟨by omega, h⟩ | exact .inr ⟨by omega, h⟩⟩)
      | succ m =>
        rw [bif_dpos (by omega), grd_p (by omega), Int.toNat_natCast, grd_p (by omega), wn (by omega)]
        obtain ⟨l, e1, ns, rfl, ho⟩ := byDist_e r P (P.getD u default) (u : Int) hPl hPn (hPn _ (getD_mem (by omega)))
        rw [e1]
        simp only [Option.bind_some]
        have hnl : ns.length ≤ P.length := by
          rw [ho.1.length_eq]; unfold ixs; exact Nat.le_trans (List.length_filter_le _ _) (by simp)
        suffices hi : ∃ s, _ = some s ∧ (∃ es' : List S_RoadmapEdge, s = Step3.next (es', ((u + 1 : Nat) : Int)) ∧ es'.length ≤ P.length * (u + 1) ∧ MapE r P (fun a b => (a < u + 1 ∧ NearP r P k a b) ∨ (b < u + 1 ∧ NearP r P k b a)) es') by
          obtain ⟨s, e, es', rfl, k1, k2⟩ := hi
          exact .inl ⟨_, m, e, Nat.lt_succ_self m, u + 1, rfl, by omega, k1, k2⟩
        refine loop_mf (fun m' (y : List S_RoadmapEdge × Int) => ∃ i : Nat, y.2 = (i : Int) ∧ i + m' = ns.length ∧ ((i : Int) ≤ k ∨ i = 0) ∧ y.1.length ≤ P.length * u + i ∧ MapE r P (fun a b => ((a < u ∧ NearP r P k a b) ∨ (b < u ∧ NearP r P k b a)) ∨ (a = u ∧ b ∈ ns.take i) ∨ (b = u ∧ a ∈ ns.take i)) y.1)
          (fun es' : List S_RoadmapEdge => es'.length ≤ P.length * (u + 1) ∧ MapE r P (fun a b => (a < u + 1 ∧ NearP r P k a b) ∨ (b < u + 1 ∧ NearP r P k b a)) es') ns.length ⟨0, rfl, by omega, .inr rfl, by simp only; omega, hes.congr fun a b _ _ => by simp⟩ (by omega) ?_ (fun z hz => ⟨_, rfl, z, rfl, hz⟩)
        rintro m' ⟨es2, y2⟩ ⟨i, hi, him, hik, hel2, hes2⟩
        simp only at hi hel2 hes2 ⊢
        subst hi
        have hcl : (casts ns).length = ns.length := by simp
        have hsq : P.length * u ≤ 1000 * 990 + 10000 - 1000 := by
          have h1 : P.length * u ≤ P.length * (P.length - 1) := Nat.mul_le_mul_left _ (by omega)
          have h2 : P.length * (P.length - 1) ≤ 1000 * 999 := Nat.mul_le_mul hPl (by omega)
          omega
        have stop : (i = ns.length ∨ k ≤ (i : Int)) → es2.length ≤ P.length * (u + 1) ∧ MapE r P (fun a b => (a < u + 1 ∧ NearP r P k a b) ∨ (b < u + 1 ∧ NearP r P k b a)) es2 := fun hs => by
          have key : ∀ v, v ∈ ns.take i ↔ NearP r P k u v := fun v => by
            rw [mem_take_ord ho]
            unfold NearP
            constructor
            · rintro ⟨h1, h2⟩; exact ⟨h1, by omega⟩
            · rintro ⟨h1, h2⟩
              have := cnt_lt ho h1
              exact ⟨h1, by omega⟩
          refine ⟨by rw [Nat.mul_succ]; omega, hes2.congr fun a b h1 h2 => ?_⟩
          rw [key, key]
          constructor
          · rintro ((h | h) | ⟨rfl, h⟩ | ⟨rfl, h⟩)
            · exact .inl ⟨by omega, h.2⟩
            · exact .inr ⟨by omega, h.2⟩
            · exact .inl ⟨by omega, h⟩
            · exact .inr ⟨by omega, h⟩
          · rintro (⟨h, h'⟩ | ⟨h, h'⟩)
            · by_cases e : a = u
              · subst e; exact .inr (.inl ⟨rfl, h'⟩)
              · exact .inl (.inl ⟨by omega, h'⟩)
            · by_cases e : b = u
              · subst e; exact .inr (.inr ⟨rfl, h'⟩)
              · exact .inl (.inr ⟨by omega, h'⟩)
        by_cases c1 : i < ns.length
        · by_cases c2 : (i : Int) < k
          · have hv := getD_mem c1
            have hvx := mem_ixs.1 (ho.1.mem_iff.1 hv)
            have hg := casts_get c1
            rw [bif_dpos (by omega), decide_eq_true c2, andC_out]
            simp only [cond_true]
            rw [grd_p (by omega), Int.toNat_natCast, hg, insert_e r P es2 u _ hPn (by omega) (by omega) (by omega), wn (by omega)]
            simp only [Option.bind_some]
            have hil := insF_len (newE r P (min (u : Int) ((ns.getD i default : Nat) : Int)) (max (u : Int) ((ns.getD i default : Nat) : Int))) es2
            have ht : ns.take (i + 1) = ns.take i ++ [ns.getD i default] := take_snoc c1
            refine .inl ⟨_, m' - 1, rfl, by omega, i + 1, rfl, by omega, .inl (by omega), by simp only; omega, ?_⟩
            simp only
            rw [ht]
            generalize ns.getD i default = v at *
            have hmn : min (u : Int) (v : Int) = ((min u v : Nat) : Int) := by omega
            have hmx : max (u : Int) (v : Int) = ((max u v : Nat) : Int) := by omega
            rw [hmn, hmx]
            refine (hes2.ins (x := min u v) (y := max u v) (by omega) (by omega)).congr fun a b h1 h2 => ?_
            simp only [List.mem_append, List.mem_singleton]
            constructor
            · rintro ((h | ⟨rfl, h⟩ | ⟨rfl, h⟩) | h)
              · exact .inl h
              · exact .inr (.inl ⟨rfl, .inl h⟩)
              · exact .inr (.inr ⟨rfl, .inl h⟩)
              · by_cases huv : u < v
                · exact .inr (.inl ⟨by omega, .inr (by omega)⟩)
                · exact .inr (.inr ⟨by omega, .inr (by omega)⟩)
            · rintro (h | ⟨rfl, h | h⟩ | ⟨rfl, h | h⟩)
              · exact .inl (.inl h)
              · exact .inl (.inr (.inl ⟨rfl, h⟩))
              · exact .inr (by omega)
              · exact .inl (.inr (.inr ⟨rfl, h⟩))
              · exact .inr (by omega)
          · rw [bif_dpos (by omega), decide_eq_false c2, andC_out]
            exact .inr (.inl ⟨_, rfl, stop (.inr (by omega))⟩)
        · rw [bif_dneg (by omega), andC_out]
          exact .inr (.inl ⟨_, rfl, stop (.inl (by omega))⟩)
    · rintro es ⟨hel, hes⟩
      by_cases h : ((es.length : Nat) : Int) > 8192
      · rw [bif_dpos h, grd_p (by omega), andC_out]
        exact ⟨_, rfl, fun h => absurd hr h, fun _ => ⟨hP, es, rfl, hel, hes⟩⟩
      · rw [bif_dneg h, andC_out]
        exact ⟨_, rfl, fun h => absurd hr h, fun _ => ⟨hP, es, (List.take_of_length_le (by simp only; omega)).symm, hel, hes⟩⟩
open Go.Proofs
theorem disL_nodup (r : S_Robot) (pts : List (List Int)) : ∀ j, (disL r pts j).Nodup
  | 0 => List.nodup_nil
  | j + 1 => by
    have := disL_nodup r pts j
    unfold disL
    split
    · rename_i hc
      refine List.nodup_append.2 ⟨this, by simp, fun a ha b hb => ?_⟩
      simp at hb; subst hb
      intro e; subst e; exact hc.2 ha
    · exact this
theorem nodup_take {l : List (List Int)} (h : l.Nodup) {i : Nat} (hi : i < l.length) : ¬ l.getD i default ∈ l.take i := by
  have hd : l = l.take i ++ l.getD i default :: l.drop (i + 1) := by
    conv => lhs; rw [← List.take_append_drop i l]
    rw [List.drop_eq_getElem_cons hi, List.getD_eq_getElem?_getD, List.getElem?_eq_getElem hi, Option.getD_some]
  intro hm
  rw [hd] at h
  have h1 := (List.nodup_append.1 h).2.2 _ hm _ (List.mem_cons_self ..)
  exact h1 rfl
theorem soE_get {l : List S_RoadmapEdge} (h : SoE l) {i j : Nat} (hij : i < j) (hj : j < l.length) : ltE (l.getD i default) (l.getD j default) = true := by
  have := List.pairwise_iff_getElem.1 h i j (by omega) hj hij
  simpa only [List.getD_eq_getElem?_getD, List.getElem?_eq_getElem hj, List.getElem?_eq_getElem (show i < l.length by omega), Option.getD_some] using this
theorem claim_e (k : Int) (h0 : 0 ≤ k) (h3 : k ≤ 3) : ∃ x, (make_Claim_C k).o = some x ∧ x.Kind = kindV k ∧ (k = 0 → zeroV x = true) := by
  show ∃ x, (make_Claim_T k).run NN = some x ∧ _
  simp only [make_Claim_T, T.run]
  by_cases h1 : k = 1
  · subst h1; exact ⟨_, rfl, rfl, fun h => by omega⟩
  · by_cases h2 : k = 2
    · subst h2; exact ⟨_, rfl, rfl, fun h => by omega⟩
    · by_cases h3 : k = 3
      · subst h3; exact ⟨_, rfl, rfl, fun h => by omega⟩
      · obtain rfl : k = 0 := by omega
        exact ⟨_, rfl, rfl, fun _ => rfl⟩
def MadeM (r : S_Robot) (m : S_Roadmap) : Prop := m.Points.length ≤ 7 ∧ m.Edges.length ≤ 49 ∧ (∀ c ∈ m.Points, c.length ≤ 10) ∧ (0 < m.Edges.length → 0 < m.Points.length) ∧ (robotV r = 0 → VaP r m)
theorem make_Roadmap_x (r : S_Robot) (l : List Int) (hl : l.length < 4294967296) (hr : RoB r) : ∃ m, (make_Roadmap_C r l).o = some m ∧ MadeM r m := by
  have ef : (make_From_C l).o = some (l, 0) := rfl
  show ∃ m, (make_Roadmap_T r l).run NN = some m ∧ _
  obtain ⟨s1, x1, e1, a1, b1, c1, d1⟩ := Source_Next_x (l := l) (n := 0) hl (by omega) (by omega) (k := 6) (by decide) (by decide)
  obtain ⟨s2, x2, e2, a2, b2, c2, d2⟩ := Source_Next_x (l := l) hl c1 d1 (k := 3) (by decide) (by decide)
  obtain ⟨n, hn⟩ : ∃ n : Nat, 2 + s1 = (n : Int) := ⟨(2 + s1).toNat, by omega⟩
  have hw1 : IntKind.i64.wrap (2 + s1) = (n : Int) := by rw [w64 (by omega) (by omega)]; exact hn
  have hw2 : IntKind.i64.wrap (1 + s2) = 1 + s2 := w64 (by omega) (by omega)
  obtain ⟨p, ep, lp, hp⟩ := make_Configs_x r n (by omega) l hl hr
  obtain ⟨⟨P, E⟩, em, hm1, hm2⟩ := newMap_e r p (1 + s2) (by omega) (fun c hc => by have := hp c hc; have := hr.2.1; omega)
  simp only [make_Roadmap_T, T.run, ef, e1, e2, hw1, hw2, ep, em, Option.bind_some]
  simp only at hm1 hm2
  have hE : P.length ≤ 7 ∧ E.length ≤ 49 ∧ (∀ c ∈ P, c.length ≤ 10) ∧ (0 < E.length → 0 < P.length) ∧ (robotV r = 0 → (P.Nodup ∧ ∀ c ∈ P, insideV r c = true) ∧ SoE E ∧ ∀ e ∈ E, (0 ≤ e.U ∧ e.U < e.V ∧ e.V < (P.length : Int)) ∧ e.Cost = dstV r (P.getD e.U.toNat default) (P.getD e.V.toNat default)) := by
    by_cases h0 : robotV r = 0
    · obtain ⟨h1, es, rfl, h3, h4⟩ := hm2 h0
      have hlen := disL_len r p p.length
      rw [← h1] at hlen
      have hsq : P.length * P.length ≤ 7 * 7 := Nat.mul_le_mul (by omega) (by omega)
      have htl : (es.take 8192).length ≤ es.length := by rw [List.length_take]; omega
      have hin : ∀ c ∈ P, insideV r c = true := fun c hc => disL_in r p p.length c (by rw [← h1]; exact hc)
      refine ⟨by omega, by omega, fun c hc => (inside_len (hin c hc)).2, fun h => ?_, fun _ => ⟨⟨by rw [h1]; exact disL_nodup r p _, hin⟩, h4.1.sublist (List.take_sublist _ _), fun e he => ?_⟩⟩
      · obtain ⟨e, he⟩ := List.exists_mem_of_length_pos h
        have := h4.inE e (List.mem_of_mem_take he); omega
      · obtain ⟨a, b, k1, k2, -, rfl⟩ := (h4.2 e).1 (List.mem_of_mem_take he)
        exact ⟨by simp only [newE]; omega, rfl⟩
    · have := hm1 h0
      simp only [Prod.mk.injEq] at this
      obtain ⟨rfl, rfl⟩ := this
      exact ⟨by simp, by simp, fun c hc => (by cases hc), fun h => (by simp at h), fun h => absurd h h0⟩
  obtain ⟨q1, q2, q3, q4, q5⟩ := hE
  refine loop_mf (P := fun m => MadeM r m) (fun m (y : List Int × Int × List S_RoadmapEdge × Int) => ∃ i : Nat, y.1 = l ∧ (0 ≤ y.2.1 ∧ y.2.1 ≤ (l.length : Int)) ∧ y.2.2.2 = (i : Int) ∧ i + m = E.length ∧ y.2.2.1.length = E.length ∧
      ∀ t, t < E.length → ((y.2.2.1.getD t default).U = (E.getD t default).U ∧ (y.2.2.1.getD t default).V = (E.getD t default).V ∧ (y.2.2.1.getD t default).Cost = (E.getD t default).Cost) ∧ (t < i → StV (y.2.2.1.getD t default)))
    (fun z : List S_RoadmapEdge => z.length = E.length ∧ ∀ t, t < E.length → ((z.getD t default).U = (E.getD t default).U ∧ (z.getD t default).V = (E.getD t default).V ∧ (z.getD t default).Cost = (E.getD t default).Cost) ∧ StV (z.getD t default)) E.length
    ⟨0, rfl, ⟨c2, d2⟩, rfl, by omega, rfl, fun t ht => ⟨⟨rfl, rfl, rfl⟩, fun h => by omega⟩⟩ (by omega) ?_ ?_
  · rintro m ⟨l1, ix, z, y⟩ ⟨i, h1, ⟨h2, h3⟩, h4, h5, h6, h7⟩
    simp only at h1 h2 h3 h4 h6 h7 ⊢
    subst h1; subst h4
    cases m with
    | zero => exact .inr (.inl ⟨_, by rw [bif_dneg (by omega)], h6, fun t ht => ⟨(h7 t ht).1, (h7 t ht).2 (by omega)⟩⟩)
    | succ m =>
      obtain ⟨s3, x3, e3, a3, b3, c3, d3⟩ := Source_Next_x hl h2 h3 (k := 4) (by decide) (by decide)
      obtain ⟨cl, ecl, k1, k2⟩ := claim_e s3 (by omega) (by omega)
      rw [bif_dpos (by omega), e3]
      simp only [Option.bind_some]
      have hi : i < z.length := by omega
      rw [grd_p (by omega), grd_p (by omega), Int.toNat_natCast, grd_p (by rw [List.length_set]; omega), grd_p (by rw [List.length_set]; omega), getD_set hi, if_pos rfl, ecl]
      simp only [Option.bind_some]
      rw [grd_p (by rw [List.length_set]; omega), grd_p (by rw [List.length_set]; omega), wn (by omega)]
      refine .inl ⟨_, m, rfl, Nat.lt_succ_self m, i + 1, rfl, ⟨c3, d3⟩, rfl, by omega, by simp only [List.length_set]; omega, fun t ht => ?_⟩
      simp only
      rw [getD_set (by rw [List.length_set]; omega)]
      by_cases hit : i = t
      · subst hit
        rw [if_pos rfl]
        obtain ⟨g1, g2, g3⟩ := (h7 i ht).1
        refine ⟨⟨g1, g2, g3⟩, fun _ => ⟨⟨by simp only; omega, by simp only; omega⟩, k1, k2⟩⟩
      · rw [if_neg hit, getD_set hi, if_neg hit]
        exact ⟨(h7 t ht).1, fun h => (h7 t ht).2 (by omega)⟩
  · rintro z ⟨z1, z2⟩
    refine ⟨_, rfl, q1, by simp only; omega, q3, fun h => q4 (by simp only at h; omega), fun h0 => ?_⟩
    obtain ⟨⟨w1, w2⟩, w3, w4⟩ := q5 h0
    refine ⟨h0, fun i hi => ⟨w2 _ (getD_mem hi), nodup_take w1 hi⟩, fun i hi => ?_⟩
    simp only at hi ⊢
    rw [z1] at hi
    obtain ⟨⟨g1, g2, g3⟩, g4⟩ := z2 i hi
    obtain ⟨f1, f2⟩ := w4 _ (getD_mem hi)
    refine ⟨⟨⟨endsV_iff.2 (by simp only; omega), by omega⟩, by rw [g3, g1, g2]; exact f2, g4⟩, fun h => ?_⟩
    obtain ⟨⟨u1, u2, -⟩, -⟩ := z2 (i - 1) (by omega)
    have := soE_get w3 (show i - 1 < i by omega) hi
    rw [ltE_iff] at this ⊢
    omega
theorem altered_x (m : S_Roadmap) (how at_ x : Int) (h1 : m.Points.length ≤ 30) (h2 : m.Edges.length ≤ 60) (h3 : ∀ c ∈ m.Points, c.length < 4294967296) (h4 : 0 < m.Edges.length → 0 < m.Points.length) :
    ∃ m', (law25_altered_C m how at_ x).o = some m' ∧ m'.Points.length = m.Points.length ∧ m'.Edges.length ≤ 61 ∧ ∀ c ∈ m'.Points, c.length < 4294967296 := by
  show ∃ m', (law25_altered_T m how at_ x).run NN = some m' ∧ _
  simp only [law25_altered_T, T.run]
  rw [grd_p (by rw [maxLen_eq]; omega), grd_p (by rw [maxLen_eq]; omega)]
  by_cases h0 : m.Edges.length = 0
  · rw [bif_eq (by omega)]
    exact ⟨_, rfl, rfl, by omega, h3⟩
  · have hp := h4 (by omega)
    rw [bif_ne (by omega), make_Round_e (x := at_) (k := (m.Edges.length : Int)) (by omega) (by omega), make_Round_e (x := how) (k := 8) (by decide) (by decide)]
    simp only [Option.bind_some]
    obtain ⟨i, hi, hil⟩ : ∃ i : Nat, at_ % (m.Edges.length : Int) = (i : Int) ∧ i < m.Edges.length := ⟨(at_ % (m.Edges.length : Int)).toNat, by have := Int.emod_nonneg at_ (show (m.Edges.length : Int) ≠ 0 by omega); omega, by have := Int.emod_lt_of_pos at_ (show 0 < (m.Edges.length : Int) by omega); omega⟩
    rw [hi]
    generalize how % 8 = w
    have fin1 : ∀ e, ∃ m' : S_Roadmap, some (⟨m.Points, m.Edges.set i e⟩ : S_Roadmap) = some m' ∧ m'.Points.length = m.Points.length ∧ m'.Edges.length ≤ 61 ∧ ∀ c ∈ m'.Points, c.length < 4294967296 := fun e => ⟨_, rfl, rfl, by simp only [List.length_set]; omega, h3⟩
    by_cases c0 : w = 0
    · rw [bif_eq c0, grd_p (by omega), grd_p (by omega), make_Round_e (by decide) (by decide)]
      simp only [Option.bind_some]
      rw [grd_p (by omega), grd_p (by omega), andC_out, Int.toNat_natCast]; exact fin1 _
    rw [bif_ne c0]
    by_cases c1 : w = 1
    · rw [bif_eq c1, grd_p (by omega), grd_p (by omega), make_Round_e (by decide) (by decide)]
      simp only [Option.bind_some]
      rw [grd_p (by omega), grd_p (by omega), andC_out, Int.toNat_natCast]; exact fin1 _
    rw [bif_ne c1]
    by_cases c2 : w = 2
    · rw [bif_eq c2, grd_p (by omega), grd_p (by omega), make_Round_e (by decide) (by decide)]
      simp only [Option.bind_some]
      rw [grd_p (by omega), grd_p (by omega), andC_out, Int.toNat_natCast]; exact fin1 _
    rw [bif_ne c2]
    by_cases c3 : w = 3
    · rw [bif_eq c3, make_Round_e (by decide) (by decide)]
      simp only [Option.bind_some]
      rw [grd_p (by omega), grd_p (by omega), andC_out, Int.toNat_natCast]; exact fin1 _
    rw [bif_ne c3]
    by_cases c4 : w = 4
    · obtain ⟨cl, ecl⟩ := make_Claim_x (x % 4)
      rw [bif_eq c4, make_Round_e (by decide) (by decide)]
      simp only [Option.bind_some, ecl]
      rw [grd_p (by omega), grd_p (by omega), andC_out, Int.toNat_natCast]; exact fin1 _
    rw [bif_ne c4]
    by_cases c5 : w = 5
    · rw [bif_eq c5, make_Round_e (by omega) (by omega)]
      simp only [Option.bind_some]
      obtain ⟨k, hk, hkl⟩ : ∃ k : Nat, x % (m.Edges.length : Int) = (k : Int) ∧ k < m.Edges.length := ⟨(x % (m.Edges.length : Int)).toNat, by have := Int.emod_nonneg x (show (m.Edges.length : Int) ≠ 0 by omega); omega, by have := Int.emod_lt_of_pos x (show 0 < (m.Edges.length : Int) by omega); omega⟩
      rw [hk, grd_p (by omega), grd_p (by omega), grd_p (by omega), grd_p (by omega), grd_p (by omega), grd_p (by omega), grd_p (by rw [List.length_set]; omega), grd_p (by rw [List.length_set]; omega), andC_out]
      exact ⟨_, rfl, rfl, by simp only [List.length_set]; omega, h3⟩
    rw [bif_ne c5]
    by_cases c6 : w = 6
    · rw [bif_eq c6, make_Round_e (by omega) (by omega), make_Round_e (by omega) (by omega)]
      simp only [Option.bind_some]
      obtain ⟨k, hk, hkl⟩ : ∃ k : Nat, x % (m.Points.length : Int) = (k : Int) ∧ k < m.Points.length := ⟨(x % (m.Points.length : Int)).toNat, by have := Int.emod_nonneg x (show (m.Points.length : Int) ≠ 0 by omega); omega, by have := Int.emod_lt_of_pos x (show 0 < (m.Points.length : Int) by omega); omega⟩
      obtain ⟨j, hj, hjl⟩ : ∃ j : Nat, at_ % (m.Points.length : Int) = (j : Int) ∧ j < m.Points.length := ⟨(at_ % (m.Points.length : Int)).toNat, by have := Int.emod_nonneg at_ (show (m.Points.length : Int) ≠ 0 by omega); omega, by have := Int.emod_lt_of_pos at_ (show 0 < (m.Points.length : Int) by omega); omega⟩
      rw [hk, hj, grd_p (by omega), grd_p (by omega), grd_p (by omega), grd_p (by omega), andC_out]
      refine ⟨_, rfl, by simp only [List.length_set], by simp only; omega, fun c hc => ?_⟩
      simp only at hc
      rcases List.mem_or_eq_of_mem_set hc with hc | rfl
      · exact h3 c hc
      · exact h3 _ (getD_mem (by omega))
    rw [bif_ne c6, grd_p (by omega), grd_p (by omega), grd_p (by simp only [List.length_cons, List.length_nil, maxLen_eq]; omega), andC_out]
    exact ⟨_, rfl, rfl, by simp; omega, h3⟩
open Go.Proofs
theorem smallMap_e (m : S_Roadmap) : (make_SmallMap_C m).o = some (decide (m.Points.length ≤ 30 ∧ m.Edges.length ≤ 60)) := by
  show (make_SmallMap_T m).run NN = _
  simp only [make_SmallMap_T, T.run, bif_some, bif_bf]
  congr 1
  rw [Bool.eq_iff_iff]
  simp only [Bool.and_eq_true, decide_eq_true_eq]
  omega
theorem valid_both (r : S_Robot) (m : S_Roadmap) (hm : PtB m) : ∃ b, (roadmap_Valid_C r m).o = some b ∧ (ref23_ValidMap_C r m).o = some b := by
  obtain ⟨b, b1, b2⟩ := valid_e r m hm
  obtain ⟨c, c1, c2⟩ := refValid_e r m hm
  have : b = c := Bool.eq_iff_iff.2 (b2.trans c2.symm)
  exact ⟨b, b1, by rw [this]; exact c1⟩
theorem roadmapValid_true (raw : S_Robot) (m : S_Roadmap) (l k : List Int) (how at_ x : Int) (hl : l.length < 4294967296) (hk : k.length < 4294967296) (hp : ∀ c ∈ m.Points, c.length < 4294967296) : (law25_RoadmapValid_C raw m l k how at_ x).o = some true := by
  show (law25_RoadmapValid_T raw m l k how at_ x).run NN = _
  have em : ∀ m : S_Roadmap, (⟨m.Points, m.Edges⟩ : S_Roadmap) = m := fun _ => rfl
  have er : ∀ r : S_Robot, (⟨r.Joints, r.Masses⟩ : S_Robot) = r := fun _ => rfl
  simp only [law25_RoadmapValid_T, T.run, em, er, smallMap_e, awake25, Option.bind_some]
  by_cases h : m.Points.length ≤ 30 ∧ m.Edges.length ≤ 60
  · rw [decide_eq_true h]
    simp only [Bool.not_true, cond_false, andC_out]
    cases hj : decide (((raw.Joints.length : Nat) : Int) > 12) with
    | true => rfl
    | false =>
      obtain ⟨r, e1, hr⟩ := make_Robot_x l hl
      obtain ⟨a, e2, a1, a2, a3, a4, -⟩ := make_Roadmap_x r k hk hr
      have ha : ∀ c ∈ a.Points, c.length < 4294967296 := fun c hc => by have := a3 c hc; omega
      obtain ⟨b, e3, b1, b2, b3⟩ := altered_x a how at_ x (by omega) (by omega) ha a4
      obtain ⟨v1, p1, q1⟩ := valid_both raw m ⟨by omega, by omega, hp⟩
      obtain ⟨v2, p2, q2⟩ := valid_both r m ⟨by omega, by omega, hp⟩
      obtain ⟨v3, p3, q3⟩ := valid_both r a ⟨by omega, by omega, ha⟩
      obtain ⟨v4, p4, q4⟩ := valid_both r b ⟨by omega, by omega, b3⟩
      obtain ⟨v5, p5, q5⟩ := valid_both raw a ⟨by omega, by omega, ha⟩
      simp only [cond_false, cond_true, e1, e2, e3, p1, q1, p2, q2, p3, q3, p4, q4, p5, q5, Option.bind_some, beq_self_eq_true]
  · rw [decide_eq_false h]; rfl
end Go.Abs
