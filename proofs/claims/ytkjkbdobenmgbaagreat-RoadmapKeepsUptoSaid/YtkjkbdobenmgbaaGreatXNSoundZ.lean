/-
  SoundZ (a part of a claim: our own text).
-/
import Derived.Test.YtkjkbdobenmgbaaGreatXNSoundY
import Derived.Laws.CopyRow
namespace Go.Abs
variable {P : Program} {o : Oper} {env : Operand → AVal} {m : Mem} {id : Nat}
theorem Gzh {t : TypeId} {x : Operand} {lo hi mx : Option Operand} {out : Out} (ho : o.op = .slice t x lo hi mx)
    (h : wzp P t (env x) (lo.map env) (hi.map env) (mx.map env) = some out) : Sound1 P o env m id out := by
  unfold wzp at h
  split at h
  · rename_i i hx hlo hhi hmx
    simp only [Option.map_eq_none_iff] at hlo hhi hmx
    subst hlo; subst hhi; subst hmx
    split at h
    · rename_i n e hu
      split at h
      · rename_i hs
        cases h
        refine Sound1.still fun F w ρ Mine M a _ _ ha => ?_
        have ax := ha x (by simp [ho, Op.operands])
        rw [hx] at ax
        generalize hv : a.eval x = v at ax
        cases ax with
        | ptr =>
          refine ⟨.slice (some ⟨ρ.blk i, 0, none⟩) n n, .value ?_, .bsl⟩
          simp only [execOp, ho, Instr.sliceAt, Instr.sliceBounds, Instr.sureAddr, Sem.run_bind, run_underlying hu, Result.andThen_ok, hv, Option.map_none, dz1 hs, Sem.run_pure, Nat.sub_zero, Nat.zero_mul, gzb, Nat.add_zero, ite_self]
      · cases h
    · cases h
  · cases h
theorem rz7 {k : Nat} {f : Nat → PVal} : ∀ {cs cs' : List AVal} {j0 : Nat}, ozm k f j0 cs = some cs' → cs'.length = cs.length ∧
    ∀ j, j < cs.length → ∃ kd a b, cs[j]? = some (.pure (.int kd b)) ∧ f (j0 + j) = .int kd a ∧ cs'[j]? = some (.pure (.int kd (if j0 + j < k then a else b)))
  | [], cs', j0, h => by
    simp only [ozm] at h; cases h
    exact ⟨rfl, fun j hj => by simp at hj⟩
  | c :: l, cs', j0, h => by
    unfold ozm at h
    split at h
    · rename_i h1; cases h1
    · rename_i kd b l' h1
      cases h1
      split at h
      · rename_i kd' a r hf hr
        split at h
        · rename_i hk; subst hk
          cases h
          obtain ⟨i1, i2⟩ := rz7 hr
          refine ⟨by simp [i1], fun j hj => ?_⟩
          cases j with
          | zero => exact ⟨kd', a, b, rfl, hf, rfl⟩
          | succ j =>
            obtain ⟨kd2, a2, b2, q1, q2, q3⟩ := i2 j (by simpa using hj)
            exact ⟨kd2, a2, b2, by simpa using q1, by rw [show ∀ q : Nat, q + (j + 1) = q + 1 + j from fun q => by omega]; exact q2, by rw [show ∀ q : Nat, q + (j + 1) = q + 1 + j from fun q => by omega]; simpa using q3⟩
        · cases h
      · cases h
    · cases h
theorem Izs {d s : Operand} {ts : Array TypeId} {out : Out} (ho : o.op = .call { callee := .builtin .copy, args := #[d, s], argTypes := ts }) (hts : ts.size = 2)
    (h : zzw P ts (env d) (env s) m = some out) : Sound1 P o env m id out := by
  have hop : d ∈ o.op.operands ∧ s ∈ o.op.operands := by simp [ho, Op.operands, Call.operands]
  unfold zzw at h
  split at h
  · rename_i i n k f t hd hs ht
    split at h
    · rename_i cs e hi hu
      split at h
      · rename_i cs' hcc
        split at h
        · rename_i hc
          simp only [Bool.and_eq_true, decide_eq_true_eq] at hc
          obtain ⟨hn, hsz⟩ := hc
          cases h
          obtain ⟨c1, c2⟩ := rz7 hcc
          obtain ⟨t2, rfl⟩ : ∃ t2, ts = #[t, t2] := by
            refine ⟨ts[1]'(by omega), Array.ext (by simpa using hts) fun q hq _ => ?_⟩
            have hq2 : q < 2 := by omega
            match q, hq2 with
            | 0, _ => simpa [Array.getElem?_eq_getElem (show 0 < ts.size by omega)] using ht
            | 1, _ => simp
          intro F w ρ Mine M a hm g fr hrd hfe ha
          have hM := (hrd i (by simp)).trans hi
          obtain ⟨c, e', hb, hl, hnF, hrel⟩ := wzc hm hM
          have hmine := hm.mine i _ _ hM (.inl rfl)
          have ad := ha d hop.1
          have as := ha s hop.2
          rw [hd] at ad
          rw [hs] at as
          have as := as.pure_inv
          obtain ⟨inf, hinf, hisz⟩ := gzp hsz
          have hs1 : (P.info? e).map (·.size) = some 1 := by rw [hinf]; simp [hisz]
          obtain ⟨vs, hvl, hv1, hvr, hrun⟩ : ∃ vs : List Value, vs.length = Nat.min k n ∧ (∀ v ∈ vs, v.oneCell' = true) ∧ (∀ j kd x, j < Nat.min k n → f j = .int kd x → vs[j]? = some (.int kd x)) ∧
              (Builtin.copy_ #[t, t2] o.type #[a.eval d, a.eval s]).run P w = .ok (goInt vs.length) (w.setRow (ρ.blk i) (c.toList.take 0 ++ vs ++ c.toList.drop (0 + vs.length)).toArray) := by
            generalize hv : a.eval d = v at ad
            cases ad with
            | bsl =>
              rcases as.lst_inv with ⟨hv2, hn0⟩ | ⟨adr, cap, hv2, hn0, hcm⟩ | ⟨b, off, cap, cc, hv2, hnc, hcm, hsz', hcl, hr⟩
              · subst hn0
                refine ⟨[], by simp [Nat.min_def], by simp, fun j kd x hj => by simp [Nat.min_def] at hj, ?_⟩
                rw [hv2, run_copy_nil P w t t2 o.type e _ n n hu (by rw [hs1]; rfl)]
                have : (c.toList.take 0 ++ ([] : List Value) ++ c.toList.drop (0 + ([] : List Value).length)).toArray = c := by simp
                rw [this, setRow_self w _ c e' (0, 0) hb]; rfl
              · subst hn0
                have hz : Nat.min 0 n = 0 := by simp [Nat.min_def]
                refine ⟨[], by rw [hz]; rfl, by simp, fun j kd x hj => by rw [hz] at hj; omega, ?_⟩
                rw [hv2]
                exact run_copy_row (P := P) w t t2 o.type e (ρ.blk i) 0 n n adr 0 cap c e' [] hu hs1 hb (by rw [hz]; rfl) (fun j v h => by simp at h) (by simp) (by simp)
              · have hmin : Nat.min k n ≤ k := Nat.min_le_left _ _
                have hmin2 : Nat.min k n ≤ n := Nat.min_le_right _ _
                have cell : ∀ j, j < Nat.min k n → ∃ kd x, f j = .int kd x ∧ w.cell? ⟨b, off + j, none⟩ = some (.int kd x) := by
                  intro j hj
                  obtain ⟨kd, x, b', q1, q2, q3⟩ := c2 j (by omega)
                  rw [Nat.zero_add] at q2
                  have hp : (f j).cells[0]? = some (f j) := by rw [q2]; rfl
                  have h1 := (hcl j 0 _ (by omega) hp).2.1
                  have h2 := hr j 0 _ (by omega) hp
                  rw [q2] at h2
                  have h3 := h2.int_inv
                  simp only [Nat.mul_one, Nat.add_zero] at h1 h3
                  exact ⟨kd, x, q2, by rw [h1, h3]⟩
                refine ⟨(List.range (Nat.min k n)).map cc, by simp, ?_, ?_, ?_⟩
                · intro v hv
                  obtain ⟨j, hj, rfl⟩ := List.mem_map.1 hv
                  have hj := List.mem_range.1 hj
                  obtain ⟨kd, x, b', q1, q2, q3⟩ := c2 j (by omega)
                  rw [Nat.zero_add] at q2
                  have hp : (f j).cells[0]? = some (f j) := by rw [q2]; rfl
                  have := (hcl j 0 _ (by omega) hp).2.2
                  simpa using this
                · intro j kd x hj hf
                  have hp : (f j).cells[0]? = some (f j) := by rw [hf]; rfl
                  have h2 := hr j 0 _ (by omega) hp
                  rw [hf] at h2
                  have h3 := h2.int_inv
                  simp only [Nat.mul_one, Nat.add_zero] at h3
                  simp [hj, h3]
                · rw [hv2]
                  refine run_copy_row (P := P) w t t2 o.type e (ρ.blk i) 0 n n ⟨b, off, none⟩ k cap c e' _ hu hs1 hb (by simp) (fun j v h => ?_) (by simp; omega) ?_
                  · obtain ⟨hj, rfl⟩ : j < Nat.min k n ∧ v = cc j := by
                      rw [List.getElem?_map] at h
                      by_cases hj : j < Nat.min k n
                      · simp [hj] at h; exact ⟨hj, h.symm⟩
                      · simp [hj] at h
                    obtain ⟨kd, x, b', q1, q2, q3⟩ := c2 j (by omega)
                    rw [Nat.zero_add] at q2
                    have hp : (f j).cells[0]? = some (f j) := by rw [q2]; rfl
                    have h1 := (hcl j 0 _ (by omega) hp).2.1
                    simp only [Nat.mul_one, Nat.add_zero] at h1
                    rw [gzb]; exact h1
                  · intro v hv
                    obtain ⟨j, hj, rfl⟩ := List.mem_map.1 hv
                    have hj := List.mem_range.1 hj
                    obtain ⟨kd, x, b', q1, q2, q3⟩ := c2 j (by omega)
                    rw [Nat.zero_add] at q2
                    have hp : (f j).cells[0]? = some (f j) := by rw [q2]; rfl
                    have := (hcl j 0 _ (by omega) hp).2.2
                    simpa using this
          have hvn : vs.length ≤ c.toList.length := by
            have : Nat.min k n ≤ n := Nat.min_le_right k n
            simp; omega
          have hran : Ran P o a w (goInt vs.length) (w.setRow (ρ.blk i) (c.toList.take 0 ++ vs ++ c.toList.drop (0 + vs.length)).toArray) := by
            refine .value ?_
            simp only [execOp, ho, resolve, Sem.run_bind, Sem.run_pure, Result.andThen_ok, invoke, builtin, List.map_toArray, List.map_cons, List.map_nil, hrun]
          have st : Step Mine F w F (w.setRow (ρ.blk i) (c.toList.take 0 ++ vs ++ c.toList.drop (0 + vs.length)).toArray) :=
            Step.write g hb hmine.1 (fun o h => absurd h (hnF o))
          refine ⟨_, _, F, ρ, hran, st, fun _ _ => ⟨rfl, rfl⟩, by rw [hvl]; exact .pure .int, ?_⟩
          refine MemOk.step hm st (fun _ => True) (fun _ _ => ⟨rfl, rfl⟩) [(i, _)] (fun j r h hn => ⟨trivial, fun k hk => absurd trivial hk, fun b hbj => ⟨?_, fun _ h => h⟩⟩) (fun j r h => ?_) (fun j j' r r' b h h' _ _ => ?_)
          · refine setRow_other w _ b _ (fun e => ?_)
            subst e
            have := hm.disj i j _ r _ hM h (.inl rfl) hbj
            subst this
            simp [Mem.get] at hn
          · simp only [Mem.get] at h
            split at h
            · rename_i e1; subst e1; cases h
              refine ⟨⟨_, e', setRow_heap w _ c _ e' _ hb, by simp at hvn ⊢; omega, hnF, fun j b v hb' hv => ?_⟩, fun b hbb => ⟨?_, ?_, fun k r' hk hn hbk => ?_⟩⟩
              · have hjl : j < cs.length := by rw [← c1]; exact (List.getElem?_eq_some_iff.1 hb').1
                obtain ⟨kd, x, y, q1, q2, q3⟩ := c2 j hjl
                rw [q3] at hb'
                cases hb'
                rw [List.getElem?_toArray, lzz _ _ _ _ (by omega)] at hv
                simp only [Nat.zero_add] at q2 hv ⊢
                by_cases hjk : j < vs.length
                · rw [if_pos (by omega), Nat.sub_zero] at hv
                  have hjk' : j < k := by have : Nat.min k n ≤ k := Nat.min_le_left k n; omega
                  rw [hvr j kd x (by omega) q2] at hv
                  cases hv
                  rw [if_pos hjk']
                  exact ⟨.pure .int, rfl⟩
                · rw [if_neg (by omega)] at hv
                  have hjk' : ¬ j < k := fun hh => hjk (by rw [hvl]; exact Nat.lt_min.2 ⟨hh, by omega⟩)
                  rw [if_neg hjk']
                  have := hrel j _ v q1 (by simpa using hv)
                  have st' := st
                  simp only [Nat.zero_add] at st'
                  exact ⟨this.1.mono' st'.sub st'.cell, this.2⟩
              · cases hbb.resolve_right (fun h => h); exact hmine.1
              · cases hbb.resolve_right (fun h => h); simpa using hmine.2
              · cases hbb.resolve_right (fun h => h)
                have := hm.disj i k _ r' _ hM hk (.inl rfl) hbk
                subst this
                simp [Mem.get] at hn
            · cases h
          · simp only [Mem.get] at h h'
            split at h
            · split at h'
              · rename_i e1 e2; exact e1.symm.trans e2
              · cases h'
            · cases h
        · cases h
      · cases h
    · cases h
  · cases h
theorem Kzk {x : Operand} {ts : Array TypeId} {out : Out} (ho : o.op = .call { callee := .builtin .len, args := #[x], argTypes := ts }) (h : Czv P ts (env x) = some out) : Sound1 P o env m id out := by
  have hop : x ∈ o.op.operands := by simp [ho, Op.operands, Call.operands]
  unfold Czv at h
  split at h
  · rename_i i sz lo n t hx ht
    split at h
    · rename_i e hu
      cases h
      refine Sound1.still fun F w ρ Mine M a _ _ ha => ⟨.int .i64 n, rz1 ho ?_, .pure .int⟩
      have h1 := hx ▸ ha x hop
      generalize a.eval x = u at h1 ⊢
      cases h1 with
      | view => simp [Builtin.len_, ht, run_underlying hu, goInt]
      | viewN hh hn => subst hn; simp [Builtin.len_, ht, run_underlying hu, goInt]
    · cases h
  · cases h
theorem zza {t : TypeId} {x i : Operand} {out : Out} (ho : o.op = .indexAddr t x i) (h : ozs P t (env x) (env i) = some out) (hob : holds out.obl) : Sound1 P o env m id out := by
  unfold ozs at h
  split at h
  · rename_i k sz lo n ik iv hx hi
    split at h
    · rename_i e hu
      split at h
      · rename_i hs
        cases h
        obtain ⟨h0, hn⟩ := hob
        refine Sound1.still fun F w ρ Mine M a _ _ ha => ?_
        have hiv : a.eval i = .int ik iv := (hi ▸ ha i (by simp [ho, Op.operands])).pure_inv.int_inv
        have h1 := ha x (by simp [ho, Op.operands])
        rw [hx] at h1
        generalize hu' : a.eval x = u at h1
        cases h1 with
        | viewN hh hn' => omega
        | @view _ _ _ _ b n0 cap ad hh hle had =>
          have had := had (.inl (by omega))
          subst had
          refine ⟨.pointer (some ⟨b, (lo + iv.toNat) * sz + 0, none⟩), .value ?_, .eptr hh⟩
          simp only [execOp, ho, Instr.indexAt, Sem.run_bind, hiv, hu', asIntOf, Sem.run_pure, Result.andThen_ok, run_underlying hu]
          simp [h0, hn, dz1 hs, gzb, Nat.add_mul]
      · cases h
    · cases h
  · cases h
theorem Ezg {t : TypeId} {x : Operand} {lo hi mx : Option Operand} {out : Out} (ho : o.op = .slice t x lo hi mx)
    (h : uz6 P t (env x) (lo.map env) (hi.map env) (mx.map env) m = some out) (hob : holds out.obl) : Sound1 P o env m id out := by
  unfold uz6 at h
  split at h
  · rename_i k sz of n hmx hx
    have hmx' : mx = none := by simpa using hmx
    subst hmx'
    have hop : x ∈ o.op.operands := by simp [ho, Op.operands]
    have hlo : ∀ y, lo = some y → y ∈ o.op.operands := fun y hy => by simp [ho, Op.operands, hy]
    have hhi : ∀ y, hi = some y → y ∈ o.op.operands := fun y hy => by simp [ho, Op.operands, hy]
    split at h
    · rename_i e sz2 n2 f2 k2 e2 l hh hu hmo hl hh'
      split at h
      · rename_i hs
        cases h
        obtain ⟨h0, h1, h2⟩ := hob
        refine Sound1.still fun F w ρ Mine M a hm hrd ha => ?_
        have hb1 := kzk (F := F) (w := w) (ρ := ρ) (a := a) hl (fun y hy => ha y (hlo y hy))
        have hb2 := kzk (F := F) (w := w) (ρ := ρ) (a := a) hh' (fun y hy => ha y (hhi y hy))
        have hb1' : (lo.map a.eval = none ∧ l = 0) ∨ ∃ k, lo.map a.eval = some (.int k l) := hb1.imp (fun h => ⟨by simp [h.1], by simpa using h.2⟩) (fun h => h)
        have hb2' : (hi.map a.eval = none ∧ hh = n) ∨ ∃ k, hi.map a.eval = some (.int k hh) := hb2.imp (fun h => ⟨by simp [h.1], h.2⟩) (fun h => h)
        have hM := (hrd k (by simp)).trans hmo
        obtain ⟨_, hok⟩ := hm.ok k _ hM
        have hx1 := hx ▸ ha x hop
        generalize hv : a.eval x = u at hx1
        cases hx1 with
        | viewN hnone hn0 =>
          subst hn0
          obtain rfl : l = 0 := by omega
          obtain rfl : hh = 0 := by omega
          refine ⟨.slice none 0 0, .value ?_, .viewN hnone (by simp)⟩
          have hbb := izb (P := P) (w := w) (isS := true) (len := 0) (cap := 0) (lo := lo.map a.eval) (hi := hi.map a.eval) hb1' (by simpa using hb2') (Int.le_refl _) (Int.le_refl _) (by omega)
          simp only [execOp, ho, Instr.sliceAt, Instr.slice, Sem.run_bind, run_underlying hu, Result.andThen_ok, hv, hbb, Option.map_none, dz1 hs, Sem.run_pure]
          simp
        | @view _ _ _ _ b n0 cap ad q1 hle had =>
          rcases hok with ⟨hnone, hn0⟩ | ⟨b', cap', c, q1', q2, q3, q4, q5, q6, q7, q8⟩
          · rw [q1] at hnone; cases hnone
          · rw [q1] at q1'
            cases q1'
            have hbb := izb (P := P) (w := w) (isS := true) (len := n) (cap := cap - of) (lo := lo.map a.eval) (hi := hi.map a.eval) hb1' hb2' h0 h1 (by omega)
            have hrun : ∀ ad', (if cap - of = l.toNat then some ad else (some ad).map (·.add (l.toNat * sz))) = some ad' → Ran P o a w (.slice (some ad') (hh.toNat - l.toNat) (cap - (of + l.toNat))) w := by
              intro ad' had'
              refine .value ?_
              rw [← Nat.sub_sub]
              simp only [execOp, ho, Instr.sliceAt, Instr.slice, Sem.run_bind, run_underlying hu, Result.andThen_ok, hv, hbb, Option.map_none, dz1 hs, Sem.run_pure, had']
            by_cases hcl : cap - of = l.toNat
            · refine ⟨_, hrun ad (by rw [if_pos hcl]), .view q1 (by omega) (fun h => ?_)⟩
              rcases h with h | h
              · omega
              · have := had (.inr (by omega))
                rw [this, show of = 0 by omega, show l.toNat = 0 by omega]
            · by_cases hlt : of + l.toNat < n2 ∨ of + l.toNat = 0
              · have hh3 := had (by omega)
                subst hh3
                exact ⟨_, hrun _ (by rw [if_neg hcl, Option.map_some, gzb]), .view q1 (by omega) (fun _ => by rw [Nat.add_mul])⟩
              · exact ⟨_, hrun (ad.add (l.toNat * sz)) (by rw [if_neg hcl, Option.map_some]), .view q1 (by omega) (fun h => absurd h hlt)⟩
      · cases h
    · cases h
  · cases h
end Go.Abs
