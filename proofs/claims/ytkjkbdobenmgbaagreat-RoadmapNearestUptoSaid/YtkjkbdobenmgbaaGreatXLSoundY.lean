/-
  SoundY (a part of a claim: our own text).
-/
import Derived.Test.YtkjkbdobenmgbaaGreatXLSoundX
namespace Go.Abs
variable {P : Program} {o : Oper} {env : Operand → AVal} {m : Mem} {id : Nat}
theorem run_bounds3 {w : World} {len cap : Nat} {h : Int} {k k' : IntKind} (h0 : 0 ≤ h) (h2 : h ≤ cap) :
    (Instr.sliceBounds true len cap none (some (.int k h)) (some (.int k' h))).run P w = .ok (0, h.toNat, h.toNat) w := by
  have h4 : h ≤ (h.toNat : Int) := by omega
  simp only [Instr.sliceBounds, Instr.sliceBound, asIntOf, Sem.run_bind, Sem.run_pure, Result.andThen_ok, h0, h2, h4, and_self, if_true]
theorem slice_clip {t : TypeId} {x hi mx : Operand} {e : TypeId} {sz n : Nat} {f : Nat → PVal} {h : Int} {k k' : IntKind} (ho : o.op = .slice t x none (some hi) (some mx)) (hu : P.underlying t = some (.slice e)) (hs : tySize P e = some sz)
    {F : Cells} {w : World} {ρ : Env} {a : Act} (hx : PRel F w (.lst sz n f) (a.eval x)) (hhi : a.eval hi = .int k h) (hmx : a.eval mx = .int k' h) (h0 : 0 ≤ h) (h2 : h ≤ n) :
    ∃ v, Ran P o a w v w ∧ ARel F w ρ (.clip (.lst sz h.toNat f)) v := by
  rcases hx.lst_inv with ⟨hv, hn0⟩ | ⟨ad, cap, hv, hn0, hcm⟩ | ⟨b, off, cap, c, hv, hnc, hcm, hsz, hc, hr⟩
  · subst hn0
    obtain rfl : h = 0 := by omega
    have hbb := run_bounds3 (P := P) (w := w) (len := 0) (cap := 0) (k := k) (k' := k') (Int.le_refl 0) (Int.le_refl 0)
    refine ⟨.slice none 0 0, .value ?_, .clip .nil⟩
    simp only [execOp, ho, Instr.sliceAt, Instr.slice, Sem.run_bind, run_underlying hu, Result.andThen_ok, hv, Option.map_none, Option.map_some, hhi, hmx, hbb, run_size hs, Sem.run_pure]
    simp
  · subst hn0
    obtain rfl : h = 0 := by omega
    have hbb := run_bounds3 (P := P) (w := w) (len := 0) (cap := cap) (k := k) (k' := k') (Int.le_refl 0) (by omega)
    refine ⟨.slice (some ad) 0 0, .value ?_, .clip (.emp (Nat.zero_le _))⟩
    simp only [execOp, ho, Instr.sliceAt, Instr.slice, Sem.run_bind, run_underlying hu, Result.andThen_ok, hv, Option.map_none, Option.map_some, hhi, hmx, hbb, run_size hs, Sem.run_pure]
    simp
  · have hbb := run_bounds3 (P := P) (w := w) (len := n) (cap := cap) (k := k) (k' := k') h0 (by omega)
    refine ⟨.slice (some ⟨b, off, none⟩) h.toNat h.toNat, .value ?_, .clip (.sl c (Nat.le_refl _) (by omega) (fun i hi => hsz i (by omega)) (fun i j p hi hp => hc i j p (by omega) hp) (fun i j p hi hp => hr i j p (by omega) hp))⟩
    have had : (if h.toNat = 0 then some (⟨b, off, none⟩ : Addr) else (some (⟨b, off, none⟩ : Addr)).map (·.add (0 * sz))) = some ⟨b, off, none⟩ := by
      split
      · rfl
      · rw [Option.map_some, add_lit]; simp
    simp only [execOp, ho, Instr.sliceAt, Instr.slice, Sem.run_bind, run_underlying hu, Result.andThen_ok, hv, Option.map_none, Option.map_some, hhi, hmx, hbb, run_size hs, Sem.run_pure, Nat.sub_zero]
    simp only [Option.map_some] at had
    rw [had]
theorem append_full {F : Cells} {w : World} {ρ : Env} {Mine : Nat → Prop} {M : Mem} (hm : MemOk F w ρ Mine M) (g : Good F w Mine) (fr : Fresh id M) {t ty e : TypeId} {i : TypeInfo} {z : Value} {sz by_ k n : Nat} {f h : Nat → PVal}
    (ht : P.underlying t = some (.slice e)) (hi : P.info? e = some i) (hz : i.zero = some z) (hsz : i.size = sz) (hby : i.bytes = by_) (hzs : z.cells.size = sz)
    (A : Addr) (olds : List Value) (hlo : olds.length = n * sz) (holds : ∀ (j : Nat) (u : Value), olds[j]? = some u → w.cell? (A.add j) = some u)
    (q7 : ∀ i, i < n → (f i).cells.length = sz) (q8 : ∀ (i j : Nat) (p : PVal), i < n → (f i).cells[j]? = some p → ∃ u, olds[i * sz + j]? = some u ∧ u.oneCell' = true ∧ PRel F w p u)
    (xv : Value) (news : List Value) (hsrc : SrcOk F w sz k h xv news) (hb : (n + k) * by_ ≤ 140737488355328) (hk : n + k ≤ maxLen) (hk0 : 0 < k) :
    ∃ v w' F' ρ', (Builtin.append_ #[t, t] ty #[.slice (some A) n n, xv]).run P w = .ok v w' ∧ Step Mine F w F' w' ∧ EnvStep id ρ ρ' ∧ ARel F' w' ρ' (.vec id) v ∧
      MemOk F' w' ρ' Mine ([(id, .vec sz (n + k) (appF n f h) 0 e)] ++ M) := by
  obtain ⟨hl, hx, hone, hg, hel⟩ := hsrc
  rcases hx with ⟨rfl, h0⟩ | ⟨ad, cx, rfl, hcells⟩
  · omega
  · have hmax : n + k ≤ 9223372036854775807 := by simpa [maxLen] using hk
    have hr := run_append_grow (P := P) w t ty e i z ht hi hz A n n olds (by rw [hsz]; exact hlo) holds ad k cx news (by rw [hsz]; exact hl) hcells (by omega) (by omega) (growslice_fits (by omega) (by rw [hby]; exact hb))
    have hge := grownCap_ge w (n + k) n e
    have hcm := grownCap_le_maxLen w (n + k) n e hk
    have st : Step Mine F w F (w.drew.alloc (.cells (olds.toArray ++ news.toArray ++ Builtin.zeroCells z.cells (grownCap w (n + k) n e - (n + k))) e)) := by
      have s1 := Step.draw g
      have s2 := Step.alloc (s1.good g) (.cells (olds.toArray ++ news.toArray ++ Builtin.zeroCells z.cells (grownCap w (n + k) n e - (n + k))) e) (fun _ => False)
      have s3 := s1.trans s2
      exact ⟨fun _ _ h => h, s3.cell, fun _ _ h => .inl h, fun b o h => by have := g.lt b o h; simp; omega, s3.keep⟩
    have hres := newRow_res (id := id) (ρ := ρ) g (n := n) (k := k) (f := f) (h := h) (olds := olds) (news := news) (z := z) (e := e) (cap := grownCap w (n + k) n e) 0 (Nat.zero_le _) hzs hlo hl hge hcm q7 hg q8
      (fun i j p hi hp => by obtain ⟨u, u1, u2⟩ := hel i j p hi hp; exact ⟨u, u1, hone u (List.mem_of_getElem? u1), u2⟩)
    have hv : (ρ.setVec id (some (w.heap.size, n + k, grownCap w (n + k) n e))).vec id = some (w.heap.size, n + k, grownCap w (n + k) n e) := if_pos rfl
    have hmem := hm.newVec fr st (some (w.heap.size, n + k, grownCap w (n + k) n e)) [] sz (n + k) 0 (appF n f h) e hres (fun b' hb' => by
      simp at hb'; subst hb'
      exact ⟨g.mine _ (Nat.le_refl _), by simp, fun q r' hq _ hbq => absurd (hm.mine q r' _ hq hbq).2 (by omega)⟩) (fun j r b' hj _ hbj => ⟨heap_alloc_old w.drew _ (hm.mine j r b' hj hbj).2, fun _ h => h⟩)
    exact ⟨_, _, F, ρ.setVec id (some (w.heap.size, n + k, grownCap w (n + k) n e)), hr, st, envStep_setVec ρ id _, .vec hv, by simpa using hmem⟩
theorem append_clip {F : Cells} {w : World} {ρ : Env} {Mine : Nat → Prop} {M : Mem} (hm : MemOk F w ρ Mine M) (g : Good F w Mine) (fr : Fresh id M) {t ty e : TypeId} {i : TypeInfo} {z : Value} {sz by_ k n : Nat} {f h : Nat → PVal}
    (ht : P.underlying t = some (.slice e)) (hi : P.info? e = some i) (hz : i.zero = some z) (hsz : i.size = sz) (hby : i.bytes = by_) (hzs : z.cells.size = sz) (hs0 : 0 < sz)
    {sv : Value} (hsv : ARel F w ρ (.clip (.lst sz n f)) sv)
    (xv : Value) (news : List Value) (hsrc : SrcOk F w sz k h xv news) (hb : (n + k) * by_ ≤ 140737488355328) (hk : n + k ≤ maxLen) (hk0 : 0 < k) :
    ∃ v w' F' ρ', (Builtin.append_ #[t, t] ty #[sv, xv]).run P w = .ok v w' ∧ Step Mine F w F' w' ∧ EnvStep id ρ ρ' ∧ ARel F' w' ρ' (.vec id) v ∧
      MemOk F' w' ρ' Mine ([(id, .vec sz (n + k) (appF n f h) 0 e)] ++ M) := by
  cases hsv with
  | @clip _ a n' hp =>
    rcases hp.lst_inv with ⟨hv, hn0⟩ | ⟨ad, cap, hv, hn0, hcm⟩ | ⟨b, off, cap, c, hv, hnc, hcm, hsz', hc, hr⟩
    · subst hn0
      rw [hv]
      have happ : appF 0 f h = h := by funext i; simp [appF]
      simp only [Nat.zero_add, happ] at hb hk ⊢
      simpa using append_nil (P := P) (ty := ty) hm g fr ht hi hz hsz hby hzs [] xv news hsrc hb hk
    · subst hn0
      rw [hv]
      simp only [Value.slice.injEq] at hv
      obtain ⟨-, h1, h2⟩ := hv
      obtain rfl : cap = 0 := by omega
      exact append_full hm g fr ht hi hz hsz hby hzs ad [] (by simp) (by simp) (fun i hi => by omega) (fun i j p hi hp => by omega) xv news hsrc hb hk hk0
    · rw [hv]
      simp only [Value.slice.injEq] at hv
      obtain ⟨-, h1, h2⟩ := hv
      obtain rfl : cap = n := by omega
      have hget : ∀ q, ((List.range (cap * sz)).map c)[q]? = if q < cap * sz then some (c q) else none := by
        intro q
        by_cases h : q < cap * sz
        · simp [h]
        · simp [h]
      refine append_full hm g fr ht hi hz hsz hby hzs ⟨b, off, none⟩ ((List.range (cap * sz)).map c) (by simp) (fun j u hu => ?_) hsz' (fun i j p hi hp => ?_) xv news hsrc hb hk hk0
      · rw [hget] at hu
        split at hu
        · rename_i hlt
          cases hu
          have hi' : j / sz < cap := Nat.div_lt_of_lt_mul (by rw [Nat.mul_comm]; exact hlt)
          have hj' : j % sz < sz := Nat.mod_lt _ hs0
          have hp' : (f (j / sz)).cells[j % sz]? = some ((f (j / sz)).cells[j % sz]'(by rw [hsz' _ hi']; exact hj')) := by simp [hsz' _ hi', hj']
          have h3 := (hc _ _ _ hi' hp').2.1
          rw [show j / sz * sz + j % sz = j by rw [Nat.mul_comm]; exact Nat.div_add_mod j sz] at h3
          rw [add_lit]; exact h3
        · cases hu
      · have hj : j < sz := by have := (List.getElem?_eq_some_iff.1 hp).1; rw [hsz' i hi] at this; exact this
        exact ⟨_, by rw [hget, if_pos (elem_lt hi hj)], (hc i j p hi hp).2.2, hr i j p hi hp⟩
theorem s_sliceC {t : TypeId} {x : Operand} {lo hi mx : Option Operand} {out : Out} (ho : o.op = .slice t x lo hi mx)
    (h : evSliceC P t (env x) (lo.map env) (hi.map env) (mx.map env) = some out) (hob : holds out.obl) : Sound1 P o env m id out := by
  unfold evSliceC at h
  split at h
  · rename_i sz n f k1 hh k2 h' hx hlo hhi hmx
    split at h
    · rename_i e hu
      split at h
      · rename_i hs
        cases h
        obtain ⟨h0, h1, rfl⟩ := hob
        simp only [Option.map_eq_none_iff] at hlo
        subst hlo
        rw [Option.map_eq_some_iff] at hhi hmx
        obtain ⟨y, rfl, hy⟩ := hhi
        obtain ⟨y', rfl, hy'⟩ := hmx
        refine Sound1.still fun F w ρ Mine M a hm hrd ha => ?_
        have ax := ha x (by simp [ho, Op.operands])
        have ay := ha y (by simp [ho, Op.operands])
        have ay' := ha y' (by simp [ho, Op.operands])
        rw [hx] at ax
        rw [hy] at ay
        rw [hy'] at ay'
        exact slice_clip ho hu hs ax.pure_inv ay.pure_inv.int_inv ay'.pure_inv.int_inv h0 h1
      · cases h
    · cases h
  · cases h
theorem s_appendC {s x : Operand} {ts : Array TypeId} {out : Out} (ho : o.op = .call { callee := .builtin .append, args := #[s, x], argTypes := ts })
    (hts : ∀ t, ts[0]? = some t → ts[1]? = some t → ts = #[t, t]) (h : evAppendC P ts id (env s) (env x) m = some out) (hob : holds out.obl) : Sound1 P o env m id out := by
  have hop : s ∈ o.op.operands ∧ x ∈ o.op.operands := by simp [ho, Op.operands, Call.operands]
  unfold evAppendC at h
  split at h
  · rename_i szc n f t t' hsv ht0 ht1
    split at h
    · rename_i htt; subst htt
      obtain rfl := hts t ht0 ht1
      split at h
      · rename_i e hu
        split at h
        · rename_i sz by_ z hs hby hz
          split at h
          · rename_i hc
            simp only [Bool.and_eq_true, decide_eq_true_eq] at hc
            obtain ⟨hzl, rfl⟩ := hc
            obtain ⟨i, zv, hi, hzv, hzz⟩ := tyZero_info hz
            obtain ⟨i', hi', hsz⟩ := tySize_info hs
            rw [hi] at hi'; cases hi'
            obtain ⟨i', hi', hbb⟩ := tyBytes_info hby
            rw [hi] at hi'; cases hi'
            have hzs : zv.cells.size = sz + 1 := by rw [← hzl, ← hzz]; simp
            split at h
            · rename_i k gg is hsrc
              cases h
              obtain ⟨hb, hk, hk0⟩ := hob
              intro F w ρ Mine M a hm g fr hrd hfe ha
              obtain ⟨news, hsr⟩ := srcOf_ok hm (Nat.succ_pos _) hsrc hrd (ha x hop.2)
              have hsv' := ha _ hop.1
              rw [hsv] at hsv'
              obtain ⟨v, w', F', ρ', h1, h2, h3, h4, h5⟩ := append_clip (P := P) (ty := o.type) hm g fr hu hi hzv hsz hbb hzs (Nat.succ_pos _) hsv' (a.eval x) news hsr hb hk hk0
              exact ⟨v, w', F', ρ', run_app ho h1, h2, h3, h4, h5⟩
            · cases h
          · cases h
        · cases h
      · cases h
    · cases h
  · cases h
end Go.Abs
