/-
  Soundness of make, min and max; every operation.
-/
import Derived.Test.YtjbncekcklkjaaaSoundP
namespace Go.Abs
variable {P : Program} {o : Oper} {env : Operand → AVal} {m : Mem} {id : Nat}

theorem wrap64 {n : Int} (h0 : -9223372036854775808 ≤ n) (h1 : n ≤ 9223372036854775807) : IntKind.i64.wrap n = n := by
  simp only [IntKind.wrap, IntKind.bits, IntKind.signed, Bool.true_and, ge_iff_le, decide_eq_true_eq]
  split <;> omega

theorem makeSlice_core {F : Cells} {w : World} {ρ : Env} {Mine : Nat → Prop} {M : Mem} (hm : MemOk F w ρ Mine M) (g : Good F w Mine) (fr : Fresh id M) {t e : TypeId} {sz by_ : Nat} {z : List Value} {ps : List PVal} {p : PVal} {l c : Int}
    (hu : P.underlying t = some (.slice e)) (hs : tySize P e = some sz) (hby : tyBytes P e = some by_) (hz : tyZero P e = some z) (hzl : z.length = sz) (hps : allP (z.map constCell) = some ps) (hsc : ps.all (·.scalar) = true)
    (hpc : p.cells = ps) (h0 : 0 ≤ l) (h1 : l ≤ c) (h2 : c ≤ 9223372036854775807) (h3 : c * by_ ≤ 140737488355328) :
    ∃ v w' F' ρ', (Instr.makeSlice t (.int .i64 l) (.int .i64 c)).run P w = .ok v w' ∧ Step Mine F w F' w' ∧ EnvStep id ρ ρ' ∧ ARel F' w' ρ' (.vec id) v ∧ MemOk F' w' ρ' Mine ([(id, .vec sz l.toNat (fun _ => p) 0 e)] ++ M) := by
  obtain ⟨i, zv, hi, hzv, hzz⟩ := tyZero_info hz
  obtain ⟨i', hi', hsz⟩ := tySize_info hs
  rw [hi] at hi'; cases hi'
  obtain ⟨i', hi', hbb⟩ := tyBytes_info hby
  rw [hi] at hi'; cases hi'
  have hzs : zv.cells.size = sz := by rw [← hzl, ← hzz]; simp
  have hwl := wrap64 (n := l) (by omega) (by omega)
  have hwc := wrap64 (n := c) (by omega) (by omega)
  have hbc : ¬ (281474976710656 < (by_ : Int) * c) := by rw [Int.mul_comm]; omega
  obtain ⟨A, hA⟩ : ∃ A : Array Value, A = (Array.range (c.toNat * sz)).map (fun x => zv.cells[x % zv.cells.size]!) := ⟨_, rfl⟩
  have hrun : (Instr.makeSlice t (.int .i64 l) (.int .i64 c)).run P w = .ok (.slice (some ⟨w.heap.size, 0, none⟩) l.toNat c.toNat) (w.alloc (.cells A e)) := by
    have hnl : ¬ l < 0 := by omega
    have hcl : ¬ l > c := by omega
    have hc0 : ¬ c < 0 := by omega
    have hb48 : ¬ (by_ : Int) * c > 2 ^ 48 := by simpa using hbc
    simp only [Instr.makeSlice, Sem.run_bind, run_underlying hu, Result.andThen_ok, asInt, asIntOf, Sem.run_pure, typeInfo, run_program, hi, hwl, hwc, hbb, run_size hs,
      hc0, hnl, hcl, hb48, decide_false, Bool.or_false, Bool.false_eq_true, if_false, run_askRoom]
    by_cases hn : c.toNat * sz = 0
    · rw [if_pos hn]
      have hA0 : A = #[] := by rw [hA]; simp [hn]
      have e0 : (Array.range 0 : Array Nat) = #[] := by decide
      simp only [hn, newRow, Sem.run_bind, run_newObj, Sem.run_pure, Result.andThen_ok, hA0, e0, List.map_toArray, List.map_nil]
      rfl
    · rw [if_neg hn]
      simp [newRow, zeroValue, typeInfo, hi, hzv, hA]
  have hsize : A.size = c.toNat * sz := by rw [hA]; simp
  have hel : ∀ (q j : Nat) (x : PVal), q < c.toNat → ps[j]? = some x → ∃ v, A[q * sz + j]? = some v ∧ v.oneCell' = true ∧ PRel F (w.alloc (.cells A e)) x v := by
    intro q j x hq hx
    obtain ⟨hl1, hl2⟩ := allP_get hps
    have hj : j < sz := by have := (List.getElem?_eq_some_iff.1 hx).1; simp at hl1; omega
    obtain ⟨aa, ha1, ha2⟩ := hl2 j x hx
    simp only [List.getElem?_map, Option.map_eq_some_iff] at ha1
    obtain ⟨v, hv, rfl⟩ := ha1
    have hr := (constCell_rel (F := F) (w := w.alloc (.cells A e)) (ρ := ρ) v).toP ha2
    refine ⟨v, ?_, hr.one (List.all_eq_true.1 hsc x (List.mem_of_getElem? hx)), hr⟩
    have hlt := elem_lt hq hj
    have hmod : (q * sz + j) % sz = j := by rw [Nat.mul_comm, Nat.mul_add_mod]; exact Nat.mod_eq_of_lt hj
    have hzj : zv.cells[j]? = some v := by rw [← hzz] at hv; simpa using hv
    rw [hA]
    rw [Array.getElem?_map, Array.getElem?_range]
    simp only [hlt, if_true, Option.map_some, hzs, hmod]
    simp [getElem!_def, hzj]
  have st : Step Mine F w F (w.alloc (.cells A e)) := by
    have s := Step.alloc g (.cells A e) (fun _ => False)
    exact ⟨fun _ _ h => h, s.cell, fun _ _ h => .inl h, fun b o h => by have := g.lt b o h; simp; omega, s.keep⟩
  have hv : (ρ.setVec id (some (w.heap.size, l.toNat, c.toNat))).vec id = some (w.heap.size, l.toNat, c.toNat) := if_pos rfl
  have hpl : ps.length = sz := by have := (allP_get hps).1; simp at this; omega
  have hmem := hm.newVec fr st (some (w.heap.size, l.toNat, c.toNat)) [] sz l.toNat 0 (fun _ => p) e
    ⟨Nat.zero_le _, .inr ⟨w.heap.size, c.toNat, A, hv, heap_alloc_new w _, by omega, by simp only [maxLen]; omega, hsize, fun o hF => absurd (g.lt _ _ hF) (by omega), fun _ _ => by rw [hpc]; exact hpl, fun q j x hq hx => hel q j x (by omega) (by rw [← hpc]; exact hx)⟩⟩
    (fun b hb => by
      simp at hb; subst hb
      exact ⟨g.mine _ (Nat.le_refl _), by simp, fun q r' hq _ hbq => absurd (hm.mine q r' _ hq hbq).2 (by omega)⟩)
    (fun j r b hj _ hbj => ⟨heap_alloc_old w _ (hm.mine j r b hj hbj).2, fun _ h => h⟩)
  exact ⟨_, _, F, _, hrun, st, envStep_setVec ρ id _, .vec hv, by simpa using hmem⟩

theorem s_makeSlice {t : TypeId} {x y : Operand} {out : Out} (ho : o.op = .makeSlice t x y) (h : evMakeSlice P t id (env x) (env y) = some out) (hob : holds out.obl) : Sound1 P o env m id out := by
  unfold evMakeSlice at h
  split at h
  · rename_i l c hx hy
    split at h
    · rename_i e hu
      split at h
      · rename_i sz by_ z hs hby hz
        split at h
        · rename_i hzl
          split at h
          · rename_i ps hps
            split at h
            · rename_i hsc
              have fin : ∀ (p : PVal), p.cells = ps → (0 ≤ l ∧ l ≤ c ∧ c ≤ 9223372036854775807 ∧ c * by_ ≤ 140737488355328) →
                  Sound1 P o env m id ⟨.vec id, [], [(id, .vec (sz + 1) l.toNat (fun _ => p) 0 e)], some (0 ≤ l ∧ l ≤ c ∧ c ≤ 9223372036854775807 ∧ c * by_ ≤ 140737488355328)⟩ := by
                intro p hp hb F w ρ Mine M a hm g fr _ _ ha
                obtain ⟨v, w', F', ρ', h1, h2, h3, h4, h5⟩ := makeSlice_core (P := P) hm g fr hu hs hby hz hzl hps hsc hp hb.1 hb.2.1 hb.2.2.1 hb.2.2.2
                have e1 := (hx ▸ ha x (by simp [ho, Op.operands])).pure_inv.int_inv
                have e2 := (hy ▸ ha y (by simp [ho, Op.operands])).pure_inv.int_inv
                exact ⟨v, w', F', ρ', .value (by simp only [execOp, ho, Sem.run_bind, e1, e2, h1, Result.andThen_ok, Sem.run_pure]), h2, h3, h4, h5⟩
              split at h
              · cases h; exact fin (.agg ps) rfl hob
              · split at h
                · rename_i p
                  cases h
                  exact fin p (PVal.cells_scalar (by simpa using hsc)) hob
                · cases h
              · cases h
            · cases h
          · cases h
        · cases h
      · cases h
    · cases h
  · cases h

theorem s_minmax {b : Builtin} {mx : Bool} {xs : Array Operand} {ts : Array TypeId} {p : PVal} (hb : b = if mx then .max else .min) (ho : o.op = .call { callee := .builtin b, args := xs, argTypes := ts })
    (h : evMinMax mx (xs.toList.map env) = some p) : Sound1 P o env m id (.v (.pure p)) := by
  unfold evMinMax at h
  split at h
  · rename_i k a' k' b' hl
    split at h
    · rename_i hk; subst hk
      cases h
      refine Sound1.still fun F w ρ Mine M a _ _ ha => ?_
      obtain ⟨x, y, hxs, hx, hy⟩ : ∃ x y, xs.toList = [x, y] ∧ env x = .pure (.int k a') ∧ env y = .pure (.int k b') := by
        cases hh : xs.toList with
        | nil => rw [hh] at hl; simp at hl
        | cons x l =>
          cases l with
          | nil => rw [hh] at hl; simp at hl
          | cons y l =>
            cases l with
            | nil => rw [hh] at hl; simp at hl; exact ⟨x, y, rfl, hl.1, hl.2⟩
            | cons _ _ => rw [hh] at hl; simp at hl
      have hxs' : xs = #[x, y] := by rw [← Array.toArray_toList (xs := xs), hxs]
      subst hxs'
      have e1 := (hx ▸ ha x (by simp [ho, Op.operands, Call.operands])).pure_inv.int_inv
      have e2 := (hy ▸ ha y (by simp [ho, Op.operands, Call.operands])).pure_inv.int_inv
      refine ⟨.int k (if mx then max a' b' else min a' b'), .value ?_, .pure .int⟩
      cases mx
      · subst hb
        simp only [execOp, ho, resolve, Sem.run_bind, Sem.run_pure, Result.andThen_ok, invoke, builtin, List.map_toArray, List.map_cons, List.map_nil, e1, e2, Builtin.min_, List.foldlM_cons, List.foldlM_nil, Builtin.min2, Bool.false_eq_true, if_false]
        rw [show (if b' < a' then b' else a') = min a' b' by omega]
      · subst hb
        simp only [execOp, ho, resolve, Sem.run_bind, Sem.run_pure, Result.andThen_ok, invoke, builtin, List.map_toArray, List.map_cons, List.map_nil, e1, e2, Builtin.max_, List.foldlM_cons, List.foldlM_nil, Builtin.max2, if_true]
        rw [show (if b' > a' then b' else a') = max a' b' by omega]
    · cases h
  · cases h

theorem evOp_sound {out : Out} (h : evOp P o.op id env m = some out) (hob : holds out.obl) : Sound1 P o env m id out := by
  generalize hop : o.op = op at h
  cases op <;> simp only [evOp] at h
  all_goals try (cases h; done)
  case move x => cases h; exact s_move hop
  case assign x =>
    split at h
    · rename_i hn
      have : x = .const (.slice none 0 0) := by
        unfold isNil at hn
        split at hn
        · rfl
        · cases hn
      subst this
      cases h; exact s_nil hop
    · cases h; exact s_assign hop
  case pick c x y =>
    split at h
    · rename_i hc; cases h; exact s_pick (b := true) hop hc
    · rename_i hc; cases h; exact s_pick (b := false) hop hc
    · cases h
  case alloc t =>
    split at h
    · rename_i z hz
      split at h
      · rename_i hc
        simp only [Bool.and_eq_true, decide_eq_true_eq] at hc
        cases h; exact s_alloc hop hz hc.1 hc.2
      · cases h
    · cases h
  case box t x =>
    split at h
    · rename_i hc; cases h; exact s_box hop hc
    · cases h
  case build t ps => exact s_build hop h
  case buildSlice t n ps => exact s_buildSlice hop h
  case load t a => exact s_load hop h hob
  case store t a v => exact s_store hop h hob
  case nilCheck x =>
    split at h <;> rename_i hx <;> first | (cases h; rw [← hx]; exact s_nilCheck hop (by rw [hx]; trivial)) | (cases h)
  case binOp op t x y t' =>
    split at h
    · rename_i p q hp hq
      split at h
      · rename_i r ob hr; cases h; exact s_bin hop hp hq hr hob
      · cases h
    · cases h
  case unOp op t x =>
    split at h
    · rename_i hx
      split at h
      · cases h; exact s_unB (b := true) hop hx
      · cases h
    · rename_i hx
      split at h
      · cases h; exact s_unB (b := false) hop hx
      · cases h
    · rename_i p hx
      split at h
      · rename_i r hr; cases h; exact s_un hop hx hr
      · cases h
    · cases h
  case convert s d x =>
    split at h
    · rename_i p hp
      split at h
      · rename_i r hr
        split at h
        · rename_i hs; cases h; exact s_conv hop hs hp hr
        · cases h
      · cases h
    · cases h
  case makeFunc fn a b =>
    split at h
    · cases h; exact s_makeFunc hop
    · cases h
  case makeSlice t l c => exact s_makeSlice hop h hob
  case makeMap t r =>
    split at h
    · exact s_makeMap hop h
    · cases h
  case lookup t x ix ok => exact s_lookup hop h hob
  case mapUpdate t x k v => exact s_mapUpdate (.inl hop) h
  case insert t x k v => exact s_mapUpdate (.inr hop) h
  case slice t x lo hi mx => exact s_slice hop h hob
  case fieldAddr s x f => exact s_field hop h
  case field s x f => exact s_fieldV hop h
  case indexAddr t x i => exact s_indexAddr hop h hob
  case index t x i => exact s_index hop h hob
  case extract x i =>
    split at h
    · rename_i cs hx
      split at h
      · rename_i v hv; cases h; exact s_extract hop hx hv
      · cases h
    · cases h
  case call c =>
    split at h
    · rename_i b hb
      obtain ⟨callee, args, ts⟩ := c
      simp only at hb h
      subst hb
      unfold evBuiltin at h
      split at h
      · split at h
        · rename_i x hx
          have : args = #[x] := by rw [← Array.toArray_toList (xs := args), hx]
          subst this
          exact s_len hop h
        · cases h
      · split at h
        · rename_i s x hx
          have : args = #[s, x] := by rw [← Array.toArray_toList (xs := args), hx]
          subst this
          split at h
          · rename_i hsz
            refine s_append hop (fun t h0 h1 => ?_) h hob
            refine Array.ext (by simpa using hsz) fun i hi _ => ?_
            have hi2 : i < 2 := by omega
            match i, hi2 with
            | 0, _ => simpa [Array.getElem?_eq_getElem (show 0 < ts.size by omega)] using h0
            | 1, _ => simpa [Array.getElem?_eq_getElem (show 1 < ts.size by omega)] using h1
          · cases h
        · cases h
      · split at h
        · rename_i p hp; cases h; exact s_minmax (mx := false) rfl hop hp
        · cases h
      · split at h
        · rename_i p hp; cases h; exact s_minmax (mx := true) rfl hop hp
        · cases h
      · cases h
    · cases h
end Go.Abs
