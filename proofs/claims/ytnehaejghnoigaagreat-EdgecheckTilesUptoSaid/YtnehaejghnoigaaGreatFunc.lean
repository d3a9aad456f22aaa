/-
  Functions: from the verification condition of the body to the specification.
-/
import Derived.Test.YtnehaejghnoigaaGreatCode
namespace Go.Abs

def isPureA : AVal → Bool
  | .pure _ => true
  | _ => false

/-- Results as they are handed back: as pure data where that is what is promised. -/
def handBack (m : Mem) : List AVal → List AVal → List AVal × List Nat
  | a :: l, r :: rs => match (if isPureA r then purify m a else none) with
    | some (p, is) => (.pure p :: (handBack m l rs).1, is ++ (handBack m l rs).2)
    | none => (a :: (handBack m l rs).1, (handBack m l rs).2)
  | l, _ => (l, [])

def retVals (P : Program) (s : St) : List ResultVar → Option (List AVal)
  | [] => some []
  | .tmp t :: l => match retVals P s l with
    | some vs => some (s.get t :: vs)
    | none => none
  | .cell t ty :: l => match s.get t with
    | .ptr i o => match evLoad P ty (.ptr i o) s.mem, retVals P s l with
      | some out, some vs => some (out.val :: vs)
      | _, _ => none
    | _ => none

def resList : AVal → List AVal
  | .tup cs => cs
  | a => [a]

/-- A deferred function that does nothing where there is no panic. -/
structure GuardFn (P : Program) (g : FuncId) : Prop where
  callable : Callable P g
  calls : ∀ args w, CallsD P g args .returning w fun e u w' => (∃ v, e = .returned v) ∧ u = .returning ∧ w' = w

def GuardAll (P : Program) : List AVal → Prop
  | [] => True
  | .func g _ _ :: l => GuardFn P g ∧ GuardAll P l
  | _ :: _ => False

def matchRes (n0 : Nat) (s : St) (acts rs : List AVal) (m' : Mem) : List (Nat × Nat) :=
  let σ := matchL n0 rs acts
  σ ++ matchMem n0 s σ m'

mutual
def AVal.inIds (n0 k : Nat) : AVal → Bool
  | .agg cs | .tup cs => AVal.inL n0 k cs
  | .iface _ a => AVal.inIds n0 k a
  | .vec i | .ptr i _ | .eptr i _ _ _ | .map i | .bsl i _ | .view i _ _ _ => decide (i < n0) || (decide (k ≤ i) && decide (i < k + 64))
  | .func _ a b => AVal.inL n0 k a && AVal.inL n0 k b
  | .any | .pure _ | .tt | .ff | .ref _ | .anyb => true
def AVal.inL (n0 k : Nat) : List AVal → Bool
  | [] => true
  | a :: l => AVal.inIds n0 k a && AVal.inL n0 k l
end

def Res.inIds (n0 k : Nat) : Res → Bool
  | .box cs => AVal.inL n0 k cs
  | .vecX _ _ _ _ _ _ i => decide (i < n0) || (decide (k ≤ i) && decide (i < k + 64))
  | _ => true

def memIn (n0 k : Nat) : Mem → Bool
  | [] => true
  | (i, r) :: m => (decide (i < n0) || (decide (k ≤ i) && decide (i < k + 64))) && Res.inIds n0 k r && memIn n0 k m

def isTup : AVal → Bool
  | .tup _ => true
  | _ => false

def retOk (P : Program) (n0 k : Nat) (results : List ResultVar) (res : AVal) (m' : Mem) (s : St) : Prop :=
  match retVals P s results with
  | none => False
  | some vs =>
    let hb := handBack s.mem vs (resList res)
    let τ := idOf n0 (matchRes n0 s hb.1 (resList res) m')
    if injB τ m' && memIn n0 k m' && AVal.inL n0 k (resList res) && ((results.length == 1) != isTup res) then
      ASubs hb.1 (AVal.renL τ (resList res)) ∧ MSub (shareOf s.mem hb.2 ++ s.mem) (Mem.ren τ m') ∧ GuardAll P s.df
    else False

def argsFr : Nat → List AVal → List (Nat × AVal)
  | _, [] => []
  | i, a :: l => (i, a) :: argsFr (i + 1) l

def vcFunc (P : Program) (drawOk : List Oper → List Eff → Bool) (fn : Func) (body : Code) (n0 k : Nat) (sc : Scr) (args : List AVal) (m : Mem) (res : AVal) (m' : Mem) : Prop :=
  if decide (args.length ≤ fn.ntmps) && St.ok ⟨argsFr 0 args, m, [], n0⟩ then
    vc P fn.ntmps n0 drawOk body 0 sc ⟨argsFr 0 args, m, [], n0⟩ fun e _ s => match e with
      | .exit _ => False
      | _ => retOk P n0 k fn.results.toList res m' s
  else False

/-! ### Soundness -/
theorem argsFr_get : ∀ (l : List AVal) (i t : Nat), frGet (argsFr i l) t = if i ≤ t then (l[t - i]?).getD .any else .any
  | [], i, t => by simp [argsFr, frGet]
  | a :: l, i, t => by
    simp only [argsFr, frGet]
    by_cases h : i = t
    · subst h; simp
    · rw [if_neg h, argsFr_get l (i + 1) t]
      by_cases h2 : i ≤ t
      · rw [if_pos h2, if_pos (by omega), show t - i = (t - (i + 1)) + 1 by omega]
        simp
      · rw [if_neg h2, if_neg (by omega)]

mutual
theorem in_has {n0 k i : Nat} (hi : ¬ (i < n0 ∨ Own k i)) : ∀ {a : AVal}, a.inIds n0 k = true → a.has i = false
  | .agg cs, h => by simp only [AVal.inIds] at h; simp only [AVal.has]; exact inL_has hi h
  | .tup cs, h => by simp only [AVal.inIds] at h; simp only [AVal.has]; exact inL_has hi h
  | .vec j, h => by
    simp [AVal.inIds] at h; simp [AVal.has]
    exact fun e => hi (by subst e; exact h)
  | .ptr j _, h => by
    simp [AVal.inIds] at h; simp [AVal.has]
    exact fun e => hi (by subst e; exact h)
  | .eptr j _ _ _, h => by
    simp [AVal.inIds] at h; simp [AVal.has]
    exact fun e => hi (by subst e; exact h)
  | .map j, h => by
    simp [AVal.inIds] at h; simp [AVal.has]
    exact fun e => hi (by subst e; exact h)
  | .bsl j _, h => by
    simp [AVal.inIds] at h; simp [AVal.has]
    exact fun e => hi (by subst e; exact h)
  | .view j _ _ _, h => by
    simp [AVal.inIds] at h; simp [AVal.has]
    exact fun e => hi (by subst e; exact h)
  | .iface _ a, h => by simp only [AVal.inIds] at h; simp only [AVal.has]; exact in_has hi h
  | .func _ a b, h => by
    simp only [AVal.inIds, Bool.and_eq_true] at h
    simp only [AVal.has, inL_has hi h.1, inL_has hi h.2, Bool.or_self]
  | .any, _ => rfl
  | .pure _, _ => rfl
  | .tt, _ => rfl
  | .ff, _ => rfl
  | .ref _, _ => rfl
  | .anyb, _ => rfl
theorem inL_has {n0 k i : Nat} (hi : ¬ (i < n0 ∨ Own k i)) : ∀ {l : List AVal}, AVal.inL n0 k l = true → AVal.hasL i l = false
  | [], _ => rfl
  | a :: l, h => by
    simp only [AVal.inL, Bool.and_eq_true] at h
    simp only [AVal.hasL, in_has hi h.1, inL_has hi h.2, Bool.or_self]
end

theorem memIn_get {n0 k : Nat} : ∀ {m : Mem}, memIn n0 k m = true → ∀ {i : Nat} {r : Res}, m.get i = some r → (i < n0 ∨ Own k i) ∧ r.inIds n0 k = true
  | [], _, i, r, h => by simp [Mem.get] at h
  | (j, q) :: m, hm, i, r, h => by
    simp only [memIn, Bool.and_eq_true, Bool.or_eq_true, decide_eq_true_eq] at hm
    simp only [Mem.get] at h
    split at h
    · rename_i e; subst e; cases h; exact ⟨hm.1.1, hm.1.2⟩
    · exact memIn_get hm.2 h

variable {P : Program}

theorem handBack_rel {F : Cells} {w : World} {ρ : Env} {Mine : Nat → Prop} {m : Mem} (hm : MemOk F w ρ Mine m) (g : Good F w Mine) {js : List Nat} : ∀ {l rs : List AVal} {vs : List Value}, l.length = vs.length →
    (∀ (j : Nat) (a : AVal) (v : Value), l[j]? = some a → vs[j]? = some v → ARel F w ρ a v) → (∀ i ∈ (handBack m l rs).2, i ∈ js) →
    (handBack m l rs).1.length = vs.length ∧ ∀ (j : Nat) (a : AVal) (v : Value), (handBack m l rs).1[j]? = some a → vs[j]? = some v → ARel (sharedF F w ρ m js) w ρ a v
  | [], rs, vs, hl, _, _ => by
    have e : handBack m [] rs = ([], []) := by cases rs <;> rfl
    rw [e]; exact ⟨hl, by simp⟩
  | a :: l, [], vs, hl, hr, _ => by
    simp only [handBack]
    exact ⟨hl, fun j b v hb hv => (hr j b v hb hv).mono' (fun b o h => .inl h) (fun _ _ _ => rfl)⟩
  | a :: l, r :: rs, [], hl, _, _ => by simp at hl
  | a :: l, r :: rs, v :: vs, hl, hr, hsub => by
    have hl' : l.length = vs.length := by simpa using hl
    have hr' : ∀ (j : Nat) (a : AVal) (v : Value), l[j]? = some a → vs[j]? = some v → ARel F w ρ a v := fun j a v ha hv => hr (j + 1) a v (by simpa using ha) (by simpa using hv)
    have h0 := hr 0 a v (by simp) (by simp)
    simp only [handBack] at hsub ⊢
    split
    · rename_i p is hp
      rw [hp] at hsub
      simp only [List.mem_append] at hsub
      have hp' : purify m a = some (p, is) := by split at hp <;> first | exact hp | cases hp
      obtain ⟨h1, h2⟩ := handBack_rel hm g (rs := rs) hl' hr' (fun i hi => hsub i (.inr hi))
      refine ⟨by simp [h1], fun j b u hb hu => ?_⟩
      cases j with
      | zero =>
        simp at hb hu; subst hb; subst hu
        exact .pure (purify_rel hm g hp' (fun i hi => hsub i (.inl hi)) (fun i hi => rfl) h0)
      | succ j => exact h2 j b u (by simpa using hb) (by simpa using hu)
    · rename_i hp
      rw [hp] at hsub
      obtain ⟨h1, h2⟩ := handBack_rel hm g (rs := rs) hl' hr' hsub
      refine ⟨by simp [h1], fun j b u hb hu => ?_⟩
      cases j with
      | zero => simp at hb hu; subst hb; subst hu; exact h0.mono' (fun b o h => .inl h) (fun _ _ _ => rfl)
      | succ j => exact h2 j b u (by simpa using hb) (by simpa using hu)

/-- What a result's variable holds. -/
def resSem (tmps : Array Value) : ResultVar → Sem Value
  | .tmp t => pure (tmps.getD t undef)
  | .cell x t => do loadVar t (← asAddr (tmps.getD x undef))

theorem results_eq (fn : Func) (tmps : Array Value) : results fn tmps = (do
    let vs ← fn.results.mapM (resSem tmps)
    pure (if h : vs.size = 1 then vs[0] else .tuple vs)) := rfl

theorem inL_get {n0 k : Nat} : ∀ {l : List AVal} {j : Nat} {r : AVal}, AVal.inL n0 k l = true → l[j]? = some r → r.inIds n0 k = true
  | [], j, r, _, h => by simp at h
  | x :: l, 0, r, h, h2 => by simp only [AVal.inL, Bool.and_eq_true] at h; simp at h2; subst h2; exact h.1
  | x :: l, j + 1, r, h, h2 => by
    simp only [AVal.inL, Bool.and_eq_true] at h
    exact inL_get (l := l) (j := j) h.2 (by simpa using h2)

theorem retVals_run {X : Cx} {F : Cells} {w : World} {ρ : Env} {s : St} {a : Act} (hs : Sat X F w ρ s a) : ∀ (l : List ResultVar) (vs : List AVal), retVals P s l = some vs →
    ∃ us : List Value, (l.mapM (resSem a.tmps)).run P w = .ok us w ∧ vs.length = us.length ∧
      ∀ (j : Nat) (b : AVal) (v : Value), vs[j]? = some b → us[j]? = some v → ARel F w ρ b v
  | [], vs, h => by simp [retVals] at h; subst h; exact ⟨[], by simp, by simp, by simp⟩
  | .tmp t :: l, vs, h => by
    simp only [retVals] at h
    split at h
    · rename_i vs' hv'
      cases h
      obtain ⟨us, h1, h2, h3⟩ := retVals_run hs l vs' hv'
      refine ⟨a.tmps.getD t undef :: us, by simp only [List.mapM_cons, resSem, Sem.run_bind, Sem.run_pure, Result.andThen_ok]; rw [h1]; rfl, by simp [h2], fun j b v hb hv => ?_⟩
      cases j with
      | zero => simp only [List.getElem?_cons_zero, Option.some.injEq] at hb hv; subst hb; subst hv; exact hs.fr t
      | succ j => exact h3 j b v (by simpa using hb) (by simpa using hv)
    · cases h
  | .cell t ty :: l, vs, h => by
    simp only [retVals] at h
    split at h
    · rename_i i off ht
      split at h
      · rename_i out vs' ho hv'
        cases h
        obtain ⟨us, h1, h2, h3⟩ := retVals_run hs l vs' hv'
        have hp := ht ▸ hs.fr t
        simp only [evLoad] at ho
        split at ho
        · rename_i cs hcs
          split at ho
          · rename_i v hv
            cases ho
            obtain ⟨c, e, hb, hl, _, hr⟩ := box_inv hs.mem hcs
            generalize hu : a.tmps.getD t undef = u at hp
            cases hp with
            | ptr =>
              obtain ⟨x, hx, hxr⟩ : ∃ x, (loadVar ty ⟨ρ.blk i, off, none⟩).run P w = .ok x w ∧ ARel F w ρ v x := by
                rcases part_rel (F := F) (w := w) (ρ := ρ) hv hl.symm (fun j a v h1 h2 => (hr j a v h1 h2).1) with ⟨h1, s, h2, h3, h4⟩ | ⟨h1, u, h2, h3⟩
                · exact ⟨_, load_block hb (.inl ⟨h1, s, h2, h3, rfl⟩), h4⟩
                · exact ⟨_, load_block hb (.inr ⟨h1, h2⟩), h3⟩
              have hasa : (asAddr (a.tmps.getD t undef)).run P w = .ok ⟨ρ.blk i, off, none⟩ w := by rw [hu]; rfl
              refine ⟨x :: us, by rw [List.mapM_cons]; simp only [Sem.run_bind, show resSem a.tmps (.cell t ty) = (do loadVar ty (← asAddr (a.tmps.getD t undef))) from rfl, hasa, Result.andThen_ok, hx, h1, Sem.run_pure], by simp [h2], fun j b v hb hv => ?_⟩
              cases j with
              | zero => simp only [List.getElem?_cons_zero, Option.some.injEq] at hb hv; subst hb; subst hv; exact hxr
              | succ j => exact h3 j b v (by simpa using hb) (by simpa using hv)
          · cases ho
        · cases ho
      · cases h
    · cases h

theorem leaves_guarded {fn : Func} {tmps : Array Value} {R : Ending → World → Prop} {F : Cells} {w : World} {ρ : Env} {v : Value} (hr : (results fn tmps).run P w = .ok v w) (hR : R (.returned v) w) :
    ∀ {ds : List Deferred} {xs : List AVal}, All2 (DRel F w ρ) ds xs → GuardAll P xs → Leaves P fn tmps R ds .returning w
  | _, _, .nil, _ => ⟨v, hr, hR⟩
  | _, _, .cons hx hrest, hg => by
    obtain ⟨g, first, caps, v1, v2, rfl, rfl, _, _⟩ := hx
    obtain ⟨⟨hc, hcall⟩, hg'⟩ := hg
    refine ⟨by simp, .func g, v2, g, v1 ++ v2, rfl, by simp only [invoke, run_callFunc hc], ?_⟩
    refine (hcall (v1 ++ v2) w).mono ?_
    rintro e u w' ⟨⟨v', rfl⟩, rfl, rfl⟩
    exact leaves_guarded hr hR hrest hg'

theorem results_run {X : Cx} {F : Cells} {w : World} {ρ : Env} {s : St} {a : Act} {fn : Func} (hs : Sat X F w ρ s a) {vs : List AVal} (h : retVals P s fn.results.toList = some vs) :
    ∃ us : List Value, (results fn a.tmps).run P w = .ok (if h : us.length = 1 then us[0] else .tuple us.toArray) w ∧ vs.length = us.length ∧ fn.results.toList.length = us.length ∧
      ∀ (j : Nat) (b : AVal) (v : Value), vs[j]? = some b → us[j]? = some v → ARel F w ρ b v := by
  obtain ⟨us, h1, h2, h3⟩ := retVals_run hs _ _ h
  have hlen : ∀ (l : List ResultVar) (vs : List AVal), retVals P s l = some vs → l.length = vs.length := by
    intro l
    induction l with
    | nil => intro vs h; simp [retVals] at h; subst h; rfl
    | cons r l ih =>
      intro vs h
      cases r with
      | tmp t =>
        simp only [retVals] at h
        split at h
        · rename_i vs' hv; cases h; simp [ih _ hv]
        · cases h
      | cell t ty =>
        simp only [retVals] at h
        split at h
        · split at h
          · rename_i hv; cases h; simp [ih _ hv]
          · cases h
        · cases h
  refine ⟨us, ?_, h2, by rw [hlen _ _ h, h2], h3⟩
  rw [results_eq, Array.mapM_eq_mapM_toList]
  simp only [Sem.run_bind, Sem.run_map, h1, Result.andThen_ok, Sem.run_pure]
  congr 1

theorem spec_of_vc {f : FuncId} {fn : Func} {body : Code} {drawOk : List Oper → List Eff → Bool} {n0 k : Nat} {sc : Scr} {args : List AVal} {m : Mem} {res : AVal} {m' : Mem} (hd : DrawSound P drawOk)
    (hf : P.funcs[f]? = some fn) (hb : fn.body = some body) (hname : (fn.name == "runtime.NumGoroutine") = false) (h : vcFunc P drawOk fn body n0 k sc args m res m') : Spec P f k args m res m' := by
  refine ⟨⟨fn, hf, hname, by rw [hb]; rfl⟩, fun F w ρ Mine vs hm hg hargs => ?_⟩
  unfold vcFunc at h
  split at h
  · rename_i hc
    simp only [Bool.and_eq_true, decide_eq_true_eq] at hc
    obtain ⟨hlen, hok⟩ := hc
    let X : Cx := ⟨fn.ntmps, n0, Mine, F, w, ρ⟩
    refine calls_of_wp_defers hf hb ?_
    have hsz := hargs.1
    have hsat : Sat X F w ρ ⟨argsFr 0 args, m, [], n0⟩ { tmps := vs ++ Array.replicate (fn.ntmps - vs.size) undef, defers := [] } := by
      refine ⟨by show (vs ++ Array.replicate _ _).size = fn.ntmps; simp; omega, fun t => ?_, hm, .nil, hg, Step.refl hg, fun i _ => ⟨rfl, rfl⟩⟩
      show ARel F w ρ (frGet (argsFr 0 args) t) _
      rw [argsFr_get]
      simp only [Nat.zero_le, if_true, Nat.sub_zero]
      cases ht : args[t]? with
      | none => exact .any
      | some b =>
        have hlt : t < vs.size := by have := (List.getElem?_eq_some_iff.1 ht).1; omega
        refine hargs.2 t b _ ht ?_
        rw [Array.getD_eq_getD_getElem?, Array.getElem?_append_left hlt]
        simp [hlt]
    refine vc_sound hd body 0 sc _ _ _ F w ρ _ h hsat hok (Nat.le_refl _) ?_
    have fin : ∀ (s : St) (F' : Cells) (w' : World) (ρ' : Env) (a' : Act), retOk P n0 k fn.results.toList res m' s → Sat X F' w' ρ' s a' →
        Leaves P fn a'.tmps (fun e w' => ∃ v F' ρ', e = .returned v ∧ Step Mine F w F' w' ∧ EnvStep k ρ ρ' ∧ ARel F' w' ρ' res v ∧ MemOk F' w' ρ' Mine m') a'.defers .returning w' := by
      intro s F' w' ρ' a' hret hs
      unfold retOk at hret
      split at hret
      · exact hret.elim
      · rename_i avs havs
        simp only at hret
        generalize hhb : handBack s.mem avs (resList res) = hb at hret
        generalize hτ : idOf n0 (matchRes n0 s hb.1 (resList res) m') = τ at hret
        split at hret
        · rename_i hcond
          simp only [Bool.and_eq_true, bne_iff_ne, ne_eq] at hcond
          obtain ⟨⟨⟨hinj, hmin⟩, hrin⟩, hcount⟩ := hcond
          obtain ⟨h1, h2, h3⟩ := hret
          obtain ⟨us, hrun, hl1, hl2, hrel⟩ := results_run (P := P) hs havs
          refine leaves_guarded hrun ?_ hs.df h3
          -- sharing
          obtain ⟨st1, hm1⟩ := share_ok (m := s.mem) hs.mem hs.good (is := hb.2) (fun _ _ => rfl)
          have hrel2 := handBack_rel hs.mem hs.good (js := hb.2) (rs := resList res) hl1 hrel (by rw [hhb]; exact fun _ h => h)
          rw [hhb] at hrel2
          let F2 := sharedF F' w' ρ' s.mem hb.2
          let ρ2 : Env := ⟨fun j => if k ≤ j ∧ j < k + 64 then ρ'.blk (τ j) else ρ.blk j, fun j => if k ≤ j ∧ j < k + 64 then ρ'.vec (τ j) else ρ.vec j⟩
          have hlow : ∀ i, i < n0 → τ i = i := fun i hi => by rw [← hτ]; simp [idOf, hi]
          have hag : ∀ i, (i < n0 ∨ Own k i) → ρ2.blk i = (ρ'.pull τ).blk i ∧ ρ2.vec i = (ρ'.pull τ).vec i := by
            intro i hi
            by_cases ho : Own k i
            · exact ⟨if_pos ho, if_pos ho⟩
            · have hlt := hi.resolve_right ho
              have he := hs.env0 i hlt
              refine ⟨(if_neg ho).trans ?_, (if_neg ho).trans ?_⟩
              · show _ = ρ'.blk (τ i); rw [hlow i hlt]; exact he.1.symm
              · show _ = ρ'.vec (τ i); rw [hlow i hlt]; exact he.2.symm
          refine ⟨_, F2, ρ2, rfl, hs.from0.trans st1, fun i hi => ⟨if_neg hi, if_neg hi⟩, ?_, ?_⟩
          · obtain ⟨q1, q2⟩ := asubs_rel (F := F2) (w := w') (ρ := ρ') h1
            have each : ∀ (j : Nat) (r : AVal) (v : Value), (resList res)[j]? = some r → us[j]? = some v → ARel F2 w' ρ2 r v := by
              intro j r v hr hv
              obtain ⟨b, hb1, hb2⟩ := q2 j (r.ren τ) (by rw [renL_get, hr]; rfl)
              have h5 := ARel.unren r v (hb2 v (hrel2.2 j b v hb1 hv))
              exact h5.mono (fun i => i < n0 ∨ Own k i) (fun _ _ h => h) (fun _ _ _ => rfl) hag (fun i hi => in_has hi (inL_get hrin hr))
            have hlen2 : (resList res).length = us.length := by rw [renL_length] at q1; omega
            by_cases h1r : us.length = 1
            · rw [dif_pos h1r]
              have hnt : isTup res = false := by
                have : (fn.results.toList.length == 1) = true := by simp; simp at hl2; omega
                rw [this] at hcount
                cases hh : isTup res <;> simp_all
              have hrl : resList res = [res] := by cases res <;> simp_all [resList, isTup]
              exact each 0 res _ (by rw [hrl]; rfl) (by simp [h1r])
            · rw [dif_neg h1r]
              have hnt : isTup res = true := by
                have : (fn.results.toList.length == 1) = false := by simp; simp at hl2; omega
                rw [this] at hcount
                cases hh : isTup res <;> simp_all
              cases res <;> simp [isTup] at hnt
              exact .tup (by simpa [resList] using hlen2) (fun j r v hr hv => each j r v hr (by simpa using hv))
          · have hinj' : ∀ x ∈ m', ∀ y ∈ m', τ x.1 = τ y.1 → isGone x.2 = false → isGone y.2 = false → x.1 = y.1 := fun x hx y hy he h1 h2 => injB_eq hinj hx hy he h1 h2
            have hget : ∀ i r, m'.get i = some r → ∃ r0, (shareOf s.mem hb.2 ++ s.mem).get (τ i) = some r0 ∧ RSub r0 (r.ren τ) := fun i r hi => msub_get h2 (mem_ren (get_mem hi))
            have hblk : ∀ i r b, m'.get i = some r → Owns w' (ρ'.pull τ) i r b → ∃ r0, (shareOf s.mem hb.2 ++ s.mem).get (τ i) = some r0 ∧ Owns w' ρ' (τ i) r0 b := by
              intro i r b hi hb'
              obtain ⟨r0, q1, q2⟩ := hget i r hi
              refine ⟨r0, q1, (q2.rel F2 w' ρ' (τ i) (hm1.ok _ _ q1)).2 b ?_⟩
              rw [Owns_ren (ρ := ρ'.pull τ) (ρ' := ρ') ⟨rfl, rfl⟩]; exact hb'
            have hbeq : ∀ i r, m'.get i = some r → ∀ b, Owns w' ρ2 i r b ↔ Owns w' (ρ'.pull τ) i r b := fun i r hi => Owns_eq (hag i (memIn_get hmin hi).1) (fun _ _ => rfl)
            refine ⟨fun i r hi => ?_, fun i r b hi hb' => ?_, fun i i' r r' b hi hi' hb1 hb2 => ?_⟩
            · obtain ⟨r0, q1, q2⟩ := hget i r hi
              have h5 := (q2.rel F2 w' ρ' (τ i) (hm1.ok _ _ q1)).1.unren
              obtain ⟨q3, q4⟩ := memIn_get hmin hi
              refine h5.keep (fun i => i < n0 ∨ Own k i) (fun _ _ h => h) (fun _ _ _ => rfl) hag q3 (fun j hj => ?_) (fun b _ => ⟨rfl, fun _ h => h⟩)
              cases r with
              | box cs => exact inL_has hj q4
              | vecX _ _ _ _ _ _ i => simp [Res.inIds] at q4; simp [Res.has]; exact fun e => hj (by subst e; exact q4)
              | _ => rfl
            · rw [hbeq i r hi] at hb'
              obtain ⟨r0, q1, q2⟩ := hblk i r b hi hb'
              exact hm1.mine _ _ _ q1 q2
            · rw [hbeq i r hi] at hb1
              rw [hbeq i' r' hi'] at hb2
              obtain ⟨r0, q1, q2⟩ := hblk i r b hi hb1
              obtain ⟨r1, q3, q4⟩ := hblk i' r' b hi' hb2
              exact hinj' _ (get_mem hi) _ (get_mem hi') (hm1.disj _ _ _ _ b q1 q3 q2 q4) (owns_notGone hb1) (owns_notGone hb2)
        · exact hret.elim
    intro e sc' s F' w' ρ' a' hK hs ho h0
    cases e with
    | normal => exact fin s F' w' ρ' a' hK hs
    | exit id => exact hK.elim
    | ret => exact fin s F' w' ρ' a' hK hs
  · exact h.elim
end Go.Abs
