/-
  Verification conditions of code, and that they are enough.
-/
import Derived.Test.YtnehaejghnoigaaGreatRegion
namespace Go.Abs

inductive Ex where
  | normal
  | exit (id : Nat)
  | ret

def Ex.to : Ex → Exit
  | .normal => .normal
  | .exit id => .exit id
  | .ret => .ret

/-- What the prover supplies: results of calls, invariants of loops. -/
inductive Scr : Type 1 where
  | nil
  | hint (r i : Nat) (h : Hint) (rest : Scr)
  | loop (n : Nat) (σ : Type) (I : σ → St) (Inv : σ → Prop) (μ : σ → Nat) (inner : σ → Scr) (rest : Scr)
  | unroll (n k : Nat) (rest : Scr)

def Scr.hint? : Scr → Nat → Nat → Option Hint
  | .nil, _, _ => none
  | .hint r i h rest, r', i' => if r = r' ∧ i = i' then some h else rest.hint? r' i'
  | .loop _ _ _ _ _ _ rest, r', i' => rest.hint? r' i'
  | .unroll _ _ rest, r', i' => rest.hint? r' i'

structure LoopS : Type 1 where
  σ : Type
  I : σ → St
  Inv : σ → Prop
  μ : σ → Nat
  inner : σ → Scr

def Scr.loop? : Scr → Nat → Option LoopS
  | .nil, _ => none
  | .hint _ _ _ rest, n => rest.loop? n
  | .loop n σ I Inv μ inner rest, n' => if n = n' then some ⟨σ, I, Inv, μ, inner⟩ else rest.loop? n'
  | .unroll _ _ rest, n => rest.loop? n

def Scr.unroll? : Scr → Nat → Nat
  | .nil, _ => 0
  | .hint _ _ _ rest, n => rest.unroll? n
  | .loop _ _ _ _ _ _ rest, n => rest.unroll? n
  | .unroll n k rest, n' => if n = n' then k else rest.unroll? n'

def nloops : Code → Nat
  | .seq a b => nloops a + nloops b
  | .cond _ a b => nloops a + nloops b
  | .block _ b => nloops b
  | .loop b => nloops b + 1
  | .scope b => nloops b
  | _ => 0

/-! ### From one state to a more general one -/
mutual
def matchA (n0 : Nat) : AVal → AVal → List (Nat × Nat)
  | .vec i, .vec j => if i < n0 then [] else [(i, j)]
  | .ptr i _, .ptr j _ => if i < n0 then [] else [(i, j)]
  | .map i, .map j => if i < n0 then [] else [(i, j)]
  | .bsl i _, .bsl j _ => if i < n0 then [] else [(i, j)]
  | .view i _ _ _, .view j _ _ _ => if i < n0 then [] else [(i, j)]
  | .iface _ a, .iface _ b => matchA n0 a b
  | .agg cs, .agg ds => matchL n0 cs ds
  | .tup cs, .tup ds => matchL n0 cs ds
  | .func _ a b, .func _ c d => matchL n0 a c ++ matchL n0 b d
  | _, _ => []
def matchL (n0 : Nat) : List AVal → List AVal → List (Nat × Nat)
  | a :: l, b :: m => matchA n0 a b ++ matchL n0 l m
  | _, _ => []
end

def matchFr (n0 : Nat) (s : St) : List (Nat × AVal) → List (Nat × Nat)
  | [] => []
  | (t, a) :: l => matchA n0 a (s.get t) ++ matchFr n0 s l

def idOf (n0 : Nat) (σ : List (Nat × Nat)) (i : Nat) : Nat := if i < n0 then i else (renGet σ i).getD i

def matchMem (n0 : Nat) (s : St) (σ : List (Nat × Nat)) : Mem → List (Nat × Nat)
  | [] => []
  | (i, .box cs) :: m => (match s.mem.get (idOf n0 σ i) with
    | some (.box ds) => matchL n0 cs ds
    | _ => []) ++ matchMem n0 s σ m
  | _ :: m => matchMem n0 s σ m

def matchAll (n0 : Nat) (s s' : St) : List (Nat × Nat) :=
  let σ := matchFr n0 s s'.fr ++ matchL n0 s'.df s.df
  σ ++ matchMem n0 s σ s'.mem

def isGone : Res → Bool
  | .gone => true
  | _ => false
theorem gone_owns {w : World} {ρ : Env} {i b : Nat} {r : Res} (h : isGone r = true) : ¬ Owns w ρ i r b := by
  cases r <;> simp [isGone] at h
  simp [Owns, Inner, blockOf]
def injB (τ : Nat → Nat) (m : Mem) : Bool := m.all fun x => m.all fun y => τ x.1 != τ y.1 || x.1 == y.1 || isGone x.2 || isGone y.2
theorem injB_eq {τ : Nat → Nat} {m : Mem} (h : injB τ m = true) {x y : Nat × Res} (hx : x ∈ m) (hy : y ∈ m) (he : τ x.1 = τ y.1) (h1 : isGone x.2 = false) (h2 : isGone y.2 = false) : x.1 = y.1 := by
  have := List.all_eq_true.1 (List.all_eq_true.1 h x hx) y hy
  simpa [he, h1, h2] using this
theorem owns_notGone {w : World} {ρ : Env} {i b : Nat} {r : Res} (h : Owns w ρ i r b) : isGone r = false := by
  cases hg : isGone r with
  | false => rfl
  | true => exact absurd h (gone_owns hg)

/-- A nil slice where data is asked for. -/
def nilP (m : Mem) (a b : AVal) : AVal :=
  match a, b with
  | .vec i, .pure _ => (match m.get i with
    | some .nilv => .pure (.lst 0 0 fun _ => .unk)
    | _ => .vec i)
  | a, _ => a
theorem nilP_rel {F : Cells} {w : World} {ρ : Env} {Mine : Nat → Prop} {m : Mem} (hm : MemOk F w ρ Mine m) {a b : AVal} {v : Value} (h : ARel F w ρ a v) : ARel F w ρ (nilP m a b) v := by
  unfold nilP
  split
  · rename_i i p
    split
    · rename_i hi
      have hn : ρ.vec i = none := hm.ok i _ hi
      cases h with
      | vnil _ => exact .pure .nil
      | vec hh => rw [hh] at hn; cases hn
    · exact h
  · exact h

def frEnt (s : St) (τ : Nat → Nat) : List (Nat × AVal) → Prop
  | [] => True
  | (t, a) :: l => ASub (nilP s.mem (s.get t) a) (a.ren τ) ∧ frEnt s τ l

def isFn : AVal → Bool
  | .func _ _ _ => true
  | _ => false

def Ent (n0 : Nat) (s s' : St) : Prop :=
  let τ := idOf n0 (matchAll n0 s s')
  if injB τ s'.mem && s'.df.all isFn then frEnt s τ s'.fr ∧ MSub s.mem (Mem.ren τ s'.mem) ∧ ASubs s.df (AVal.renL τ s'.df) else False

def unrolled (step : Scr → St → (Ex → Scr → St → Prop) → Prop) : Nat → Scr → St → (Ex → Scr → St → Prop) → Prop
  | 0, _, _, _ => False
  | k + 1, sc, s, K => step sc s fun e sc s => match e with
    | .normal => unrolled step k sc s K
    | e => K e sc s

/-- A region whose last operation defers a call without arguments. -/
def splitDefer : List Oper → Option (List Oper × Operand)
  | [] => none
  | [o] => match o.op, o.dst, o.guard with
    | .defer c, none, none => match c.callee, c.args.toList with
      | .value x, [] => some ([], x)
      | _, _ => none
    | _, _, _ => none
  | o :: o' :: rest => match splitDefer (o' :: rest) with
    | some (l, x) => some (o :: l, x)
    | none => none

section
variable (P : Program) (nt n0 : Nat) (drawOk : List Oper → List Eff → Bool)

def vc : Code → Nat → Scr → St → (Ex → Scr → St → Prop) → Prop
  | .skip, _, sc, s, K => K .normal sc s
  | .label _, _, sc, s, K => K .normal sc s
  | .region id ops draw, _, sc, s, K => match (if draw then none else splitDefer ops.toList) with
    | some (l, x) => vcOps P nt ops.toList (sc.hint? id) 0 l s.nx s [] fun s' _ => match envOf s' x with
      | .func f a b => K .normal sc { s' with df := .func f a b :: s'.df, nx := s.nx + 64 * ops.toList.length }
      | _ => False
    | none => vcOps P nt ops.toList (sc.hint? id) 0 ops.toList s.nx s [] fun s' tr =>
      if !draw || drawOk ops.toList tr then K .normal sc { s' with nx := s.nx + 64 * ops.toList.length } else False
  | .seq a b, n, sc, s, K => vc a n sc s fun e sc s => match e with
    | .normal => vc b (n + nloops a) sc s K
    | e => K e sc s
  | .cond c a b, n, sc, s, K => match envOf s c with
    | .tt => vc a n sc s K
    | .ff => vc b (n + nloops a) sc s K
    | .pure (.bool x) => (x = true → vc a n sc s K) ∧ (x = false → vc b (n + nloops a) sc s K)
    | _ => False
  | .block id body, n, sc, s, K => vc body n sc s fun e sc s => match e with
    | .exit j => if j = id then K .normal sc s else K (.exit j) sc s
    | e => K e sc s
  | .loop body, n, sc, s, K => match sc.unroll? n with
    | k + 1 => unrolled (vc body (n + 1)) (k + 1) sc s K
    | 0 => match sc.loop? n with
      | some L => (∀ x, (L.I x).ok = true ∧ n0 ≤ (L.I x).nx) ∧ ∃ x0, Ent n0 s (L.I x0) ∧ L.Inv x0 ∧ ∀ x, L.Inv x → vc body (n + 1) (L.inner x) (L.I x) fun e sc s' => match e with
        | .normal => ∃ x', Ent n0 s' (L.I x') ∧ L.Inv x' ∧ L.μ x' < L.μ x
        | e => K e sc s'
      | none => False
  | .exit id, _, sc, s, K => K (.exit id) sc s
  | .ret, _, sc, s, K => K .ret sc s
  | _, _, _, _, _ => False
end

/-! ### Soundness -/
theorem frEnt_get {s : St} {τ : Nat → Nat} : ∀ {l : List (Nat × AVal)}, frEnt s τ l → ∀ t, ASub (nilP s.mem (s.get t) (frGet l t)) ((frGet l t).ren τ)
  | [], _, t => ⟨fun F w ρ v _ => .any⟩
  | (i, a) :: l, h, t => by
    simp only [frGet]
    split
    · rename_i e; subst e; exact h.1
    · exact frEnt_get h.2 t

theorem Ent.sat {X : Cx} {F : Cells} {w : World} {ρ : Env} {s s' : St} {a : Act} (h : Ent X.n0 s s') (hs : Sat X F w ρ s a) : ∃ ρ', Sat X F w ρ' s' a := by
  unfold Ent at h
  simp only at h
  generalize hσ : matchAll X.n0 s s' = σ at h
  generalize hτ : idOf X.n0 σ = τ at h
  split at h
  · rename_i hinj
    simp only [Bool.and_eq_true] at hinj
    obtain ⟨hinj, hfn⟩ := hinj
    obtain ⟨h1, h2, h3⟩ := h
    have hinj' : ∀ x ∈ s'.mem, ∀ y ∈ s'.mem, τ x.1 = τ y.1 → isGone x.2 = false → isGone y.2 = false → x.1 = y.1 := fun x hx y hy he h1 h2 => injB_eq hinj hx hy he h1 h2
    have hget : ∀ i r, s'.mem.get i = some r → ∃ r0, s.mem.get (τ i) = some r0 ∧ RSub r0 (r.ren τ) := fun i r hi => msub_get h2 (mem_ren (get_mem hi))
    have hblk : ∀ i r b, s'.mem.get i = some r → Owns w (ρ.pull τ) i r b → ∃ r0, s.mem.get (τ i) = some r0 ∧ Owns w ρ (τ i) r0 b := by
      intro i r b hi hb
      obtain ⟨r0, q1, q2⟩ := hget i r hi
      refine ⟨r0, q1, (q2.rel F w ρ (τ i) (hs.mem.ok _ _ q1)).2 b ?_⟩
      rw [Owns_ren (ρ := ρ.pull τ) (ρ' := ρ) ⟨rfl, rfl⟩]; exact hb
    refine ⟨ρ.pull τ, hs.size, fun t => ARel.unren _ _ ((frEnt_get h1 t).rel F w ρ _ (nilP_rel hs.mem (hs.fr t))), ⟨fun i r hi => ?_, fun i r b hi hb => ?_, fun i i' r r' b hi hi' hb hb' => ?_⟩, ?_, hs.good, hs.from0, fun i hi => ?_⟩
    · obtain ⟨r0, q1, q2⟩ := hget i r hi
      exact (q2.rel F w ρ (τ i) (hs.mem.ok _ _ q1)).1.unren
    · obtain ⟨r0, q1, q2⟩ := hblk i r b hi hb
      exact hs.mem.mine _ _ _ q1 q2
    · obtain ⟨r0, q1, q2⟩ := hblk i r b hi hb
      obtain ⟨r1, q3, q4⟩ := hblk i' r' b hi' hb'
      exact hinj' _ (get_mem hi) _ (get_mem hi') (hs.mem.disj _ _ _ _ b q1 q3 q2 q4) (owns_notGone hb) (owns_notGone hb')
    · have hd := hs.df
      revert h3 hd hfn
      generalize s.df = ds
      generalize s'.df = es
      generalize a.defers = dd
      clear h1 h2 hget hblk hinj' hinj hs hτ hσ
      intro hfn h3 hd
      induction hd generalizing es with
      | nil => cases es with
        | nil => exact .nil
        | cons _ _ => exact h3.elim
      | cons hx _ ih =>
        cases es with
        | nil => exact h3.elim
        | cons y es =>
          simp only [List.all_cons, Bool.and_eq_true] at hfn
          refine .cons ?_ (ih es hfn.2 h3.2)
          obtain ⟨g, first, caps, v1, v2, rfl, rfl, r1, r2⟩ := hx
          have hrel : ARel F w ρ (.func g first caps) (.func (.func g) v1 v2) := .func r1.1 r1.2 r2.1 r2.2
          have := ARel.unren _ _ (h3.1.rel F w ρ _ hrel)
          cases y <;> simp [isFn] at hfn
          cases this with
          | func q1 q1' q2 q2' => exact ⟨_, _, _, _, _, rfl, rfl, ⟨q1, q1'⟩, ⟨q2, q2'⟩⟩
    · have : τ i = i := by rw [← hτ]; simp [idOf, hi]
      have h4 := hs.env0 i hi
      exact ⟨by show ρ.blk (τ i) = _; rw [this]; exact h4.1, by show ρ.vec (τ i) = _; rw [this]; exact h4.2⟩
  · exact h.elim

theorem wp_loop' {P : Program} {Q : Exit → Act → World → Prop} {a : Act} {w : World} {c : Code} {σ : Type} (I : σ → Act → World → Prop) (μ : σ → Nat) (x0 : σ) (h₀ : I x0 a w)
    (round : ∀ x a w, I x a w → c.wp P (Exit.then (fun a' w' => ∃ x', I x' a' w' ∧ μ x' < μ x) Q) a w) : (Code.loop c).wp P Q a w := by
  intro b k cs
  have key : ∀ n x a w, μ x = n → I x a w →
      ∃ e a' w', Q e a' w' ∧ Arrives P (lone (b.at a (.code c :: .inLoop c :: k)) cs w) b k cs e a' w' := by
    intro n
    induction n using Nat.strongRecOn with
    | _ n ih =>
      intro x a w hn hI
      obtain ⟨e, a₁, w₁, hq, harr⟩ := round x a w hI b (.inLoop c :: k) cs
      cases e with
      | normal =>
        obtain ⟨x', hI₁, hlt⟩ := hq
        obtain ⟨e₂, a₂, w₂, hq₂, harr₂⟩ := ih (μ x') (hn ▸ hlt) x' a₁ w₁ rfl hI₁
        exact ⟨e₂, a₂, w₂, hq₂, .of_steps (Steps.trans harr (.one step_inLoop)) harr₂⟩
      | exit id => exact ⟨_, a₁, w₁, hq, .pass (x := .inLoop c) rfl (fun _ _ => .inl (by simp)) harr⟩
      | goto l => exact ⟨_, a₁, w₁, hq, .pass (x := .inLoop c) rfl (fun _ _ => .inl (by simp)) harr⟩
      | ret => exact ⟨_, a₁, w₁, hq, .pass (x := .inLoop c) rfl (fun _ _ => .inl (by simp)) harr⟩
      | panic ch => exact ⟨_, a₁, w₁, hq, .pass (x := .inLoop c) rfl (fun _ _ => .inl (by simp)) harr⟩
      | outgrown => exact ⟨_, a₁, w₁, hq, .pass (x := .inLoop c) rfl (fun _ _ => .inl (by simp)) harr⟩
  obtain ⟨e, a', w', hq, harr⟩ := key _ x0 a w rfl h₀
  exact ⟨e, a', w', hq, .of_steps (.one step_loop) harr⟩

/-- What is asked behind the code. -/
def Post (X : Cx) (K : Ex → Scr → St → Prop) (Q : Exit → Act → World → Prop) : Prop :=
  ∀ e sc s F w ρ a, K e sc s → Sat X F w ρ s a → s.ok = true → X.n0 ≤ s.nx → Q e.to a w

/-- Regions that draw their order (proved elsewhere). -/
def DrawSound (P : Program) (drawOk : List Oper → List Eff → Bool) : Prop :=
  ∀ (X : Cx) (ops : List Oper) (hint : Nat → Option Hint) (K : St → List Eff → Prop) (Q : Exit → Act → World → Prop) (id : Nat) (s : St) (F : Cells) (w : World) (ρ : Env) (a : Act) (rid : Nat),
    vcOps P X.nt ops hint 0 ops id s [] (fun s' tr => drawOk ops tr = true ∧ K s' tr) → s.lt id = true → X.n0 ≤ id → Sat X F w ρ s a →
    (∀ s' tr' F' w' ρ' a', K s' tr' → s'.lt (id + 64 * ops.length) = true → Sat X F' w' ρ' s' a' → Q .normal a' w') → (Code.region rid ops.toArray true).wp P Q a w

theorem vcOps_mono {P : Program} {nt : Nat} {ops : List Oper} {hint : Nat → Option Hint} {K K' : St → List Eff → Prop} (hK : ∀ s tr, K s tr → K' s tr) :
    ∀ (rest : List Oper) (i id : Nat) (s : St) (tr : List Eff), vcOps P nt ops hint i rest id s tr K → vcOps P nt ops hint i rest id s tr K'
  | [], i, id, s, tr, h => hK s tr h
  | o :: rest, i, id, s, tr, h => by
    have run : ∀ (s : St), (match stepOf P hint i o id s with
        | some (out, _) => if dstOk nt o.dst && outOk id out then andO out.obl (vcOps P nt ops hint (i + 1) rest (id + 64) (addOut s o out) (tr ++ [effOf ops o id out]) K) else False
        | none => False) → (match stepOf P hint i o id s with
        | some (out, _) => if dstOk nt o.dst && outOk id out then andO out.obl (vcOps P nt ops hint (i + 1) rest (id + 64) (addOut s o out) (tr ++ [effOf ops o id out]) K') else False
        | none => False) := by
      intro s h
      split at h
      · split at h
        · rename_i hc; simp only [hc, if_true]; rw [andO_iff] at h ⊢; exact ⟨h.1, vcOps_mono hK rest _ _ _ _ h.2⟩
        · exact h.elim
      · exact h.elim
    have skip : ∀ (s : St), (if dstOk nt o.dst then vcOps P nt ops hint (i + 1) rest (id + 64) (s.putD o.dst (.tup [])) (tr ++ [⟨o.dst, usesOf ops o, id, .tup [], [], []⟩]) K else False) →
        (if dstOk nt o.dst then vcOps P nt ops hint (i + 1) rest (id + 64) (s.putD o.dst (.tup [])) (tr ++ [⟨o.dst, usesOf ops o, id, .tup [], [], []⟩]) K' else False) := by
      intro s h
      split at h
      · rename_i hc; simp only [hc, if_true]; exact vcOps_mono hK rest _ _ _ _ h
      · exact h.elim
    simp only [vcOps] at h ⊢
    split at h
    · exact run s h
    · exact skip s h
    · exact h.elim
    · rename_i t b want _
      refine ⟨fun hb => ?_, fun hb => ?_⟩
      · have := h.1 hb
        cases want
        · exact skip _ this
        · exact run _ this
      · have := h.2 hb
        cases want
        · exact run _ this
        · exact skip _ this

theorem splitDefer_spec : ∀ {ops l : List Oper} {x : Operand}, splitDefer ops = some (l, x) → ∃ o c, ops = l ++ [o] ∧ o.op = .defer c ∧ o.dst = none ∧ o.guard = none ∧ c.callee = .value x ∧ c.args = #[]
  | [], l, x, h => by simp [splitDefer] at h
  | [o], l, x, h => by
    simp only [splitDefer] at h
    split at h
    · rename_i c h1 h2 h3
      split at h
      · rename_i y h4 h5
        cases h
        exact ⟨o, c, rfl, h1, h2, h3, h4, by simpa using h5⟩
      · cases h
    · cases h
  | o :: o' :: rest, l, x, h => by
    simp only [splitDefer] at h
    split at h
    · rename_i l' x' h'
      cases h
      obtain ⟨o1, c, h1, h2⟩ := splitDefer_spec h'
      exact ⟨o1, c, by rw [h1]; rfl, h2⟩
    · cases h

theorem vc_sound {P : Program} {drawOk : List Oper → List Eff → Bool} (hd : DrawSound P drawOk) {X : Cx} : ∀ (c : Code) (n : Nat) (sc : Scr) (s : St) (K : Ex → Scr → St → Prop) (Q : Exit → Act → World → Prop) (F : Cells) (w : World) (ρ : Env) (a : Act),
    vc P X.nt X.n0 drawOk c n sc s K → Sat X F w ρ s a → s.ok = true → X.n0 ≤ s.nx → Post X K Q → c.wp P Q a w
  | .skip, n, sc, s, K, Q, F, w, ρ, a, h, hs, ho, h0, hp => wp_skip (hp .normal sc s F w ρ a h hs ho h0)
  | .label l, n, sc, s, K, Q, F, w, ρ, a, h, hs, ho, h0, hp => wp_label (hp .normal sc s F w ρ a h hs ho h0)
  | .exit id, n, sc, s, K, Q, F, w, ρ, a, h, hs, ho, h0, hp => wp_exit (hp (.exit id) sc s F w ρ a h hs ho h0)
  | .ret, n, sc, s, K, Q, F, w, ρ, a, h, hs, ho, h0, hp => wp_ret (hp .ret sc s F w ρ a h hs ho h0)
  | .region id ops draw, n, sc, s, K, Q, F, w, ρ, a, h, hs, ho, h0, hp => by
    simp only [vc] at h
    have fin : ∀ s' F' w' ρ' a', K .normal sc { s' with nx := s.nx + 64 * ops.toList.length } → s'.lt (s.nx + 64 * ops.toList.length) = true → Sat X F' w' ρ' s' a' → Q .normal a' w' := by
      intro s' F' w' ρ' a' hK hlt hs'
      exact hp .normal sc _ F' w' ρ' a' hK ⟨hs'.size, hs'.fr, hs'.mem, hs'.df, hs'.good, hs'.from0, hs'.env0⟩ hlt (by show X.n0 ≤ s.nx + _; omega)
    split at h
    · rename_i l x hsd
      cases draw with
      | true => simp at hsd
      | false =>
        simp only [Bool.false_eq_true, if_false] at hsd
        obtain ⟨o, cc, hops, h1, h2, h3, h4, h5⟩ := splitDefer_spec hsd
        refine wp_region ?_
        have hsz : ops.size = l.length + 1 := by rw [← Array.length_toList, hops]; simp
        have hlast : ops[l.length]? = some o := by rw [← Array.getElem?_toList, hops]; simp
        have := vcOps_seq (Q := Q) (tail := [l.length]) l 0 s.nx s [] F w ρ a (fun j hj => by rw [hops, Nat.zero_add, List.getElem?_append_left hj]) h ho h0 hs (fun s' tr' F' w' ρ' a' hK hlt hs' => by
          split at hK
          · rename_i f c1 c2 hx
            have hv := hx ▸ eval_rel hs' x
            rw [wpOps_cons]
            unfold wpOp
            simp only [Array.toArray_toList, hlast, Region.wanted, h3, if_true]
            left
            unfold Oper.wp
            generalize hev : a'.eval x = v at hv
            cases hv with
            | @func _ _ _ v1 v2 q1 q2 q3 q4 =>
              have hrun : (execOp a'.eval o).run P w' = .ok (.defer { target := .fn (.func f) v2, args := v1 }) w' := by
                simp only [execOp, h1, resolve, h4, h5, hev, Deferred.ofValue]
                simp
              rw [hrun, Oper.upon_defer, h2]
              simp only [wpOps, Act.put]
              have hlt2 := env_lt hlt x
              rw [hx] at hlt2
              have hmono : s.nx + 64 * l.length ≤ s.nx + 64 * ops.toList.length := by simp [hsz]; omega
              refine hp .normal sc _ F' w' ρ' _ hK ⟨hs'.size, hs'.fr, hs'.mem, .cons ⟨f, c1, c2, v1, v2, rfl, rfl, ⟨q1, q2⟩, ⟨q3, q4⟩⟩ hs'.df, hs'.good, hs'.from0, hs'.env0⟩ ?_ (by show X.n0 ≤ s.nx + _; omega)
              have hl3 := St.lt_mono hmono hlt
              simp only [St.lt, Bool.and_eq_true] at hl3
              simp only [St.ok, Bool.and_eq_true, AVal.ltL]
              exact ⟨hl3.1, lt_mono hmono hlt2, hl3.2⟩
          · exact hK.elim)
        rw [List.range_eq_range', hsz, List.range'_concat, Nat.one_mul, Nat.zero_add]
        simpa using this
    · cases draw with
      | false =>
        have := vcOps_seq (Q := Q) (tail := []) ops.toList 0 s.nx s [] F w ρ a (by simp) h ho h0 hs (fun s' tr' F' w' ρ' a' hK hlt hs' => by simp at hK; simp only [wpOps]; exact fin s' F' w' ρ' a' (by simpa using hK) hlt hs')
        refine wp_region ?_
        rw [List.range_eq_range']
        simpa using this
      | true =>
        have := hd X ops.toList (sc.hint? id) (fun s' _ => K .normal sc { s' with nx := s.nx + 64 * ops.toList.length }) Q s.nx s F w ρ a id (vcOps_mono (fun s' tr hK => by simp at hK ⊢; exact hK) _ _ _ _ _ h) ho h0 hs (fun s' tr' F' w' ρ' a' hK hlt hs' => fin s' F' w' ρ' a' hK hlt hs')
        simpa using this
  | .seq x y, n, sc, s, K, Q, F, w, ρ, a, h, hs, ho, h0, hp => by
    simp only [vc] at h
    refine wp_seq (vc_sound hd x n sc s _ _ F w ρ a h hs ho h0 ?_)
    intro e sc' s' F' w' ρ' a' hK hs' ho' h0'
    cases e with
    | normal => exact vc_sound hd y _ sc' s' K Q F' w' ρ' a' hK hs' ho' h0' hp
    | exit id => exact hp _ sc' s' F' w' ρ' a' hK hs' ho' h0'
    | ret => exact hp _ sc' s' F' w' ρ' a' hK hs' ho' h0'
  | .cond c x y, n, sc, s, K, Q, F, w, ρ, a, h, hs, ho, h0, hp => by
    simp only [vc] at h
    have hc := eval_rel hs c
    split at h
    · rename_i he
      rw [he] at hc
      exact wp_cond_true (by generalize a.eval c = v at hc ⊢; cases hc; rfl) (vc_sound hd x n sc s K Q F w ρ a h hs ho h0 hp)
    · rename_i he
      rw [he] at hc
      exact wp_cond_false (by generalize a.eval c = v at hc ⊢; cases hc; rfl) (vc_sound hd y _ sc s K Q F w ρ a h hs ho h0 hp)
    · rename_i b he
      rw [he] at hc
      exact wp_cond_split hc.pure_inv.bool_inv (fun hb => vc_sound hd x n sc s K Q F w ρ a (h.1 hb) hs ho h0 hp) (fun hb => vc_sound hd y _ sc s K Q F w ρ a (h.2 hb) hs ho h0 hp)
    · exact h.elim
  | .block id body, n, sc, s, K, Q, F, w, ρ, a, h, hs, ho, h0, hp => by
    simp only [vc] at h
    refine wp_block (vc_sound hd body n sc s _ _ F w ρ a h hs ho h0 ?_)
    intro e sc' s' F' w' ρ' a' hK hs' ho' h0'
    cases e with
    | normal => exact hp .normal sc' s' F' w' ρ' a' hK hs' ho' h0'
    | exit j =>
      simp only at hK
      simp only [Ex.to, Exit.inBlock]
      split at hK
      · rename_i e; rw [if_pos e]; exact hp .normal sc' s' F' w' ρ' a' hK hs' ho' h0'
      · rename_i e; rw [if_neg e]; exact hp (.exit j) sc' s' F' w' ρ' a' hK hs' ho' h0'
    | ret => exact hp .ret sc' s' F' w' ρ' a' hK hs' ho' h0'
  | .loop body, n, sc, s, K, Q, F, w, ρ, a, h, hs, ho, h0, hp => by
    simp only [vc] at h
    split at h
    · rename_i k hk
      refine wp_loop' (σ := Nat) (fun j a w => ∃ sc s F ρ, unrolled (vc P X.nt X.n0 drawOk body (n + 1)) j sc s K ∧ Sat X F w ρ s a ∧ s.ok = true ∧ X.n0 ≤ s.nx) id (k + 1) ⟨sc, s, F, ρ, h, hs, ho, h0⟩ ?_
      rintro j a w ⟨sc, s, F, ρ, hu, hs, ho, h0⟩
      cases j with
      | zero => exact hu.elim
      | succ j =>
        simp only [unrolled] at hu
        refine vc_sound hd body (n + 1) sc s _ _ F w ρ a hu hs ho h0 ?_
        intro e sc' s' F' w' ρ' a' hK hs' ho' h0'
        cases e with
        | normal => exact ⟨j, ⟨sc', s', F', ρ', hK, hs', ho', h0'⟩, Nat.lt_succ_self j⟩
        | exit id => exact hp _ sc' s' F' w' ρ' a' hK hs' ho' h0'
        | ret => exact hp _ sc' s' F' w' ρ' a' hK hs' ho' h0'
    · split at h
      · rename_i L hL
        obtain ⟨hok, x0, hent, hinv, hround⟩ := h
        obtain ⟨ρ1, hs1⟩ := hent.sat hs
        refine wp_loop' (σ := L.σ) (fun x a w => ∃ F ρ, L.Inv x ∧ Sat X F w ρ (L.I x) a) L.μ x0 ⟨F, ρ1, hinv, hs1⟩ ?_
        rintro x a w ⟨F, ρ, hi, hs⟩
        refine vc_sound hd body (n + 1) (L.inner x) (L.I x) _ _ F w ρ a (hround x hi) hs (hok x).1 (hok x).2 ?_
        intro e sc' s' F' w' ρ' a' hK hs' ho' h0'
        cases e with
        | normal =>
          obtain ⟨x', he, hi', hμ⟩ := hK
          obtain ⟨ρ2, hs2⟩ := he.sat hs'
          exact ⟨x', ⟨F', ρ2, hi', hs2⟩, hμ⟩
        | exit id => exact hp _ sc' s' F' w' ρ' a' hK hs' ho' h0'
        | ret => exact hp _ sc' s' F' w' ρ' a' hK hs' ho' h0'
      · exact h.elim
  | .rangeFunc _ _ _ _, _, _, _, _, _, _, _, _, _, h, _, _, _, _ => by simp [vc] at h
  | .scope _, _, _, _, _, _, _, _, _, _, h, _, _, _, _ => by simp [vc] at h
  | .goto _, _, _, _, _, _, _, _, _, _, h, _, _, _, _ => by simp [vc] at h
  | .refuse _, _, _, _, _, _, _, _, _, _, h, _, _, _, _ => by simp [vc] at h
end Go.Abs
