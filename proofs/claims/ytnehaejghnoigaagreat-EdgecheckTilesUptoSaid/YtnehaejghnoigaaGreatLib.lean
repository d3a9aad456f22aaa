/-
  Lemmas for conditions: when one abstract value or resource is another; lists.
-/
import Derived.Test.YtnehaejghnoigaaGreatGuard
namespace Go.Abs

theorem ASub.of_eq {a b : AVal} (h : a = b) : ASub a b := h ▸ ASub.refl a
theorem ASub.any {a : AVal} : ASub a .any := ⟨fun _ _ _ _ _ => .any⟩
theorem ASub.tt {b : Bool} (h : b = true) : ASub .tt (.pure (.bool b)) := ⟨fun _ _ _ v hv => by cases hv; rw [h]; exact .pure .bool⟩
theorem ASub.ff {b : Bool} (h : b = false) : ASub .ff (.pure (.bool b)) := ⟨fun _ _ _ v hv => by cases hv; rw [h]; exact .pure .bool⟩

/-- Equal pure data. -/
theorem ASub.p {p q : PVal} (h : p = q) : ASub (.pure p) (.pure q) := h ▸ ASub.refl _

theorem PSub.refl (p : PVal) : PSub p p := ⟨fun _ _ _ h => h⟩
theorem PSub.of_eq {p q : PVal} (h : p = q) : PSub p q := h ▸ PSub.refl p
theorem PSub.a {p q : PVal} (h : PSub p q) : ASub (.pure p) (.pure q) := ⟨fun F w _ v hv => .pure (h.rel F w v hv.pure_inv)⟩

theorem PSub.lst {sz n n' : Nat} {f g : Nat → PVal} (hn : n = n') (h : ∀ i, i < n → f i = g i) : PSub (.lst sz n f) (.lst sz n' g) := by
  subst hn
  refine ⟨fun F w v hv => ?_⟩
  cases hv with
  | nil => exact .nil
  | emp hq => exact .emp hq
  | sl c h1 h2 h3 h4 h5 => exact .sl c h1 h2 (fun i hi => by rw [← h i hi]; exact h3 i hi) (fun i j p hi hp => h4 i j p hi (by rw [h i hi]; exact hp)) (fun i j p hi hp => h5 i j p hi (by rw [h i hi]; exact hp))

theorem PSub.nil {sz sz' n n' : Nat} {f g : Nat → PVal} (hn : n = 0) (hn' : n' = 0) : PSub (.lst sz n f) (.lst sz' n' g) := by
  subst hn; subst hn'
  refine ⟨fun F w v hv => ?_⟩
  cases hv with
  | nil => exact .nil
  | emp hq => exact .emp hq
  | sl c h1 h2 h3 h4 h5 => exact .sl c h1 h2 (fun i hi => by omega) (fun i j p hi hp => by omega) (fun i j p hi hp => by omega)

def PSubs : List PVal → List PVal → Prop
  | [], [] => True
  | a :: l, b :: l' => PSub a b ∧ PSubs l l'
  | _, _ => False

theorem PSubs.get : ∀ {l l' : List PVal}, PSubs l l' → l.length = l'.length ∧ ∀ (j : Nat) (q : PVal), l'[j]? = some q → ∃ p, l[j]? = some p ∧ PSub p q
  | [], [], _ => ⟨rfl, by simp⟩
  | [], _ :: _, h => h.elim
  | _ :: _, [], h => h.elim
  | a :: l, b :: l', h => by
    obtain ⟨h1, h2⟩ := PSubs.get h.2
    refine ⟨by simp [h1], fun j q hq => ?_⟩
    cases j with
    | zero => simp at hq; subst hq; exact ⟨a, by simp, h.1⟩
    | succ j => obtain ⟨p, hp, hs⟩ := h2 j q (by simpa using hq); exact ⟨p, by simpa using hp, hs⟩

theorem PSub.agg {l l' : List PVal} (h : PSubs l l') : PSub (.agg l) (.agg l') := by
  obtain ⟨h1, h2⟩ := h.get
  refine ⟨fun F w v hv => ?_⟩
  cases hv with
  | agg hl hr =>
    refine .agg (by omega) (fun j q u hq hu => ?_)
    obtain ⟨p, hp, hs⟩ := h2 j q hq
    exact hs.rel F w u (hr j p u hp hu)

theorem ASub.agg {l l' : List AVal} (h : ASubs l l') : ASub (.agg l) (.agg l') := by
  refine ⟨fun F w ρ v hv => ?_⟩
  obtain ⟨h1, h2⟩ := asubs_rel (F := F) (w := w) (ρ := ρ) h
  cases hv with
  | agg hl hr =>
    refine .agg (by omega) (fun j q u hq hu => ?_)
    obtain ⟨p, hp, hs⟩ := h2 j q hq
    exact hs u (hr j p u hp hu)

theorem spec_of {P : Program} {f : FuncId} {fn : Func} {drawOk : List Oper → List Eff → Bool} {n0 k : Nat} {args : List AVal} {m : Mem} {res : AVal} {m' : Mem} (sc : Scr) (hd : DrawSound P drawOk)
    (hf : P.funcs[f]? = some fn) (hb : fn.body.isSome = true) (hname : (fn.name == "runtime.NumGoroutine") = false) (h : vcFunc P drawOk fn (fn.body.getD .skip) n0 k sc args m res m') : Spec P f k args m res m' := by
  obtain ⟨b, hb'⟩ := Option.isSome_iff_exists.1 hb
  rw [hb'] at h
  exact spec_of_vc hd hf hb' hname h

/-! ### Resources -/
theorem RSub.refl (r : Res) : RSub r r := ⟨fun _ _ _ _ h => ⟨h, fun _ h => h⟩⟩
theorem RSub.of_eq {r r' : Res} (h : r = r') : RSub r r' := h ▸ RSub.refl r
theorem RSub.gone {r : Res} : RSub r .gone := ⟨fun _ _ _ _ _ => ⟨trivial, fun _ h => by simp [Owns, Inner, blockOf] at h⟩⟩

theorem RSub.vec {sz n n' k k' : Nat} {f g : Nat → PVal} {e : TypeId} (hn : n = n') (hk : k ≤ k') (hk' : k' ≤ n) (h : ∀ i, i < n → f i = g i) : RSub (.vec sz n f k e) (.vec sz n' g k' e) := by
  subst hn
  refine ⟨fun F w ρ id hr => ⟨?_, fun b hb => hb⟩⟩
  obtain ⟨_, hr⟩ := hr
  refine ⟨hk', ?_⟩
  rcases hr with h1 | ⟨b, cap, c, h1, h2, h3, h4, h5, h6, h7, h8⟩
  · exact .inl h1
  · refine .inr ⟨b, cap, c, h1, h2, h3, h4, h5, fun o ho => Nat.lt_of_lt_of_le (h6 o ho) (Nat.mul_le_mul_right _ hk), fun i hi => by rw [← h i hi]; exact h7 i hi, fun i j p hi hp => h8 i j p hi (by rw [h i hi]; exact hp)⟩

theorem RSub.nilv {sz n k : Nat} {g : Nat → PVal} {e : TypeId} (hn : n = 0) (hk : k = 0) : RSub .nilv (.vec sz n g k e) := by
  subst hn; subst hk
  exact ⟨fun F w ρ id hr => ⟨⟨Nat.le_refl _, .inl ⟨hr, rfl⟩⟩, fun b hb => by simp [Owns, Inner, blockOf, show ρ.vec id = none from hr] at hb⟩⟩

theorem RSub.box {cs ds : List AVal} (h : ASubs cs ds) : RSub (.box cs) (.box ds) := by
  refine ⟨fun F w ρ id hr => ⟨?_, fun b hb => hb⟩⟩
  obtain ⟨c, e, h1, h2, h3, h4⟩ := hr
  obtain ⟨q1, q2⟩ := asubs_rel (F := F) (w := w) (ρ := ρ) h
  refine ⟨c, e, h1, by omega, h3, fun j a v ha hv => ?_⟩
  obtain ⟨b, hb, hs⟩ := q2 j a ha
  obtain ⟨r1, r2⟩ := h4 j b v hb hv
  exact ⟨hs v r1, r2⟩

theorem RSub.map {tm : List PVal} {dom dom' : List PVal → Bool} {val val' : List PVal → PVal} (h : ∀ p, alikeL tm p = true → dom p = dom' p ∧ val p = val' p) : RSub (.map tm dom val) (.map tm dom' val') := by
  refine ⟨fun F w ρ id hr => ⟨?_, fun b hb => hb⟩⟩
  obtain ⟨es, clock, h1, h2, h3, h4, h5⟩ := hr
  refine ⟨es, clock, h1, h2, h3, fun p hp hf => by rw [← (h p hp).1]; exact h4 p hp hf, fun p v hp hf => ?_⟩
  obtain ⟨q1, q2⟩ := h5 p v hp hf
  exact ⟨by rw [← (h p hp).1]; exact q1, by rw [← (h p hp).2]; exact q2⟩

/-! ### Lists -/
variable {α : Type} [Inhabited α]

/-- The elements of a list, encoded. -/
def el (enc : α → PVal) (l : List α) : Nat → PVal := fun i => enc (l.getD i default)

/-- A list as pure data. -/
def encL (sz : Nat) (enc : α → PVal) (l : List α) : PVal := .lst sz l.length (el enc l)

theorem el_get {enc : α → PVal} {l : List α} {i : Nat} (h : i < l.length) : el enc l i = enc l[i] := by simp [el, h]

omit [Inhabited α] in theorem getD_left {l l' : List α} {i : Nat} {d : α} (h : i < l.length) : (l ++ l').getD i d = l.getD i d := by
  simp [List.getD_eq_getElem?_getD, List.getElem?_append_left h]
omit [Inhabited α] in theorem getD_right {l l' : List α} {i : Nat} {d : α} (h : l.length ≤ i) : (l ++ l').getD i d = l'.getD (i - l.length) d := by
  simp [List.getD_eq_getElem?_getD, List.getElem?_append_right h]

theorem app_el {enc : α → PVal} {l l' : List α} {i : Nat} : appF l.length (el enc l) (el enc l') i = el enc (l ++ l') i := by
  simp only [appF, el]
  split
  · rename_i h1; rw [getD_left h1]
  · rename_i h1; rw [getD_right (by omega)]

theorem app_one {enc : α → PVal} {l : List α} {x : α} {p : PVal} (hp : p = enc x) {i : Nat} (h : i < l.length + 1) : appF l.length (el enc l) (lget [p]) i = el enc (l ++ [x]) i := by
  simp only [appF, el, lget]
  split
  · rename_i h1; rw [getD_left h1]
  · rename_i h1
    have : i = l.length := by omega
    subst this
    simp [hp]
end Go.Abs
