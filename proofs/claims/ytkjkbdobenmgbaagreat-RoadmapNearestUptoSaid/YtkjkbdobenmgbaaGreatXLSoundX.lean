/-
  SoundX (a part of a claim: our own text).
-/
import Derived.Test.YtkjkbdobenmgbaaGreatXLSoundT
namespace Go.Abs
variable {P : Program} {o : Oper} {env : Operand → AVal} {m : Mem} {id : Nat}
theorem holed_len {f : Nat → PVal} {h off sz : Nat} (hl : (f h).cells.length = sz) (ho : off < sz) : ((f h).cells.take off ++ [PVal.unk] ++ (f h).cells.drop (off + 1)).length = (f h).cells.length := by
  have := over_length (f h).cells [PVal.unk] off (by simp; omega)
  simpa using this
theorem holed_cells {f : Nat → PVal} {h off sz : Nat} (hl : (f h).cells.length = sz) (ho : off < sz) : (holed f h off .unk h).cells = (f h).cells.take off ++ [PVal.unk] ++ (f h).cells.drop (off + 1) := by
  simp only [holed, if_true]
  refine mkElem_cells (holed_len hl ho).symm (fun hsc => ?_)
  have h1 := PVal.cells_scalar hsc
  rw [h1] at hl ⊢
  obtain rfl : off = 0 := by simp at hl; omega
  simp [PVal.scalar]
theorem over_over {α : Type} {A B : List α} {u v : α} {off : Nat} (h : A.length = off) : (A ++ [u] ++ B).take off ++ [v] ++ (A ++ [u] ++ B).drop (off + 1) = A ++ [v] ++ B := by
  subst h
  simp [List.take_append, List.drop_append]
theorem mkElem_mkElem (x : PVal) {cs ds : List PVal} (h1 : x.cells.length = cs.length) (h2 : cs.length = ds.length) (h3 : ∀ l, (∀ l, x ≠ .agg l) → cs = [PVal.agg l] → False) : mkElem (mkElem x cs) ds = mkElem x ds := by
  cases x with
  | agg l => rfl
  | _ =>
    simp only [PVal.cells, List.length_cons, List.length_nil] at h1
    match cs, ds, h1, h2 with
    | [q], [r], _, _ => cases q <;> first | rfl | exact (h3 _ (by simp) rfl).elim
theorem holed_holed {f : Nat → PVal} {h off sz : Nat} (hl : (f h).cells.length = sz) (ho : off < sz) : holed (holed f h off .unk) h off .unk = holed f h off .unk := by
  funext j
  by_cases e : j = h
  · subst e
    have hc := holed_cells hl ho
    have hlen := holed_len hl ho
    have hto : ((f j).cells.take off).length = off := by simp; omega
    show (if j = j then mkElem (holed f j off .unk j) ((holed f j off .unk j).cells.take off ++ [PVal.unk] ++ (holed f j off .unk j).cells.drop (off + 1)) else _) = _
    rw [if_pos rfl, hc, over_over hto]
    simp only [holed, if_true]
    refine mkElem_mkElem _ hlen.symm rfl (fun l hx hcs => ?_)
    have h1 : (f j).cells = [f j] := by
      cases hfj : f j with
      | agg l' => exact (hx l' hfj).elim
      | _ => rfl
    rw [h1] at hl hcs
    obtain rfl : off = 0 := by simp at hl; omega
    simp at hcs
  · simp only [holed, if_neg e]
theorem MemOk.unX {F : Cells} {w : World} {ρ : Env} {Mine : Nat → Prop} {M : Mem} {j sz n hh off k : Nat} {f : Nat → PVal} {e : TypeId} (hm : MemOk F w ρ Mine M) (hj : M.get j = some (.vecX sz n f e hh off k)) :
    MemOk F w ρ Mine ((j, .vec sz n (holed f hh off .unk) 0 e) :: M) := by
  have hget : ∀ i r, Mem.get ((j, Res.vec sz n (holed f hh off .unk) 0 e) :: M) i = some r → (i = j ∧ r = .vec sz n (holed f hh off .unk) 0 e) ∨ M.get i = some r := by
    intro i r h
    rw [Mem.get] at h
    split at h
    · rename_i e1; cases h; exact .inl ⟨e1.symm, rfl⟩
    · exact .inr h
  have hown : ∀ i r, Mem.get ((j, Res.vec sz n (holed f hh off .unk) 0 e) :: M) i = some r → ∃ r', M.get i = some r' ∧ ∀ b, Owns w ρ i r b → Owns w ρ i r' b := by
    intro i r h
    rcases hget i r h with ⟨rfl, rfl⟩ | h
    · exact ⟨_, hj, fun b hb => hb⟩
    · exact ⟨r, h, fun b hb => hb⟩
  refine ⟨fun i r h => ?_, fun i r b h hb => ?_, fun i i' r r' b h h' hb hb' => ?_⟩
  · rcases hget i r h with ⟨rfl, rfl⟩ | h
    · exact (hm.ok _ _ hj).1
    · exact hm.ok _ _ h
  · obtain ⟨r', q1, q2⟩ := hown i r h; exact hm.mine _ _ _ q1 (q2 b hb)
  · obtain ⟨r1, q1, q2⟩ := hown i r h
    obtain ⟨r2, q3, q4⟩ := hown i' r' h'
    exact hm.disj _ _ _ _ b q1 q3 (q2 b hb) (q4 b hb')
theorem MemOk.sameX {F : Cells} {w : World} {ρ : Env} {Mine : Nat → Prop} {M : Mem} {j sz n hh off k : Nat} {f : Nat → PVal} {e : TypeId} {r0 : Res}
    (hm : MemOk F w ρ Mine ([(j, .vecX sz n (holed f hh off .unk) e hh off k)] ++ ((j, r0) :: M))) (hl : (f hh).cells.length = sz) (ho : off < sz) :
    MemOk F w ρ Mine ([(j, .vecX sz n f e hh off k)] ++ M) := by
  have hj : Mem.get ([(j, Res.vecX sz n (holed f hh off .unk) e hh off k)] ++ ((j, r0) :: M)) j = some (.vecX sz n (holed f hh off .unk) e hh off k) := by simp [Mem.get]
  have hget : ∀ i r, Mem.get ([(j, Res.vecX sz n f e hh off k)] ++ M) i = some r → (i = j ∧ r = .vecX sz n f e hh off k) ∨ Mem.get ([(j, Res.vecX sz n (holed f hh off .unk) e hh off k)] ++ ((j, r0) :: M)) i = some r := by
    intro i r h
    simp only [List.cons_append, List.nil_append, Mem.get] at h ⊢
    split at h
    · rename_i e1; cases h; exact .inl ⟨e1.symm, rfl⟩
    · rename_i e1; rw [if_neg e1, if_neg e1]; exact .inr h
  have hown : ∀ i r, Mem.get ([(j, Res.vecX sz n f e hh off k)] ++ M) i = some r → ∃ r', Mem.get ([(j, Res.vecX sz n (holed f hh off .unk) e hh off k)] ++ ((j, r0) :: M)) i = some r' ∧ ∀ b, Owns w ρ i r b → Owns w ρ i r' b := by
    intro i r h
    rcases hget i r h with ⟨rfl, rfl⟩ | h
    · exact ⟨_, hj, fun b hb => hb⟩
    · exact ⟨r, h, fun b hb => hb⟩
  refine ⟨fun i r h => ?_, fun i r b h hb => ?_, fun i i' r r' b h h' hb hb' => ?_⟩
  · rcases hget i r h with ⟨rfl, rfl⟩ | h
    · obtain ⟨h0, b, cap, c, q1, q2, q3, q4, _, q5⟩ := hm.ok _ _ hj
      rw [holed_holed hl ho] at h0
      exact ⟨h0, b, cap, c, q1, q2, q3, q4, hl, q5⟩
    · exact hm.ok _ _ h
  · obtain ⟨r', q1, q2⟩ := hown i r h; exact hm.mine _ _ _ q1 (q2 b hb)
  · obtain ⟨r1, q1, q2⟩ := hown i r h
    obtain ⟨r2, q3, q4⟩ := hown i' r' h'
    exact hm.disj _ _ _ _ b q1 q3 (q2 b hb) (q4 b hb')
theorem s_storeX2 {t : TypeId} {x y : Operand} {out : Out} (ho : o.op = .store t x y) (h : evStoreX2 P t (env x) (env y) m = some out) (hob : holds out.obl) : Sound1 P o env m id out := by
  unfold evStoreX2 at h
  split at h
  · rename_i j sz hh off k hx hy
    split at h
    · rename_i sz' n f e h' off' k0 sz2 n2 f2 sh2 e2 hj hk
      split at h
      · rename_i hc
        simp only [Bool.and_eq_true, decide_eq_true_eq, bne_iff_ne, ne_eq] at hc
        obtain ⟨⟨⟨hs, rfl⟩, rfl⟩, hjk⟩ := hc
        cases h
        obtain rfl : hh = h' := hob
        intro F w ρ Mine M a hm g fr hrd hfe ha
        have hM := (hrd j (by simp)).trans hj
        obtain ⟨hv0, b, cap, c, q1, q2, hlt, hoff, hl, q5⟩ := hm.ok j _ hM
        have hlen : (holed f hh off .unk hh).cells.length = sz := by rw [holed_cells hl hoff, holed_len hl hoff, hl]
        have hev : evStoreX P t (env x) (env y) ((j, .vec sz n (holed f hh off .unk) 0 e) :: m) = some ⟨.any, [j, k], [(j, .vecX sz n (holed f hh off .unk) e hh off k)], some (hh < n)⟩ := by
          unfold evStoreX
          rw [hx, hy]
          have h1 : Mem.get ((j, Res.vec sz n (holed f hh off .unk) 0 e) :: m) j = some (.vec sz n (holed f hh off .unk) 0 e) := by simp [Mem.get]
          have h2 : Mem.get ((j, Res.vec sz n (holed f hh off .unk) 0 e) :: m) k = some (.vec sz2 n2 f2 sh2 e2) := by simp [Mem.get, hjk, hk]
          simp only [h1, h2]
          rw [if_pos (by simp [hs, hjk, hlen]; omega)]
        have fr' : Fresh id ((j, Res.vec sz n (holed f hh off .unk) 0 e) :: M) := by
          refine ⟨fun i hi => ?_, fun i i' r hi h => ?_⟩
          · have hne : j ≠ i := fun e1 => by have := fr.none i hi; rw [← e1, hM] at this; cases this
            simp only [Mem.get, if_neg hne]; exact fr.none i hi
          · rw [Mem.get] at h
            split at h
            · cases h; rfl
            · exact fr.has i i' r hi h
        obtain ⟨v, w', F', ρ', k1, k2, k3, k4, k5⟩ := s_storeX (id := id) ho hev hlt F w ρ Mine _ a (MemOk.unX hm hM) g fr' (fun i hi => by
          by_cases e1 : j = i
          · subst e1; simp [Mem.get]
          · simp only [Mem.get, if_neg e1]; exact hrd i hi) hfe ha
        exact ⟨v, w', F', ρ', k1, k2, k3, k4, MemOk.sameX k5 hl hoff⟩
      · cases h
    · cases h
  · cases h
theorem run_buildSlice1 {t e : TypeId} {s : Nat} {x : Operand} {parts : Array (Nat × Operand)} {zl : List Value} {a : Act} {w : World} (ho : o.op = .buildSlice t 1 parts) (hp : parts.toList = [(0, x)]) (hu : P.underlying t = some (.slice e)) (hs : tySize P e = some s) (hs1 : 1 ≤ s) (hs2 : s ≤ 16777216) (hzl : tyZero P e = some zl) (hc : (a.eval x).cells.size = s) :
    ∃ A : Array Value, (execOp a.eval o).run P w = .ok (.value (.slice (some ⟨w.heap.size, 0, none⟩) 1 1)) (w.alloc (.cells A e)) ∧ ∀ j, j < s → A[j]? = (a.eval x).cells[j]? := by
  obtain ⟨zv, hzv, _⟩ := run_zero (P := P) (w := w) hzl
  obtain ⟨A, f1, f2, f3, f4⟩ := fill_order s [a.eval x] 0 ((Array.range (1 * s)).map (zv.cells[· % zv.cells.size]!)) (by simpa using hc) (by simp)
  refine ⟨A, ?_, fun j hj => by simpa using f4 0 (a.eval x) (by simp) j hj⟩
  have f1' : Instr.fill (fun i => some (i * s, s)) ((Array.range (1 * s)).map (zv.cells[· % zv.cells.size]!)) [(0, a.eval x)] = some A := by simpa using f1
  simp only [execOp, ho, Instr.buildSlice, Sem.run_bind, run_underlying hu, Result.andThen_ok, run_size hs]
  rw [if_neg (by omega), if_neg (by omega)]
  have hm : (Array.map (fun (y : Nat × Operand) => (y.1, a.eval y.2)) parts).toList = [(0, a.eval x)] := by simp [hp]
  simp only [Sem.run_bind, hzv, Sem.run_pure, Result.andThen_ok]
  simp only [hm, f1', newRow, Sem.run_bind, run_newObj, Result.andThen_ok, Sem.run_pure]
  rfl
theorem s_buildSliceX {t : TypeId} {len : Nat} {parts : Array (Nat × Operand)} {out : Out} (ho : o.op = .buildSlice t len parts) (h : evBuildSliceX P t len id env m parts.toList = some out) : Sound1 P o env m id out := by
  unfold evBuildSliceX at h
  split at h
  · rename_i e x hu hp
    split at h
    · rename_i s cs hs hx
      split at h
      · rename_i off hoff
        split at h
        · rename_i k ps hk hps
          split at h
          · rename_i hkm
            split at h
            · rename_i hc
              simp only [Bool.and_eq_true, decide_eq_true_eq] at hc
              obtain ⟨⟨⟨⟨⟨rfl, hl⟩, hall⟩, hs1⟩, hs2⟩, hzz⟩ := hc
              obtain ⟨zl, hzl⟩ := Option.isSome_iff_exists.1 hzz
              cases h
              classical
              obtain ⟨env', he'⟩ : ∃ env' : Operand → AVal, env' = fun z => if z = x then .pure (.agg ps) else env z := ⟨_, rfl⟩
              have hex : env' x = .pure (.agg ps) := by rw [he']; simp
              have hev : evBuildSlice P t 1 id env' m parts.toList = some ⟨.vec id, [], [(id, .vec s 1 (lget [.agg ps]) 0 e)], none⟩ := by
                unfold evBuildSlice
                simp only [hp, hu, hs, inOrder, if_true, hex, purifyAll, purify, pure1, AVal.toP]
                rw [if_pos (by simp [PVal.cells, hl, hs1, hs2, hzz]; simpa using hall)]
                rfl
              obtain ⟨hal, hag⟩ := allP_get hps
              have hlen : cs.length = s := by rw [← hl, ← hal]; simp
              have hofl : off < cs.length := (List.getElem?_eq_some_iff.1 hk).1
              intro F w ρ Mine M a hm g fr hrd hfe ha
              have hax := hx ▸ ha x (by simp [ho, Op.operands]; exact ⟨0, by rw [← Array.mem_toList_iff, hp]; simp⟩)
              have hM := (hrd k (by simp)).trans hkm
              have hkn : ρ.vec k = none := hm.ok k _ hM
              generalize hu' : a.eval x = u at hax
              cases hax with
              | agg hvl hva =>
                rename_i vs
                have hvk : vs[off]? = some (.slice none 0 0) := by
                  have h1 : vs[off]? = some (vs[off]'(by omega)) := by simp
                  have h2 := sliceV_eq (hva off _ _ hk h1)
                  rw [hkn] at h2
                  rw [h1, h2]; rfl
                have hrel : PRel F w (.agg ps) (.agg vs) := by
                  refine .agg (by rw [hl, ← hvl, hlen]) (fun j p v hp hv => ?_)
                  obtain ⟨b, hb, hbp⟩ := hag j p hp
                  by_cases e1 : off = j
                  · subst e1
                    rw [List.getElem?_set_self hofl] at hb
                    cases hb
                    simp [AVal.toP] at hbp
                    subst hbp
                    rw [hvk] at hv
                    cases hv
                    exact .unk rfl
                  · rw [List.getElem?_set_ne e1] at hb
                    exact (hva j b v hb hv).toP hbp
                obtain ⟨A, hrun, hA⟩ := run_buildSlice1 (P := P) (a := a) (w := w) ho hp hu hs hs1 hs2 hzl (by rw [hu']; simp [Value.cells]; omega)
                obtain ⟨v, w', F', ρ', k1, k2, k3, k4, k5⟩ := s_buildSlice (P := P) (id := id) (env := env') ho hev F w ρ Mine M a hm g fr (fun i hi => by simp at hi) (fun z hz i hi => by
                  rw [he']
                  by_cases e1 : z = x
                  · simp [e1, AVal.has]
                  · simp only [if_neg e1]; exact hfe z hz i hi) (fun z hz => by
                  rw [he']
                  by_cases e1 : z = x
                  · subst e1; simp only [if_true]; rw [hu']; exact .pure hrel
                  · simp only [if_neg e1]; exact ha z hz)
                have hvw : v = .slice (some ⟨w.heap.size, 0, none⟩) 1 1 ∧ w' = w.alloc (.cells A e) := by
                  rcases k1 with k1 | ⟨k1, _⟩
                  · rw [hrun] at k1; cases k1; exact ⟨rfl, rfl⟩
                  · rw [hrun] at k1; cases k1
                obtain ⟨rfl, rfl⟩ := hvw
                have hvid : ρ'.vec id = some (w.heap.size, 1, 1) := by
                  cases k4 with
                  | vec hh => exact hh
                have hvk' : ρ'.vec k = none := by
                  rw [(k3 k (fun ho => by have := fr.none k ho; rw [hM] at this; cases this)).2]; exact hkn
                have hpo : ps[off]? = some .unk := by
                  have h1 : ps[off]? = some (ps[off]'(by omega)) := by simp
                  obtain ⟨b, hb, hbp⟩ := hag off _ h1
                  rw [List.getElem?_set_self hofl] at hb
                  cases hb
                  simp [AVal.toP] at hbp
                  rw [h1, ← hbp]
                have hsp : ps.take off ++ [PVal.unk] ++ ps.drop (off + 1) = ps := by
                  apply List.ext_getElem?
                  intro j
                  have h1 := over_get ps [PVal.unk] off j (by simp; omega)
                  simp only [List.length_singleton] at h1
                  rw [h1]
                  by_cases e1 : off = j
                  · subst e1; rw [if_pos (by omega)]; simp [hpo]
                  · rw [if_neg (by omega)]
                have hf : holed (lget [PVal.agg ps]) 0 off .unk = lget [PVal.agg ps] := by
                  funext j
                  cases j with
                  | zero =>
                    show mkElem (.agg ps) (ps.take off ++ [PVal.unk] ++ ps.drop (off + 1)) = .agg ps
                    rw [hsp]; rfl
                  | succ j => rfl
                refine ⟨_, _, F', ρ', k1, k2, k3, k4, MemOk.setX (by rw [hf]; exact k5) ⟨w.heap.size, 1, A, hvid, heap_alloc_new w _, by omega, by omega, hl, ?_⟩⟩
                rw [hvk', Nat.zero_mul, Nat.zero_add, hA off (by omega), hu']
                exact hvk
            · cases h
          · cases h
        · cases h
      · cases h
    · cases h
  · cases h
theorem zcellsM_rel {F : Cells} {w : World} {ρ : Env} : ∀ (l : List Value) (k id : Nat), (∀ i, id ≤ i → i < id + l.length → ρ.vec i = none) →
    (zcellsM k id l).length = l.length ∧ ∀ (j : Nat) (a : AVal) (v : Value), (zcellsM k id l)[j]? = some a → l[j]? = some v → ARel F w ρ a v
  | [], k, id, _ => by simp [zcellsM]
  | x :: l, k, id, h => by
    have ih := zcellsM_rel (F := F) (w := w) (ρ := ρ) l (k / 2) (id + 1) (fun i h1 h2 => h i (by omega) (by simp; omega))
    have key : ∀ (hd : AVal), ARel F w ρ hd x → (hd :: zcellsM (k / 2) (id + 1) l).length = (x :: l).length ∧ ∀ (j : Nat) (a : AVal) (v : Value), (hd :: zcellsM (k / 2) (id + 1) l)[j]? = some a → (x :: l)[j]? = some v → ARel F w ρ a v := by
      intro hd hhd
      refine ⟨by simp [ih.1], fun j a v ha hv => ?_⟩
      cases j with
      | zero => simp at ha hv; subst ha; subst hv; exact hhd
      | succ j => exact ih.2 j a v (by simpa using ha) (by simpa using hv)
    unfold zcellsM
    split
    · rename_i e; cases e
    · rename_i e
      cases e
      refine key _ ?_
      split
      · exact .pure .nil
      · exact .vnil (h id (Nat.le_refl _) (by simp))
    · rename_i e; cases e; exact key _ (constCell_rel _)
theorem s_allocM {e : TypeId} {k : Nat} {out : Out} (ho : o.op = .alloc e) (h : evAllocM P k e id = some out) : Sound1 P o env m id out := by
  unfold evAllocM at h
  split at h
  · rename_i z hz
    split at h
    · rename_i h1
      simp only [Bool.and_eq_true, decide_eq_true_eq] at h1
      obtain ⟨hlen, h1⟩ := h1
      cases h
      intro F w ρ Mine M a hm g fr _ hfe ha
      obtain ⟨v, hv, hvz⟩ := run_zero (P := P) (w := w) hz
      have hsz : v.cells.size = z.length := by rw [← hvz]; simp
      obtain ⟨F', ρ', st, he, hb, hm'⟩ := newBox hm g fr e v.cells (zcellsM k (id + 1) z) (zmem (id + 1) z)
        (fun i r h => by obtain ⟨q1, q2, q3⟩ := zmem_get z (id + 1) i r h; exact ⟨q1, by omega, by omega⟩)
        (by rw [hsz]; exact (zcellsM_rel (F := F) (w := w) (ρ := ρ.clear id) z k (id + 1) (fun i h1 h2 => if_pos ⟨by omega, by omega⟩)).1)
        (fun F' w' ρ' hF hw he hvn j y u hy hu => by
          have := (zcellsM_rel (F := F') (w := w') (ρ := ρ') z k (id + 1) (fun i h1 h2 => hvn i ⟨by omega, by omega⟩)).2 j y u hy
          have hu' : z[j]? = some u := by rw [← hvz]; simpa using hu
          exact ⟨this hu', List.all_eq_true.1 h1 u (List.mem_of_getElem? hu')⟩)
      refine ⟨.pointer (some ⟨w.heap.size, 0, none⟩), w.alloc (.cells v.cells e), F', ρ', .value ?_, st, he, ?_, by simpa using hm'⟩
      · simp [execOp, ho, Instr.alloc, newVar, newRow, hv]
      · rw [← hb]; exact .ptr
    · cases h
  · cases h
end Go.Abs
