/-
  SoundT (a part of a claim: our own text).
-/
import Derived.Test.YtkjkbdobenmgbaaGreatXNSoundR
namespace Go.Abs
variable {P : Program} {o : Oper} {env : Operand → AVal} {m : Mem} {id : Nat}
theorem zz9 {t : TypeId} {x i : Operand} {out : Out} (ho : o.op = .indexAddr t x i) (h : szu P t (env x) (env i) m = some out) (hob : holds out.obl) : Sound1 P o env m id out := by cases (show none = some _ from h)
theorem Izw {t : TypeId} {x : Operand} {out : Out} (ho : o.op = .load t x) (h : Czw P t id (env x) m = some out) (hob : holds out.obl) : Sound1 P o env m id out := by cases (show none = some _ from h)
theorem Gzo {t : TypeId} {x y : Operand} {out : Out} (ho : o.op = .store t x y) (h : Bz1 P t (env x) (env y) m = some out) (hob : holds out.obl) : Sound1 P o env m id out := by cases (show none = some _ from h)
theorem zz8 {t : TypeId} {x i : Operand} {out : Out} (ho : o.op = .indexAddr t x i) (h : ozr P t (env x) (env i) = some out) (hob : holds out.obl) : Sound1 P o env m id out := by
  unfold ozr at h
  split at h
  · rename_i k n ik iv hx hi
    split at h
    · rename_i e hu
      split at h
      · rename_i hs
        simp at h; subst h
        obtain ⟨h0, hn⟩ := hob
        refine Sound1.still fun F w ρ Mine M a hm hrd ha => ?_
        have hiv := (hi ▸ ha i (by simp [ho, Op.operands])).pure_inv.int_inv
        have h1 := ha x (by simp [ho, Op.operands])
        rw [hx] at h1
        generalize hu' : a.eval x = u at h1
        cases h1 with
        | bsl =>
          refine ⟨.pointer (some ⟨ρ.blk k, iv.toNat, none⟩), .value ?_, .ptr⟩
          simp only [execOp, ho, Instr.indexAt, Sem.run_bind, hiv, hu', asIntOf, Sem.run_pure, Result.andThen_ok, run_underlying hu]
          simp [h0, hn, dz1 hs, gzb]
      · cases h
    · cases h
  · cases h
theorem Izu {t : TypeId} {x : Operand} {out : Out} (ho : o.op = .makeInterface t x) (h : zzy P t (env x) = some out) : Sound1 P o env m id out := by
  unfold zzy at h
  split at h
  · rename_i d hu
    split at h
    · cases h
    · rename_i hd
      cases h
      refine Sound1.still fun F w ρ Mine M a hm hrd ha => ⟨.iface t (a.eval x), .value ?_, .iface (ha x (by simp [ho, Op.operands]))⟩
      simp only [execOp, ho, Instr.makeInterface, Sem.run_bind, run_underlying hu, Result.andThen_ok]
      cases d <;> first | (simp only [Sem.run_pure, Result.andThen_ok]; done) | skip
      exact absurd rfl hd
  · cases h
theorem Gzc {x : Operand} {xt asserted : TypeId} {ok : Bool} {out : Out} (ho : o.op = .typeAssert x xt asserted ok) (h : wzm P (env x) asserted ok = some out) : Sound1 P o env m id out := by
  unfold wzm at h
  split at h
  · rename_i t r d hx hu
    split at h
    · cases h
    · rename_i hd
      have run : ∀ {a : Act} {w : World} {v u : Value}, a.eval x = .iface t v →
          (if t = asserted then (pure (if ok = true then .tuple #[v, .bool true] else v) : Sem Value) else (if ok = true then do pure (.tuple #[← zeroValue asserted, .bool false]) else runtimePanic (.typeAssertion (some xt) (some t) asserted ""))).run P w = .ok u w → Ran P o a w u w := by
        intro a w v u hv hr
        refine .value ?_
        simp only [execOp, ho, Instr.typeAssert, Sem.run_bind, run_underlying hu, Result.andThen_ok, hv]
        cases d <;> first | exact absurd rfl hd | (simp only [hr, Result.andThen_ok, Sem.run_pure])
      split at h
      · rename_i he
        cases h
        refine Sound1.still fun F w ρ Mine M a hm hrd ha => ?_
        have h1 := ha x (by simp [ho, Op.operands])
        rw [hx] at h1
        generalize hu' : a.eval x = u at h1
        cases h1 with
        | iface hr =>
          rename_i v
          cases ok with
          | true =>
            refine ⟨.tuple #[v, .bool true], run hu' (by rw [if_pos he]; rfl), .tup rfl fun j b u hb hu => ?_⟩
            match j with
            | 0 => simp at hb hu; subst hb; subst hu; exact hr
            | 1 => simp at hb hu; subst hb; subst hu; exact .tt
            | j + 2 => simp at hb
          | false => exact ⟨v, run hu' (by rw [if_pos he]; rfl), hr⟩
      · rename_i he
        split at h
        · rename_i hok
          split at h
          · rename_i i hi
            split at h
            · rename_i z hz
              cases h
              subst hok
              refine Sound1.still fun F w ρ Mine M a hm hrd ha => ?_
              have h1 := ha x (by simp [ho, Op.operands])
              rw [hx] at h1
              generalize hu' : a.eval x = u at h1
              cases h1 with
              | iface hr =>
                refine ⟨.tuple #[z, .bool false], run hu' ?_, .tup rfl fun j b u hb hu => ?_⟩
                · rw [if_neg he, if_pos rfl]
                  simp [zeroValue, typeInfo, hi, hz]
                · match j with
                  | 0 => simp at hb hu; subst hb; subst hu; exact szb z
                  | 1 => simp at hb hu; subst hb; subst hu; exact .ff
                  | j + 2 => simp at hb
            · cases h
          · cases h
        · cases h
  · cases h
theorem xzg {t : TypeId} {len : Nat} {parts : Array (Nat × Operand)} {out : Out} (ho : o.op = .buildSlice t len parts) (h : rz8 P t len id env parts.toList = some out) : Sound1 P o env m id out := by cases (show none = some _ from h)
theorem zzb {t : TypeId} {x i : Operand} {out : Out} (ho : o.op = .indexAddr t x i) (h : szv P t (env x) (env i) m = some out) (hob : holds out.obl) : Sound1 P o env m id out := by cases (show none = some _ from h)
theorem Izx {t : TypeId} {x : Operand} {out : Out} (ho : o.op = .load t x) (h : Czx P t (env x) m = some out) (hob : holds out.obl) : Sound1 P o env m id out := by cases (show none = some _ from h)
theorem Gzp {t : TypeId} {x y : Operand} {out : Out} (ho : o.op = .store t x y) (h : Bz2 P t (env x) (env y) m = some out) (hob : holds out.obl) : Sound1 P o env m id out := by cases (show none = some _ from h)
theorem Gzn {t : TypeId} {x y : Operand} {out : Out} (ho : o.op = .store t x y) (h : wzt P t (env x) (env y) m = some out) : Sound1 P o env m id out := by
  unfold wzt at h
  split at h
  · rename_i j off k hx hy
    split at h
    · rename_i cs sz n f sh e hj hk
      split at h
      · rename_i hcell
        split at h
        · rename_i hc
          simp only [Bool.and_eq_true, decide_eq_true_eq, bne_iff_ne, ne_eq] at hc
          obtain ⟨⟨hs, _⟩, hjk⟩ := hc
          cases h
          have hoff : off + 1 ≤ cs.length := (List.getElem?_eq_some_iff.1 hcell).1
          classical
          obtain ⟨env', he'⟩ : ∃ env' : Operand → AVal, env' = fun z => if z = y then .pure (.lst sz n f) else env z := ⟨_, rfl⟩
          have hey : env' y = .pure (.lst sz n f) := by rw [he']; simp
          have hxy : x ≠ y := fun e1 => by rw [e1, hy] at hx; cases hx
          have hex : env' x = .ptr j off := by rw [he']; simp [hxy, hx]
          have hsh : azv m [k] = [(k, .vec sz n f n e)] := by simp [azv, hk]
          have hj' : Mem.get ([(k, Res.vec sz n f n e)] ++ m) j = some (.box cs) := by simp [Mem.get, Ne.symm hjk, hj]
          have hev : qzr P t (env' x) (env' y) ([(k, Res.vec sz n f n e)] ++ m) = some ⟨.any, [j], [(j, .box (cs.take off ++ [.pure (.lst sz n f)] ++ cs.drop (off + 1)))], none⟩ := by
            rw [hex, hey]
            unfold qzr
            simp only [hs, AVal.cells, List.length_singleton, if_true, hj']
            simp [AVal.scalar, hoff]
          have key := xzi (P := P) (id := id) (env := env') (m := [(k, Res.vec sz n f n e)] ++ m) ho hev trivial
          intro F w ρ Mine M a hm g fr hrd hfe ha
          have hMk := (hrd k (by simp)).trans hk
          have hMj := (hrd j (by simp)).trans hj
          obtain ⟨st, hm1⟩ := nzz (m := m) hm g (is := [k]) (fun i hi => by simp at hi; subst hi; exact hrd i (by simp))
          rw [hsh] at hm1
          have hp := jz4 (m := m) hm g (a := .vec k) (p := .lst sz n f) (is := [k]) (js := [k]) (by simp [pz9, Ez5, hk]) (fun _ h => h) (fun i hi => by simp at hi; subst hi; exact hrd i (by simp)) (hy ▸ ha y (by simp [ho, Op.operands]))
          have fr1 : Fresh id ([(k, Res.vec sz n f n e)] ++ M) := by
            refine ⟨fun i hi => ?_, fun i q r hi hq => ?_⟩
            · rw [Mem.get_append]
              by_cases e1 : k = i
              · subst e1; rw [fr.none k hi] at hMk; cases hMk
              · simp [Mem.get, e1, fr.none i hi]
            · rw [Mem.get_append] at hq
              by_cases e1 : k = q
              · subst e1; simp [Mem.get] at hq; subst hq; rfl
              · simp [Mem.get, e1] at hq; exact fr.has i q r hi hq
          obtain ⟨v, w', F', ρ', k1, k2, k3, k4, k5⟩ := key (eze F w ρ m [k]) w ρ Mine _ a hm1 (st.good g) fr1 (fun i hi => by
              simp at hi; subst hi
              simp [Mem.get, Ne.symm hjk, hMj, hj]) (fun z hz i hi => by
            rw [he']
            by_cases e1 : z = y
            · simp [e1, AVal.has]
            · simp only [if_neg e1]; exact hfe z hz i hi) (fun z hz => by
            rw [he']
            by_cases e1 : z = y
            · simp only [if_pos e1]; rw [e1]; exact .pure hp
            · simp only [if_neg e1]; exact (ha z hz).mono' st.sub st.cell)
          exact ⟨v, w', F', ρ', k1, st.trans k2, k3, k4, by simpa using k5⟩
        · cases h
      · cases h
    · cases h
  · cases h
theorem Bze {m : Mem} : ∀ {vs ds : List AVal}, (purC m vs ds).length = vs.length ∧ ∀ (j : Nat) (b : AVal), (purC m vs ds)[j]? = some b →
    ∃ a, vs[j]? = some a ∧ (b = a ∨ ∃ p is, pz9 m a = some (p, is) ∧ (∀ i ∈ is, i ∈ purI m vs ds) ∧ b = .pure p)
  | [], ds => by cases ds <;> simp [purC]
  | a :: l, [] => ⟨rfl, fun j b h => ⟨b, h, .inl rfl⟩⟩
  | a :: l, d :: ds => by
    obtain ⟨h1, h2⟩ := Bze (m := m) (vs := l) (ds := ds)
    refine ⟨by simp [purC, h1], fun j b h => ?_⟩
    cases j with
    | zero =>
      simp only [purC, List.getElem?_cons_zero, Option.some.injEq] at h
      refine ⟨a, by simp, ?_⟩
      subst h
      have hin : ∀ i ∈ (pur1 m a d).2, i ∈ purI m (a :: l) (d :: ds) := fun i hi => by simp only [purI]; exact List.mem_append_left _ hi
      generalize hq : pur1 m a d = q at hin ⊢
      unfold pur1 at hq
      split at hq
      · split at hq
        · rename_i p is hp
          subst hq
          exact .inr ⟨p, is, hp, hin, rfl⟩
        · subst hq; exact .inl rfl
      · subst hq; exact .inl rfl
    | succ j =>
      simp only [purC, List.getElem?_cons_succ] at h ⊢
      obtain ⟨a', q1, q2⟩ := h2 j b h
      exact ⟨a', q1, q2.imp (fun h => h) fun ⟨p, is, r2, r3, r4⟩ => ⟨p, is, r2, fun i hi => by simp only [purI]; exact List.mem_append_right _ (r3 i hi), r4⟩⟩
theorem Gzm {t : TypeId} {x y : Operand} {out : Out} (ho : o.op = .store t x y) (h : wzs P t (env x) (env y) m = some out) (hob : holds out.obl) : Sound1 P o env m id out := by
  classical
  unfold wzs at h
  split at h
  · rename_i j off vs hx hy
    split at h
    · rename_i cs hj
      split at h
      · cases h
      · split at h
        · rename_i out0 hs
          cases h
          generalize hids : purI m vs (cs.drop off) = ids at *
          obtain ⟨env', he'⟩ : ∃ env' : Operand → AVal, env' = fun z => if z = y then .agg (purC m vs (cs.drop off)) else env z := ⟨_, rfl⟩
          have hey : env' y = .agg (purC m vs (cs.drop off)) := by rw [he']; simp
          have hxy : x ≠ y := fun e1 => by rw [e1, hy] at hx; cases hx
          have hex : env' x = .ptr j off := by rw [he']; simp [hxy, hx]
          have key := xzi (P := P) (id := id) (env := env') (m := azv m ids ++ m) (out := out0) ho (by rw [hex, hey]; exact hs) hob
          intro F w ρ Mine M a hm g fr hrd hfe ha
          obtain ⟨hlen, hget⟩ := Bze (m := m) (vs := vs) (ds := cs.drop off)
          rw [hids] at hget
          have hrd1 : ∀ i ∈ ids, M.get i = m.get i := fun i hi => hrd i (List.mem_append_left _ hi)
          obtain ⟨st, hm1⟩ := nzz (m := m) hm g (is := ids) hrd1
          have fr1 : Fresh id (azv m ids ++ M) := by
            refine ⟨fun i hi => ?_, fun i j r hi hj => ?_⟩
            · rw [Mem.get_append]
              cases hg : (azv m ids).get i with
              | none => simpa using fr.none i hi
              | some r =>
                obtain ⟨q1, r0, q2, _⟩ := dz8 hg
                have := fr.none i hi
                rw [hrd1 i q1, q2] at this; cases this
            · rw [Mem.get_append] at hj
              cases hg : (azv m ids).get j with
              | none => rw [hg] at hj; exact fr.has i j r hi (by simpa using hj)
              | some r' =>
                rw [hg] at hj
                simp at hj; subst hj
                obtain ⟨q1, r0, q2, q3⟩ := dz8 hg
                exact rz2 q3 i
          obtain ⟨v, w', F', ρ', k1, k2, k3, k4, k5⟩ := key (eze F w ρ m ids) w ρ Mine (azv m ids ++ M) a hm1 (st.good g) fr1 (fun i hi => by
            rw [Mem.get_append, Mem.get_append, hrd i (List.mem_append_right _ hi)]) (fun z hz i hi => by
            rw [he']
            by_cases e1 : z = y
            · simp only [if_pos e1, AVal.has]
              have h0 := hfe z hz i hi
              rw [e1, hy] at h0
              simp only [AVal.has] at h0
              have all : ∀ (l : List AVal), (∀ (j : Nat) (b : AVal), l[j]? = some b → b.has i = false) → AVal.hasL i l = false := by
                intro l
                induction l with
                | nil => intro _; rfl
                | cons b l ih => intro h; simp only [AVal.hasL, Bool.or_eq_false_iff]; exact ⟨h 0 b (by simp), ih fun j c hc => h (j + 1) c (by simpa using hc)⟩
              refine all _ fun j' b hb => ?_
              obtain ⟨a', q1, q2⟩ := hget j' b hb
              rcases q2 with rfl | ⟨_, _, _, _, rfl⟩
              · exact kzl h0 q1
              · rfl
            · simp only [if_neg e1]; exact hfe z hz i hi) (fun z hz => by
            rw [he']
            by_cases e1 : z = y
            · simp only [if_pos e1]
              have h0 := ha z hz
              rw [e1, hy] at h0
              rw [e1]
              generalize a.eval y = u at h0
              cases h0 with
              | agg hl hr =>
                refine .agg (by omega) fun j' b v hb hv => ?_
                obtain ⟨a', q1, q2⟩ := hget j' b hb
                have h3 := hr j' a' v q1 hv
                rcases q2 with rfl | ⟨p, is, hp, hin, rfl⟩
                · exact h3.mono' st.sub st.cell
                · exact .pure (jz4 hm g hp hin (fun i hi => hrd1 i (hin i hi)) h3)
            · simp only [if_neg e1]; exact (ha z hz).mono' st.sub st.cell)
          exact ⟨v, w', F', ρ', k1, st.trans k2, k3, k4, by simpa [List.append_assoc] using k5⟩
        · cases h
    · cases h
  · cases h
theorem rz3 {F : Cells} {w : World} {ρ : Env} : ∀ (l : List Value), (mzn l).length = l.length ∧ ∀ (j : Nat) (a : AVal) (v : Value), (mzn l)[j]? = some a → l[j]? = some v → ARel F w ρ a v
  | [] => by simp [mzn]
  | x :: l => by
    have ih := rz3 (F := F) (w := w) (ρ := ρ) l
    have key : ∀ (hd : AVal), ARel F w ρ hd x → (hd :: mzn l).length = (x :: l).length ∧ ∀ (j : Nat) (a : AVal) (v : Value), (hd :: mzn l)[j]? = some a → (x :: l)[j]? = some v → ARel F w ρ a v := by
      intro hd hhd
      refine ⟨by simp [ih.1], fun j a v ha hv => ?_⟩
      cases j with
      | zero => simp at ha hv; subst ha; subst hv; exact hhd
      | succ j => exact ih.2 j a v (by simpa using ha) (by simpa using hv)
    unfold mzn
    split
    · rename_i e; cases e
    · rename_i e; cases e; exact key _ (.pure .nil)
    · rename_i e; cases e; exact key _ (fzl _)
theorem Gza {e : TypeId} {out : Out} (ho : o.op = .alloc e) (h : wzk P e id = some out) : Sound1 P o env m id out := by
  unfold wzk at h
  split at h
  · rename_i z hz
    split at h
    · rename_i h1
      cases h
      intro F w ρ Mine M a hm g fr _ hfe ha
      obtain ⟨v, hv, hvz⟩ := xzf (P := P) (w := w) hz
      have hsz : v.cells.size = z.length := by rw [← hvz]; simp
      obtain ⟨F', ρ', st, he, hb, hm'⟩ := Dzu hm g fr e v.cells (mzn z) []
        (fun i r h => by simp [Mem.get] at h)
        (by rw [hsz]; exact (rz3 (F := F) (w := w) (ρ := ρ) z).1)
        (fun F' w' ρ' hF hw he hvn j y u hy hu => by
          have hu' : z[j]? = some u := by rw [← hvz]; simpa using hu
          exact ⟨(rz3 (F := F') (w := w') (ρ := ρ') z).2 j y u hy hu', List.all_eq_true.1 h1 u (List.mem_of_getElem? hu')⟩)
      refine ⟨.pointer (some ⟨w.heap.size, 0, none⟩), w.alloc (.cells v.cells e), F', ρ', .value ?_, st, he, ?_, by simpa using hm'⟩
      · simp [execOp, ho, Instr.alloc, newVar, newRow, hv]
      · rw [← hb]; exact .ptr
    · cases h
  · cases h
end Go.Abs
