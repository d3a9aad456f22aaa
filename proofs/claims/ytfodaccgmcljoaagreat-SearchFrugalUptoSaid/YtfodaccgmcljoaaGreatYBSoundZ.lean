/-
 SoundZ (a part of a claim: our own text).
-/
import Derived.Test.YtfodaccgmcljoaaGreatYBSoundY
import Derived.Laws.CopyRow
namespace Go.Abs
variable {P : Program} {o : Oper} {env : Operand -> AVal} {m : Mem} {id : Nat}
theorem Pzo {t : TypeId} {x : Operand} {lo hi mx : Option Operand} {out : Out} (ho : o.op = .slice t x lo hi mx)
 (h : Jzc P t (env x) (lo.map env) (hi.map env) (mx.map env) = some out) : Sound1 P o env m id out := by cases (show none = some _ from h)
theorem Szf {d s : Operand} {ts : Array TypeId} {out : Out} (ho : o.op = .call { callee := .builtin .copy, args := #[d, s], argTypes := ts }) (hts : ts.size = 2)
 (h : Lzk P ts (env d) (env s) m = some out) : Sound1 P o env m id out := by cases (show none = some _ from h)
theorem Uz8 {x : Operand} {ts : Array TypeId} {out : Out} (ho : o.op = .call { callee := .builtin .len, args := #[x], argTypes := ts }) (h : Lzl P ts (env x) = some out) : Sound1 P o env m id out := by
 have hop : x ∈ o.op.operands := by simp [ho, Op.operands, Call.operands]
 unfold Lzl at h
 split at h
 ·rename_i i sz lo n t hx ht
  split at h
  ·rename_i e hu
   cases h
   refine Sound1.still fun F w ρ Mine M a _ _ ha => ⟨.int .i64 n, vz8 ho ?_, .pure .int⟩
   have h1 := hx ▸ ha x hop
   generalize a.eval x = u at h1 ⊢
   cases h1 with
   | view => simp [Builtin.len_, ht, run_underlying hu, goInt]
   | viewN hh hn => subst hn; simp [Builtin.len_, ht, run_underlying hu, goInt]
  ·cases h
 ·cases h
theorem Gzw {t : TypeId} {x i : Operand} {out : Out} (ho : o.op = .indexAddr t x i) (h : rzn P t (env x) (env i) = some out) (hob : holds out.obl) : Sound1 P o env m id out := by
 unfold rzn at h
 split at h
 ·rename_i k sz lo n ik iv hx hi
  split at h
  ·rename_i e hu
   split at h
   ·rename_i hs
    cases h
    obtain ⟨h0, hn⟩ := hob
    refine Sound1.still fun F w ρ Mine M a _ _ ha => ?_
    have hiv : a.eval i = .int ik iv := (hi ▸ ha i (by simp [ho, Op.operands])).pure_inv.int_inv
    have h1 := ha x (by simp [ho, Op.operands])
    rw [hx] at h1
    generalize hu' : a.eval x = u at h1
    cases h1 with
    | viewN hh hn' => omega
    | @view _ _ _ _ b n0 cap ad hh hle had =>
      have had := had (.inl (by omega))
      subst had
      refine ⟨.pointer (some ⟨b, (lo + iv.toNat) * sz + 0, none⟩), .value ?_, .eptr hh⟩
      simp only [execOp, ho, Instr.indexAt, Sem.run_bind, hiv, hu', asIntOf, Sem.run_pure, Result.andThen_ok, run_underlying hu]
      simp [h0, hn, czy hs, fzv, Nat.add_mul]
   ·cases h
  ·cases h
 ·cases h
theorem Nzi {t : TypeId} {x : Operand} {lo hi mx : Option Operand} {out : Out} (ho : o.op = .slice t x lo hi mx)
 (h : Fzg P t (env x) (lo.map env) (hi.map env) (mx.map env) m = some out) (hob : holds out.obl) : Sound1 P o env m id out := by cases (show none = some _ from h)
end Go.Abs
