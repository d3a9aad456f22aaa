/-
  SoundB (a part of a claim: our own text).
-/
import Derived.Test.YtlalffdgimbodaaGreatYHSoundA
import Derived.WalkLawsBesides
namespace Go.Abs
variable {P:Program} {o:Oper} {env:Operand->AVal} {m:Mem} {id:Nat}
theorem Zzk (P:Program):20≤P.depth:=by simp[Program.depth,Made.depth];omega
theorem Vzn {F:Cells}{w:World}{op:BinOp}{t:TypeId}{p q r:PVal}{ob:Option Prop}{v u:Value}(x y:Operand)(h:Zzn P op t p q=some (r,ob))(hob:holds ob)
 (hp:PRel F w p v) (hq:PRel F w q u):(eqGuard op t x y v u).run P w=.ok () w/\∃z,(binOp op t v u).run P w=.ok z w/\PRel F w r z:=by
 unfold Zzn at h
 split at h
 ·rename_i k a k' b
  obtain rfl:=hp.int_inv
  obtain rfl:=hq.int_inv
  refine⟨by cases op<;>simp[eqGuard],?_⟩
  cases op<;>simp only at h<;>(try(split at h))<;>(try(cases h;done))<;>(try(rename_i hk;subst hk))<;>simp only[Option.some.injEq,Prod.mk.injEq]at h<;>obtain⟨rfl,rfl⟩:=h
  all_goals simp only[holds]at hob
  all_goals first
   |(refine⟨_,?_,.int⟩;simp only[binOp,Op.intArith,ne_eq,not_true_eq_false,if_false,Sem.run_pure];done)
   |(refine⟨_,?_,.bool⟩;simp only[binOp,Op.intCmp,ne_eq,not_true_eq_false,if_false,Sem.run_pure];done)
   |(refine⟨_,?_,.int⟩;simp only[binOp,Op.intBits,ne_eq,not_true_eq_false,if_false,Sem.run_pure];done)
   |(refine⟨_,?_,.int⟩;simp only[binOp,Op.intDiv,ne_eq,not_true_eq_false,if_false,hob,Sem.run_pure];done)
   |(refine⟨_,?_,.int⟩;simp only[binOp,Op.shift,Int.not_lt.2 hob,if_false,Sem.run_pure];done)
 ·rename_i a b
  obtain rfl:=hp.bool_inv
  obtain rfl:=hq.bool_inv
  split at h
  ·rename_i hu
   refine⟨by cases op<;>simp[eqGuard],?_⟩
   cases op<;>simp only at h<;>(try(cases h;done))<;>simp only[Option.some.injEq,Prod.mk.injEq]at h<;>obtain⟨rfl,rfl⟩:=h
   ·exact⟨_,by simp[binOp,run_equal_bool w t a b hu],.bool⟩
   ·exact⟨_,by simp only[binOp,Sem.run_bind,run_equal_bool w t a b hu,Result.andThen_ok,Sem.run_pure],.bool⟩
  ·cases h
 ·rename_i a b
  obtain rfl:=hp.str_inv
  obtain rfl:=hq.str_inv
  refine⟨by cases op<;>simp[eqGuard],?_⟩
  cases op<;>simp only at h<;>(try(cases h;done))<;>simp only[Option.some.injEq,Prod.mk.injEq]at h<;>obtain⟨rfl,rfl⟩:=h
  ·exact⟨_,by simp only[binOp,Op.stringOp,Sem.run_pure,beq_toListBytes],.bool⟩
  ·exact⟨_,by simp only[binOp,Op.stringOp,Sem.run_pure,bne,beq_toListBytes],.bool⟩
 ·rename_i xs ys
  obtain⟨vs,rfl,hl,hr⟩:=hp.agg_inv
  obtain⟨us,rfl,hl',hr'⟩:=hq.agg_inv
  split at h
  ·rename_i ks hks
   split at h
   ·rename_i hf
    simp only[Bool.and_eq_true]at hf
    split at h
    ·rename_i rr hrr
     obtain⟨⟨hag,hf1⟩,hf2⟩:=hf
     have hag:ez0 P t=some true:=by simpa using hag
     have hq:=Gzo (F:=F) (w:=w) 20 t ks hks 9980 (.agg vs) (.agg us) xs ys rr (.inl ⟨hag,vs,rfl,hl,hr⟩) (.inl ⟨hag,us,rfl,hl',hr'⟩) hf1 hf2 hrr
     refine⟨run_eqGuard_agg w op t x y vs us (Dzy 20 t ks hks P.depth (Zzk P)),?_⟩
     cases op<;>simp only at h<;>(try(cases h;done))<;>simp only[Option.some.injEq,Prod.mk.injEq]at h<;>obtain⟨rfl,rfl⟩:=h
     ·exact⟨_,by rw[run_eql_struct,hq];rfl,.bool⟩
     ·exact⟨_,by rw[run_neq_struct,hq];rfl,.bool⟩
    ·cases h
   ·cases h
  ·cases h
 ·cases h
theorem az74 {op:BinOp}{t t':TypeId}{x y:Operand}{p q r:PVal}{ob:Option Prop}(ho:o.op=.binOp op t x y t')(hx:(env x).toP=some p)(hy:(env y).toP=some q)
 (h:Zzn P op t p q=some (r,ob)) (hob:holds ob):Sound1 P o env m id ⟨.pure r,[],[],ob⟩:=
 Sound1.still fun F w ρ Mine M a _ _ ha=>by
  obtain⟨h1,z,h2,h3⟩:=Vzn (w:=w) x y h hob ((ha x (by simp[ho,Op.operands])).toP hx) ((ha y (by simp[ho,Op.operands])).toP hy)
  exact⟨z,.value (by simp only[execOp,ho,Sem.run_bind,h1,h2,Result.andThen_ok,Sem.run_pure]),.pure h3⟩
theorem az6l {t:TypeId}{x:Operand}{b:Bool}(ho:o.op=.unOp .not t x)(hx:env x=if b then .tt else .ff):Sound1 P o env m id (.v (if b then .ff else .tt)):=
 Sound1.still fun F w ρ Mine M a _ _ ha=>by
  have h1:=ha x (by simp[ho,Op.operands])
  have hv:a.eval x=.bool b:=by
   rw[hx]at h1
   generalize a.eval x=u at h1⊢
   cases b<;>cases h1<;>rfl
  refine⟨.bool (!b),.value (by simp[execOp,ho,hv,Op.unary]),?_⟩
  cases b
  ·exact .tt
  ·exact .ff
theorem s_un {op:UnOp}{t:TypeId}{x:Operand}{p r:PVal}(ho:o.op=.unOp op t x)(hx:env x=.pure p)(h:evUn op p=some r):Sound1 P o env m id (.v (.pure r)):=
 Sound1.still fun F w ρ Mine M a _ _ ha=>by
  have h1:=(hx▸ha x (by simp[ho,Op.operands])).pure_inv
  unfold evUn at h
  split at h
  ·cases h
   have hv:=h1.bool_inv
   exact⟨_,.value (by simp only[execOp,ho,hv,Op.unary,Sem.run_bind,Sem.run_pure,Result.andThen_ok]),.pure .bool⟩
  ·cases h
   have hv:=h1.int_inv
   exact⟨_,.value (by simp only[execOp,ho,hv,Op.unary,Op.intArith,Sem.run_bind,Sem.run_pure,Result.andThen_ok]),.pure .int⟩
  ·cases h
   have hv:=h1.int_inv
   exact⟨_,.value (by simp only[execOp,ho,hv,Op.unary,Op.intBits,Sem.run_bind,Sem.run_pure,Result.andThen_ok]),.pure .int⟩
  ·cases h
theorem az6h {s d:TypeId}{x:Operand}{p r:PVal}(ho:o.op=.convert s d x)(hs:(P.underlying s).isSome=true)(hx:(env x).toP=some p)(h:Wzc P d p=some r):Sound1 P o env m id (.v (.pure r)):=
 Sound1.still fun F w ρ Mine M a _ _ ha=>by
  have h1:=(ha x (by simp[ho,Op.operands])).toP hx
  obtain⟨ds,hds⟩:=Option.isSome_iff_exists.1 hs
  unfold Wzc at h
  split at h
  ·rename_i hu
   cases h
   have hv:=h1.int_inv
   refine⟨_,.value ?_,.pure .int⟩
   simp only[execOp,ho,hv,convert,Sem.run_bind,run_underlying hds,run_underlying hu,Result.andThen_ok,Conv.intToInt,Sem.run_pure]
  ·rename_i hu
   cases h
   have hv:=h1.str_inv
   refine⟨_,.value ?_,.pure .str⟩
   simp only[execOp,ho,hv,convert,Sem.run_bind,run_underlying hds,run_underlying hu,Result.andThen_ok,Sem.run_pure]
  ·cases h
theorem yzi {a:Act}{w:World}{x:Operand}{ts:Array TypeId}{n:Int}(ho:o.op=.call {callee:=.builtin .len,args:=#[x],argTypes:=ts})
 (h:(Builtin.len_ ts o.type #[a.eval x]).run P w=.ok (.int .i64 n) w):Ran P o a w (.int .i64 n) w:=by
 refine .value ?_
 simp only[execOp,ho,resolve,Sem.run_bind,Sem.run_pure,Result.andThen_ok,invoke,builtin,List.map_toArray,List.map_cons,List.map_nil,h]
theorem az76 {x:Operand}{ts:Array TypeId}{out:Out}(ho:o.op=.call {callee:=.builtin .len,args:=#[x],argTypes:=ts})(h:Rzb P ts (env x) m=some out):Sound1 P o env m id out:=by
 have hop:x∈o.op.operands:=by simp[ho,Op.operands,Call.operands]
 unfold Rzb at h
 split at h
 ·rename_i t ht
  split at h
  ·rename_i e sz n f hu hx
   cases h
   refine Sound1.still fun F w ρ Mine M a _ _ ha=>⟨.int .i64 n,yzi ho ?_,.pure .int⟩
   rcases(hx▸ha x hop).pure_inv.lst_inv with⟨hv,hn0⟩|⟨_,_,hv,hn0,_⟩|⟨b,off,cap,c,hv,_⟩
   ·subst hn0
    simp[Builtin.len_,ht,hv,run_underlying hu,goInt]
   ·subst hn0
    simp[Builtin.len_,ht,hv,run_underlying hu,goInt]
   ·simp[Builtin.len_,ht,hv,run_underlying hu,goInt]
  ·rename_i e i n hu hx
   cases h
   refine Sound1.still fun F w ρ Mine M a _ _ ha=>⟨.int .i64 n,yzi ho ?_,.pure .int⟩
   have h1:=hx▸ha x hop
   generalize a.eval x=u at h1⊢
   cases h1 with
   |bsl=>simp[Builtin.len_,ht,run_underlying hu,goInt]
  ·rename_i e i hu hx
   split at h
   ·rename_i sz n f sh e' hk
    cases h
    refine Sound1.still fun F w ρ Mine M a hm hrd ha=>⟨.int .i64 n,yzi ho ?_,.pure .int⟩
    have h1:=hx▸ha x hop
    generalize a.eval x=u at h1⊢
    rcases hm.ok i _ ((hrd i (by simp)).trans hk)with⟨_,⟨hnone,hn0⟩|⟨b',cap',c,hv',_⟩⟩
    ·subst hn0
     cases h1 with
     |vec hh=>rw[hh]at hnone;cases hnone
     |vnil hh=>
      simp[Builtin.len_,ht,run_underlying hu,goInt]
    ·cases h1 with
     |vnil hh=>rw[hh]at hv';cases hv'
     |vec hh=>
      rw[hh]at hv';cases hv'
      simp[Builtin.len_,ht,run_underlying hu,goInt]
   ·rename_i sz n f kk e' off s' e'' hs hk
    cases h
    refine Sound1.still fun F w ρ Mine M a hm hrd ha=>⟨.int .i64 n,yzi ho ?_,.pure .int⟩
    have h1:=hx▸ha x hop
    generalize a.eval x=u at h1⊢
    rcases hm.ok i _ ((hrd i (by simp)).trans hk)with⟨_,_,⟨hnone,hn0,_⟩|⟨b',cap',c,hv',_⟩⟩
    ·subst hn0
     cases h1 with
     |vec hh=>rw[hh]at hnone;cases hnone
     |vnil hh=>
      simp[Builtin.len_,ht,run_underlying hu,goInt]
    ·cases h1 with
     |vnil hh=>rw[hh]at hv';cases hv'
     |vec hh=>
      rw[hh]at hv';cases hv'
      simp[Builtin.len_,ht,run_underlying hu,goInt]
   ·rename_i hk
    cases h
    refine Sound1.still fun F w ρ Mine M a hm hrd ha=>⟨.int .i64 (0:Nat),yzi ho ?_,.pure .int⟩
    have h1:=hx▸ha x hop
    generalize a.eval x=u at h1⊢
    have hnone:ρ.vec i=none:=hm.ok i _ ((hrd i (by simp)).trans hk)
    cases h1 with
    |vec hh=>rw[hh]at hnone;cases hnone
    |vnil hh=>
     simp[Builtin.len_,ht,run_underlying hu,goInt]
   ·cases h
  ·rename_i s hu hx
   cases h
   refine Sound1.still fun F w ρ Mine M a _ _ ha=>⟨.int .i64 s.size,yzi ho ?_,.pure .int⟩
   have hv:=(hx▸ha x hop).pure_inv.str_inv
   simp[Builtin.len_,ht,hv,run_underlying hu,goInt]
  ·rename_i n e hu
   cases h
   refine Sound1.still fun F w ρ Mine M a _ _ ha=>⟨.int .i64 n,yzi ho ?_,.pure .int⟩
   simp[Builtin.len_,ht,run_underlying hu,goInt]
  ·cases h
 ·cases h
end Go.Abs
