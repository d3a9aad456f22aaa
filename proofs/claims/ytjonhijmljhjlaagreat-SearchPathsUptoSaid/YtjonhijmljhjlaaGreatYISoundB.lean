import Derived.Test.YtjonhijmljhjlaaGreatYISoundA
import Derived.WalkLawsBesides
open Go renaming TypeId->qr,Operand->zB,execOp->zP,run_underlying->zQ
open Go.Op renaming operands->zO
open Go.Result renaming andThen_ok->zE
open Go.Sem renaming run_bind->zF,run_pure->zG
namespace Go.Abs
variable {P:Program} {o:Oper} {env:zB->AVal} {m:Mem} {id:Nat}
theorem az5p (P:Program):20<=P.depth:=by simp[Program.depth,Made.depth];omega
theorem az11 {F:Cells}{w:World}{op:BinOp}{t:qr}{p q r:PVal}{ob:Option Prop}{v u:Value}(x y:zB)(h:az5s P op t p q=some (r,ob))(hob:holds ob)
 (hp:PRel F w p v) (hq:PRel F w q u):(eqGuard op t x y v u).run P w=.ok () w/\∃z,(binOp op t v u).run P w=.ok z w/\PRel F w r z:=by
 unfold az5s at h;split at h
 ·rename_i k a k' b;obtain rfl:=hp.int_inv;obtain rfl:=hq.int_inv;refine⟨by cases op<;>simp[eqGuard],?_⟩;cases op<;>simp only at h<;>(try(split at h))<;>(try(cases h;done))<;>(try(rename_i hk;subst hk))<;>simp only[Option.some.injEq,Prod.mk.injEq]at h<;>obtain⟨rfl,rfl⟩:=h
  all_goals simp only[holds]at hob
  all_goals first
   |(refine⟨_,?_,.int⟩;simp only[binOp,Op.intArith,ne_eq,not_true_eq_false,if_false,zG];done)
   |(refine⟨_,?_,.bool⟩;simp only[binOp,Op.intCmp,ne_eq,not_true_eq_false,if_false,zG];done)
   |(refine⟨_,?_,.int⟩;simp only[binOp,Op.intBits,ne_eq,not_true_eq_false,if_false,zG];done)
   |(refine⟨_,?_,.int⟩;simp only[binOp,Op.intDiv,ne_eq,not_true_eq_false,if_false,hob,zG];done)
   |(refine⟨_,?_,.int⟩;simp only[binOp,Op.shift,Int.not_lt.2 hob,if_false,zG];done)
 ·rename_i a b;obtain rfl:=hp.bool_inv;obtain rfl:=hq.bool_inv;split at h
  ·rename_i hu;refine⟨by cases op<;>simp[eqGuard],?_⟩;cases op<;>simp only at h<;>(try(cases h;done))<;>simp only[Option.some.injEq,Prod.mk.injEq]at h<;>obtain⟨rfl,rfl⟩:=h
   ·exact⟨_,by simp[binOp,run_equal_bool w t a b hu],.bool⟩
   ·exact⟨_,by simp only[binOp,zF,run_equal_bool w t a b hu,zE,zG],.bool⟩
  ·cases h
 ·rename_i a b;obtain rfl:=hp.str_inv;obtain rfl:=hq.str_inv;refine⟨by cases op<;>simp[eqGuard],?_⟩;cases op<;>simp only at h<;>(try(cases h;done))<;>simp only[Option.some.injEq,Prod.mk.injEq]at h<;>obtain⟨rfl,rfl⟩:=h
  ·exact⟨_,by simp only[binOp,Op.stringOp,zG,beq_toListBytes],.bool⟩
  ·exact⟨_,by simp only[binOp,Op.stringOp,zG,bne,beq_toListBytes],.bool⟩
 ·rename_i xs ys;obtain⟨vs,rfl,hl,hr⟩:=hp.agg_inv;obtain⟨us,rfl,hl',hr'⟩:=hq.agg_inv;split at h
  ·rename_i ks hks;split at h
   ·rename_i hf;simp only[Bool.and_eq_true]at hf;split at h
    ·rename_i rr hrr;obtain⟨⟨hag,hf1⟩,hf2⟩:=hf;have hag:ezo P t=some true:=by simpa using hag
     have hq:=Jzz (F:=F) (w:=w) 20 t ks hks 9980 (.agg vs) (.agg us) xs ys rr (.inl ⟨hag,vs,rfl,hl,hr⟩) (.inl ⟨hag,us,rfl,hl',hr'⟩) hf1 hf2 hrr;refine⟨run_eqGuard_agg w op t x y vs us (Hz3 20 t ks hks P.depth (az5p P)),?_⟩;cases op<;>simp only at h<;>(try(cases h;done))<;>simp only[Option.some.injEq,Prod.mk.injEq]at h<;>obtain⟨rfl,rfl⟩:=h
     ·exact⟨_,by rw[run_eql_struct,hq];rfl,.bool⟩
     ·exact⟨_,by rw[run_neq_struct,hq];rfl,.bool⟩
    ·cases h
   ·cases h
  ·cases h
 ·cases h
theorem aze5 {op:BinOp}{t t':qr}{x y:zB}{p q r:PVal}{ob:Option Prop}(ho:o.op=.binOp op t x y t')(hx:(env x).toP=some p)(hy:(env y).toP=some q)
 (h:az5s P op t p q=some (r,ob)) (hob:holds ob):Sound1 P o env m id ⟨.pure r,[],[],ob⟩:=
 Sound1.still λF w ρ Mine M a _ _ ha=>by
  obtain⟨h1,z,h2,h3⟩:=az11 (w:=w) x y h hob ((ha x (by simp[ho,zO])).toP hx) ((ha y (by simp[ho,zO])).toP hy);exact⟨z,.value (by simp only[zP,ho,zF,h1,h2,zE,zG]),.pure h3⟩
theorem azdj {t:qr}{x:zB}{b:Bool}(ho:o.op=.unOp .not t x)(hx:env x=if b then .tt else .ff):Sound1 P o env m id (.v (if b then .ff else .tt)):=
 Sound1.still λF w ρ Mine M a _ _ ha=>by
  have h1:=ha x (by simp[ho,zO]);have hv:a.eval x=.bool b:=by
   rw[hx]at h1;generalize a.eval x=u at h1⊢;cases b<;>cases h1<;>rfl
  refine⟨.bool (!b),.value (by simp[zP,ho,hv,Op.unary]),?_⟩;cases b
  ·exact .tt
  ·exact .ff
theorem s_un {op:UnOp}{t:qr}{x:zB}{p r:PVal}(ho:o.op=.unOp op t x)(hx:env x=.pure p)(h:evUn op p=some r):Sound1 P o env m id (.v (.pure r)):=
 Sound1.still λF w ρ Mine M a _ _ ha=>by
  have h1:=(hx▸ha x (by simp[ho,zO])).pure_inv;unfold evUn at h;split at h
  ·cases h;have hv:=h1.bool_inv;exact⟨_,.value (by simp only[zP,ho,hv,Op.unary,zF,zG,zE]),.pure .bool⟩
  ·cases h;have hv:=h1.int_inv;exact⟨_,.value (by simp only[zP,ho,hv,Op.unary,Op.intArith,zF,zG,zE]),.pure .int⟩
  ·cases h;have hv:=h1.int_inv;exact⟨_,.value (by simp only[zP,ho,hv,Op.unary,Op.intBits,zF,zG,zE]),.pure .int⟩
  ·cases h
theorem azdf {s d:qr}{x:zB}{p r:PVal}(ho:o.op=.convert s d x)(hs:(P.underlying s).isSome=true)(hx:(env x).toP=some p)(h:az1x P d p=some r):Sound1 P o env m id (.v (.pure r)):=
 Sound1.still λF w ρ Mine M a _ _ ha=>by
  have h1:=(ha x (by simp[ho,zO])).toP hx;obtain⟨ds,hds⟩:=Option.isSome_iff_exists.1 hs;unfold az1x at h;split at h
  ·rename_i hu;cases h;have hv:=h1.int_inv;refine⟨_,.value ?_,.pure .int⟩;simp only[zP,ho,hv,convert,zF,zQ hds,zQ hu,zE,Conv.intToInt,zG]
  ·rename_i hu;cases h;have hv:=h1.str_inv;refine⟨_,.value ?_,.pure .str⟩;simp only[zP,ho,hv,convert,zF,zQ hds,zQ hu,zE,zG]
  ·cases h
theorem Bz6 {a:Act}{w:World}{x:zB}{ts:Array qr}{n:Int}(ho:o.op=.call {callee:=.builtin .len,args:=#[x],argTypes:=ts})
 (h:(Builtin.len_ ts o.type #[a.eval x]).run P w=.ok (.int .i64 n) w):Ran P o a w (.int .i64 n) w:=by
 refine .value ?_;simp only[zP,ho,resolve,zF,zG,zE,invoke,builtin,List.map_toArray,List.map_cons,List.map_nil,h]
theorem aze7 {x:zB}{ts:Array qr}{out:Out}(ho:o.op=.call {callee:=.builtin .len,args:=#[x],argTypes:=ts})(h:Wz0 P ts (env x) m=some out):Sound1 P o env m id out:=by
 have hop:x∈o.op.operands:=by simp[ho,zO,Call.operands]
 unfold Wz0 at h;split at h
 ·rename_i t ht;split at h
  ·rename_i e sz n f hu hx;cases h;refine Sound1.still λF w ρ Mine M a _ _ ha=>⟨.int .i64 n,Bz6 ho ?_,.pure .int⟩
   rcases(hx▸ha x hop).pure_inv.lst_inv with⟨hv,hn0⟩|⟨_,_,hv,hn0,_⟩|⟨b,off,cap,c,hv,_⟩
   ·subst hn0;simp[Builtin.len_,ht,hv,zQ hu,goInt]
   ·subst hn0;simp[Builtin.len_,ht,hv,zQ hu,goInt]
   ·simp[Builtin.len_,ht,hv,zQ hu,goInt]
  ·rename_i e i n hu hx;cases h;refine Sound1.still λF w ρ Mine M a _ _ ha=>⟨.int .i64 n,Bz6 ho ?_,.pure .int⟩
   have h1:=hx▸ha x hop;generalize a.eval x=u at h1⊢;cases h1 with
   |bsl=>simp[Builtin.len_,ht,zQ hu,goInt]
  ·rename_i e i hu hx;split at h
   ·rename_i sz n f sh e' hk;cases h;refine Sound1.still λF w ρ Mine M a hm hrd ha=>⟨.int .i64 n,Bz6 ho ?_,.pure .int⟩
    have h1:=hx▸ha x hop;generalize a.eval x=u at h1⊢;rcases hm.ok i _ ((hrd i (by simp)).trans hk)with⟨_,⟨hnone,hn0⟩|⟨b',cap',c,hv',_⟩⟩
    ·subst hn0;cases h1 with
     |vec hh=>rw[hh]at hnone;cases hnone
     |vnil hh=>
      simp[Builtin.len_,ht,zQ hu,goInt]
    ·cases h1 with
     |vnil hh=>rw[hh]at hv';cases hv'
     |vec hh=>
      rw[hh]at hv';cases hv';simp[Builtin.len_,ht,zQ hu,goInt]
   ·rename_i sz n f kk e' off s' e'' hs hk;cases h;refine Sound1.still λF w ρ Mine M a hm hrd ha=>⟨.int .i64 n,Bz6 ho ?_,.pure .int⟩
    have h1:=hx▸ha x hop;generalize a.eval x=u at h1⊢;rcases hm.ok i _ ((hrd i (by simp)).trans hk)with⟨_,_,⟨hnone,hn0,_⟩|⟨b',cap',c,hv',_⟩⟩
    ·subst hn0;cases h1 with
     |vec hh=>rw[hh]at hnone;cases hnone
     |vnil hh=>
      simp[Builtin.len_,ht,zQ hu,goInt]
    ·cases h1 with
     |vnil hh=>rw[hh]at hv';cases hv'
     |vec hh=>
      rw[hh]at hv';cases hv';simp[Builtin.len_,ht,zQ hu,goInt]
   ·rename_i hk;cases h;refine Sound1.still λF w ρ Mine M a hm hrd ha=>⟨.int .i64 (0:Nat),Bz6 ho ?_,.pure .int⟩
    have h1:=hx▸ha x hop;generalize a.eval x=u at h1⊢;have hnone:ρ.vec i=none:=hm.ok i _ ((hrd i (by simp)).trans hk);cases h1 with
    |vec hh=>rw[hh]at hnone;cases hnone
    |vnil hh=>
     simp[Builtin.len_,ht,zQ hu,goInt]
   ·cases h
  ·rename_i s hu hx;cases h;refine Sound1.still λF w ρ Mine M a _ _ ha=>⟨.int .i64 s.size,Bz6 ho ?_,.pure .int⟩
   have hv:=(hx▸ha x hop).pure_inv.str_inv;simp[Builtin.len_,ht,hv,zQ hu,goInt]
  ·rename_i n e hu;cases h;refine Sound1.still λF w ρ Mine M a _ _ ha=>⟨.int .i64 n,Bz6 ho ?_,.pure .int⟩
   simp[Builtin.len_,ht,zQ hu,goInt]
  ·cases h
 ·cases h
end Go.Abs
