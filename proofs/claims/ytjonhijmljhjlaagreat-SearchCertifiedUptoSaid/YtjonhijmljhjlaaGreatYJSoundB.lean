import Derived.Test.YtjonhijmljhjlaaGreatYJSoundA
import Derived.WalkLawsBesides
open Go renaming TypeId->qq,Operand->zI,execOp->zW,run_underlying->zX
open Go.Op renaming operands->zV
open Go.Result renaming andThen_ok->zL
open Go.Sem renaming run_bind->zM,run_pure->zN
namespace Go.Abs
variable {P:Program} {o:Oper} {env:zI->AVal} {m:Mem} {id:Nat}
theorem az4c (P:Program):20<=P.depth:=by simp[Program.depth,Made.depth];omega
theorem az0c {F:Cells}{w:World}{op:BinOp}{t:qq}{p q r:PVal}{ob:Option Prop}{v u:Value}(x y:zI)(h:az4h P op t p q=some (r,ob))(hob:holds ob)
 (hp:PRel F w p v) (hq:PRel F w q u):(eqGuard op t x y v u).run P w=.ok () w/\∃z,(binOp op t v u).run P w=.ok z w/\PRel F w r z:=by
 unfold az4h at h;split at h
 ·rename_i k a k' b;obtain rfl:=hp.int_inv;obtain rfl:=hq.int_inv;refine⟨by cases op<;>simp[eqGuard],?_⟩;cases op<;>simp only at h<;>(try(split at h))<;>(try(cases h;done))<;>(try(rename_i hk;subst hk))<;>simp only[Option.some.injEq,Prod.mk.injEq]at h<;>obtain⟨rfl,rfl⟩:=h
  all_goals simp only[holds]at hob
  all_goals first
   |(refine⟨_,?_,.int⟩;simp only[binOp,Op.intArith,ne_eq,not_true_eq_false,if_false,zN];done)
   |(refine⟨_,?_,.bool⟩;simp only[binOp,Op.intCmp,ne_eq,not_true_eq_false,if_false,zN];done)
   |(refine⟨_,?_,.int⟩;simp only[binOp,Op.intBits,ne_eq,not_true_eq_false,if_false,zN];done)
   |(refine⟨_,?_,.int⟩;simp only[binOp,Op.intDiv,ne_eq,not_true_eq_false,if_false,hob,zN];done)
   |(refine⟨_,?_,.int⟩;simp only[binOp,Op.shift,Int.not_lt.2 hob,if_false,zN];done)
 ·rename_i a b;obtain rfl:=hp.bool_inv;obtain rfl:=hq.bool_inv;split at h
  ·rename_i hu;refine⟨by cases op<;>simp[eqGuard],?_⟩;cases op<;>simp only at h<;>(try(cases h;done))<;>simp only[Option.some.injEq,Prod.mk.injEq]at h<;>obtain⟨rfl,rfl⟩:=h
   ·exact⟨_,by simp[binOp,run_equal_bool w t a b hu],.bool⟩
   ·exact⟨_,by simp only[binOp,zM,run_equal_bool w t a b hu,zL,zN],.bool⟩
  ·cases h
 ·rename_i a b;obtain rfl:=hp.str_inv;obtain rfl:=hq.str_inv;refine⟨by cases op<;>simp[eqGuard],?_⟩;cases op<;>simp only at h<;>(try(cases h;done))<;>simp only[Option.some.injEq,Prod.mk.injEq]at h<;>obtain⟨rfl,rfl⟩:=h
  ·exact⟨_,by simp only[binOp,Op.stringOp,zN,beq_toListBytes],.bool⟩
  ·exact⟨_,by simp only[binOp,Op.stringOp,zN,bne,beq_toListBytes],.bool⟩
 ·rename_i xs ys;obtain⟨vs,rfl,hl,hr⟩:=hp.agg_inv;obtain⟨us,rfl,hl',hr'⟩:=hq.agg_inv;split at h
  ·rename_i ks hks;split at h
   ·rename_i hf;simp only[Bool.and_eq_true]at hf;split at h
    ·rename_i rr hrr;obtain⟨⟨hag,hf1⟩,hf2⟩:=hf;have hag:ezx P t=some true:=by simpa using hag
     have hq:=Jzv (F:=F) (w:=w) 20 t ks hks 9980 (.agg vs) (.agg us) xs ys rr (.inl ⟨hag,vs,rfl,hl,hr⟩) (.inl ⟨hag,us,rfl,hl',hr'⟩) hf1 hf2 hrr;refine⟨run_eqGuard_agg w op t x y vs us (Hz3 20 t ks hks P.depth (az4c P)),?_⟩;cases op<;>simp only at h<;>(try(cases h;done))<;>simp only[Option.some.injEq,Prod.mk.injEq]at h<;>obtain⟨rfl,rfl⟩:=h
     ·exact⟨_,by rw[run_eql_struct,hq];rfl,.bool⟩
     ·exact⟨_,by rw[run_neq_struct,hq];rfl,.bool⟩
    ·cases h
   ·cases h
  ·cases h
 ·cases h
theorem azcq {op:BinOp}{t t':qq}{x y:zI}{p q r:PVal}{ob:Option Prop}(ho:o.op=.binOp op t x y t')(hx:(env x).toP=some p)(hy:(env y).toP=some q)
 (h:az4h P op t p q=some (r,ob)) (hob:holds ob):Sound1 P o env m id ⟨.pure r,[],[],ob⟩:=
 Sound1.still λF w ρ Mine M a _ _ ha=>by
  obtain⟨h1,z,h2,h3⟩:=az0c (w:=w) x y h hob ((ha x (by simp[ho,zV])).toP hx) ((ha y (by simp[ho,zV])).toP hy);exact⟨z,.value (by simp only[zW,ho,zM,h1,h2,zL,zN]),.pure h3⟩
theorem azc1 {t:qq}{x:zI}{b:Bool}(ho:o.op=.unOp .not t x)(hx:env x=if b then .tt else .ff):Sound1 P o env m id (.v (if b then .ff else .tt)):=
 Sound1.still λF w ρ Mine M a _ _ ha=>by
  have h1:=ha x (by simp[ho,zV]);have hv:a.eval x=.bool b:=by
   rw[hx]at h1;generalize a.eval x=u at h1⊢;cases b<;>cases h1<;>rfl
  refine⟨.bool (!b),.value (by simp[zW,ho,hv,Op.unary]),?_⟩;cases b
  ·exact .tt
  ·exact .ff
theorem s_un {op:UnOp}{t:qq}{x:zI}{p r:PVal}(ho:o.op=.unOp op t x)(hx:env x=.pure p)(h:evUn op p=some r):Sound1 P o env m id (.v (.pure r)):=
 Sound1.still λF w ρ Mine M a _ _ ha=>by
  have h1:=(hx▸ha x (by simp[ho,zV])).pure_inv;unfold evUn at h;split at h
  ·cases h;have hv:=h1.bool_inv;exact⟨_,.value (by simp only[zW,ho,hv,Op.unary,zM,zN,zL]),.pure .bool⟩
  ·cases h;have hv:=h1.int_inv;exact⟨_,.value (by simp only[zW,ho,hv,Op.unary,Op.intArith,zM,zN,zL]),.pure .int⟩
  ·cases h;have hv:=h1.int_inv;exact⟨_,.value (by simp only[zW,ho,hv,Op.unary,Op.intBits,zM,zN,zL]),.pure .int⟩
  ·cases h
theorem azbx {s d:qq}{x:zI}{p r:PVal}(ho:o.op=.convert s d x)(hs:(P.underlying s).isSome=true)(hx:(env x).toP=some p)(h:az0v P d p=some r):Sound1 P o env m id (.v (.pure r)):=
 Sound1.still λF w ρ Mine M a _ _ ha=>by
  have h1:=(ha x (by simp[ho,zV])).toP hx;obtain⟨ds,hds⟩:=Option.isSome_iff_exists.1 hs;unfold az0v at h;split at h
  ·rename_i hu;cases h;have hv:=h1.int_inv;refine⟨_,.value ?_,.pure .int⟩;simp only[zW,ho,hv,convert,zM,zX hds,zX hu,zL,Conv.intToInt,zN]
  ·rename_i hu;cases h;have hv:=h1.str_inv;refine⟨_,.value ?_,.pure .str⟩;simp only[zW,ho,hv,convert,zM,zX hds,zX hu,zL,zN]
  ·cases h
theorem Azt {a:Act}{w:World}{x:zI}{ts:Array qq}{n:Int}(ho:o.op=.call {callee:=.builtin .len,args:=#[x],argTypes:=ts})
 (h:(Builtin.len_ ts o.type #[a.eval x]).run P w=.ok (.int .i64 n) w):Ran P o a w (.int .i64 n) w:=by
 refine .value ?_;simp only[zW,ho,resolve,zM,zN,zL,invoke,builtin,List.map_toArray,List.map_cons,List.map_nil,h]
theorem azcs {x:zI}{ts:Array qq}{out:Out}(ho:o.op=.call {callee:=.builtin .len,args:=#[x],argTypes:=ts})(h:Vzl P ts (env x) m=some out):Sound1 P o env m id out:=by
 have hop:x∈o.op.operands:=by simp[ho,zV,Call.operands]
 unfold Vzl at h;split at h
 ·rename_i t ht;split at h
  ·rename_i e sz n f hu hx;cases h;refine Sound1.still λF w ρ Mine M a _ _ ha=>⟨.int .i64 n,Azt ho ?_,.pure .int⟩
   rcases(hx▸ha x hop).pure_inv.lst_inv with⟨hv,hn0⟩|⟨_,_,hv,hn0,_⟩|⟨b,off,cap,c,hv,_⟩
   ·subst hn0;simp[Builtin.len_,ht,hv,zX hu,goInt]
   ·subst hn0;simp[Builtin.len_,ht,hv,zX hu,goInt]
   ·simp[Builtin.len_,ht,hv,zX hu,goInt]
  ·rename_i e i n hu hx;cases h;refine Sound1.still λF w ρ Mine M a _ _ ha=>⟨.int .i64 n,Azt ho ?_,.pure .int⟩
   have h1:=hx▸ha x hop;generalize a.eval x=u at h1⊢;cases h1 with
   |bsl=>simp[Builtin.len_,ht,zX hu,goInt]
  ·rename_i e i hu hx;split at h
   ·rename_i sz n f sh e' hk;cases h;refine Sound1.still λF w ρ Mine M a hm hrd ha=>⟨.int .i64 n,Azt ho ?_,.pure .int⟩
    have h1:=hx▸ha x hop;generalize a.eval x=u at h1⊢;rcases hm.ok i _ ((hrd i (by simp)).trans hk)with⟨_,⟨hnone,hn0⟩|⟨b',cap',c,hv',_⟩⟩
    ·subst hn0;cases h1 with
     |vec hh=>rw[hh]at hnone;cases hnone
     |vnil hh=>
      simp[Builtin.len_,ht,zX hu,goInt]
    ·cases h1 with
     |vnil hh=>rw[hh]at hv';cases hv'
     |vec hh=>
      rw[hh]at hv';cases hv';simp[Builtin.len_,ht,zX hu,goInt]
   ·rename_i sz n f kk e' off s' e'' hs hk;cases h;refine Sound1.still λF w ρ Mine M a hm hrd ha=>⟨.int .i64 n,Azt ho ?_,.pure .int⟩
    have h1:=hx▸ha x hop;generalize a.eval x=u at h1⊢;rcases hm.ok i _ ((hrd i (by simp)).trans hk)with⟨_,_,⟨hnone,hn0,_⟩|⟨b',cap',c,hv',_⟩⟩
    ·subst hn0;cases h1 with
     |vec hh=>rw[hh]at hnone;cases hnone
     |vnil hh=>
      simp[Builtin.len_,ht,zX hu,goInt]
    ·cases h1 with
     |vnil hh=>rw[hh]at hv';cases hv'
     |vec hh=>
      rw[hh]at hv';cases hv';simp[Builtin.len_,ht,zX hu,goInt]
   ·rename_i hk;cases h;refine Sound1.still λF w ρ Mine M a hm hrd ha=>⟨.int .i64 (0:Nat),Azt ho ?_,.pure .int⟩
    have h1:=hx▸ha x hop;generalize a.eval x=u at h1⊢;have hnone:ρ.vec i=none:=hm.ok i _ ((hrd i (by simp)).trans hk);cases h1 with
    |vec hh=>rw[hh]at hnone;cases hnone
    |vnil hh=>
     simp[Builtin.len_,ht,zX hu,goInt]
   ·cases h
  ·rename_i s hu hx;cases h;refine Sound1.still λF w ρ Mine M a _ _ ha=>⟨.int .i64 s.size,Azt ho ?_,.pure .int⟩
   have hv:=(hx▸ha x hop).pure_inv.str_inv;simp[Builtin.len_,ht,hv,zX hu,goInt]
  ·rename_i n e hu;cases h;refine Sound1.still λF w ρ Mine M a _ _ ha=>⟨.int .i64 n,Azt ho ?_,.pure .int⟩
   simp[Builtin.len_,ht,zX hu,goInt]
  ·cases h
 ·cases h
end Go.Abs
