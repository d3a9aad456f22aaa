import Derived.Test.YtnfbbidmdkfilaaGreatDoorZFTop
import Derived.Test.YtnfbbidmdkfilaaGreatDoorZFD4
import Derived.Test.YtnfbbidmdkfilaaGreatDoorZFJTaskPlanCarriesb
import Derived.Test.YtnfbbidmdkfilaaGreatDoorCards
import Derived.Test.YtnfbbidmdkfilaaGreatDoorTie
import Derived.Lib.LaidTab
import Derived.Deep.DeepHandedRow
namespace Go.Abs
open Go.Proofs Go.Proofs.YtnfbbidmdkfilaaGreatDoor Go.ChangeShapes Go.WideShapes Go.ChangeAt Go.RowKit
namespace taskPlanCarries
def az5j (v:Int):List PVal:=[.int .i64 v]
def Cz3 (v:Int):Prop:=(Lit.int .i64 v).wf=true
def eze (_:Int):Nat:=1
theorem az28:Rep Tryz.prog 3 az5j Cz3 eze:=azko jJ
def az9l (v:(List Int)):List PVal:=[encL 1 bz6 v]
def oz9 (v:(List Int)):Prop:=∀a∈v,Cz3 a
def dzx (v:(List Int)):Nat:=(v.map eze).sum+1
theorem Yzz:Rep Tryz.prog 36 az9l oz9 dzx:=azcs (cells:=az5j) (enc:=bz6) (sz:=1) jJ jJ jF (λ_=>rfl) (λ_=>rfl) az28
theorem jzp {a b:Bool}(h:a=true)(k:b=true):(a&&b)=true:=by rw[h,k];rfl
set_option maxRecDepth 100000 in
theorem azm3:joinedFacts Tryz.pinned.checked.prog 4 Tryz.f4 (Rows.OpenSpec.upto Rows.taskPlanCarriesSpec).bare Rows.taskPlanCarriesUptoRow=true:=by
 unfold joinedFacts;exact(jzp (jzp (jzp (jzp (jzp (jzp (jzp (jzp (jzp (jzp (jzp (jzp (jzp (jzp (jzp (jzp (jzp (jzp (jzp (jzp (jzp (jzp (jzp (jzp (jzp (jzp (jzp (jzp (jzp (jzp (jzp azo9 azjv) az12) azb5) azfr) azb2) azft) azb1) azfp) az7x) azmu) azms) azjy) azjx) azb3) az7y) azfq) azjz) azfu) azmt) az11) az47) az13) azfs) azfn) az48) azb4) azjw) azfo) azb6) azb7) azju)
theorem own:ownKnob Tryz.prog.godebug=none:=jJ
theorem azmg:Tryz.prog.globalNamed "armplan/sampler.primes" =some 0:=jJ
theorem azos {W:World}(h:laidMetH Tryz.prog Rows.taskPlanCarriesUptoRow.laid W):Lib.TabIs Tryz.prog W "armplan/sampler.primes" .u64 [2,3,5,7,11,13,17,19,23,29]:=
 Lib.tabIs_of_head (rest:=[]) azmg (t:=381) (e:=301) (n:=10) jJ jJ jJ jJ jJ h
theorem aznp {W:World}(h:laidMetH Tryz.prog Rows.taskPlanCarriesUptoRow.laid W):TabOk (oldF W) W:=by
 intro g k l hg i n hi;unfold gTab at hg;split at hg
 ·obtain⟨rfl,rfl⟩:=Prod.mk.inj (Option.some.inj hg);have hc:=(azos h).cell azmg i (List.getElem?_eq_some_iff.1 hi).1;refine⟨(az9k hc).2,?_⟩;rw[hc,List.getD_eq_getElem?_getD,hi];rfl
 ·cases hg
noncomputable def Rzy (os:Os):World:=
 {World.holding Tryz.prog os ⟨#[],#[],[]⟩with heap:=(World.holding Tryz.prog os ⟨#[],#[],[]⟩).heap.modify 0 fun
  | .cells _ t frozen=>.cells #[.int .u64 2,.int .u64 3,.int .u64 5,.int .u64 7,.int .u64 11,.int .u64 13,.int .u64 17,.int .u64 19,.int .u64 23,.int .u64 29] t frozen
  |o=>o}
theorem azfw (os:Os):laidMet Tryz.prog Rows.taskPlanCarriesUptoRow.laid ((Rzy os).forCall (λ_ _=>0) ⟨#[],#[.slice none 0 0,.slice none 0 0,.slice none 0 0,.slice none 0 0,.int .i64 0,.int .i64 0,.int .i64 0,.int .i64 0],[]⟩).memory:=
 laidMet_of_run' 12 jJ jJ
theorem azoj (os:Os){H:Type}(enc:TypeId×Value->H):∃places,DataW.whole enc Tryz.prog ((Rzy os).forCall (λ_ _=>0) ⟨#[],#[.slice none 0 0,.slice none 0 0,.slice none 0 0,.slice none 0 0,.int .i64 0,.int .i64 0,.int .i64 0,.int .i64 0],[]⟩).memory Tryz.f4.params.toList Rows.taskPlanCarriesSpec.vars false (#[.slice none 0 0,.slice none 0 0,.slice none 0 0,.slice none 0 0,.int .i64 0,.int .i64 0,.int .i64 0,.int .i64 0]:Array Value).toList 8=some ([.nil,.nil,.nil,.nil,.lit (.int .i64 0),.lit (.int .i64 0),.lit (.int .i64 0),.lit (.int .i64 0)],[],places):=
 ⟨[],jJ⟩
set_option maxRecDepth 100000 in
theorem azee (plain:∀ (a0:(List Int)) (a1:(List Int)) (a2:(List Int)) (a3:(List Int)) (a4:Int) (a5:Int) (a6:Int) (a7:Int),oz9 a0->oz9 a1->oz9 a2->oz9 a3->Cz3 a4->Cz3 a5->Cz3 a6->Cz3 a7->dzx a0+dzx a1+dzx a2+dzx a3+eze a4+eze a5+eze a6+eze a7<=1048576->(cz9 a0 a1 a2 a3 a4 a5 a6 a7).o=some true)(H:Type)(enc:TypeId×Value->H)(W:World)(base:Nat)(args:Array Value)(ds gs:List (DataW H))(before:List MemPlace)
 (hval:∀ (j:Nat) t v,Tryz.f4.params[j]?=some t->args[j]?=some v->Value.okWide Tryz.prog W .any base t v)
 (hW:DataW.Whole enc Tryz.prog Tryz.f4.params.toList Rows.taskPlanCarriesSpec.vars false W args.toList ds gs before) (hk:Rows.uptoSmall H (ds++gs)=true) (hL:laidMetH Tryz.prog Rows.taskPlanCarriesUptoRow.laid W):
 Calls Tryz.prog 4 args W λe W'=>∃v,e=.returned v/\Rows.taskPlanCarriesSpec.post enc Tryz.prog Tryz.f4 false true false false W args v W':=by
 have hW':=hW;obtain⟨p,q,hA0,hV,rfl,hfz,hnd⟩:=hW;have hA:DataW.TrodAll enc Tryz.prog W 0 (λ_=>true) true Tryz.f4.params.toList args.toList ds p:=hA0;rw[Tryz.params4]at hA hval;obtain⟨v0,vs0,d0,ds0,p0,q0,hargs,rfl,rfl,h0,r0⟩:=trodAll_cons hA;obtain⟨v1,vs1,d1,ds1,p1,q1,hargs1,rfl,rfl,h1,r1⟩:=trodAll_cons r0;subst hargs1;obtain⟨v2,vs2,d2,ds2,p2,q2,hargs2,rfl,rfl,h2,r2⟩:=trodAll_cons r1;subst hargs2;obtain⟨v3,vs3,d3,ds3,p3,q3,hargs3,rfl,rfl,h3,r3⟩:=trodAll_cons r2;subst hargs3;obtain⟨v4,vs4,d4,ds4,p4,q4,hargs4,rfl,rfl,h4,r4⟩:=trodAll_cons r3;subst hargs4;obtain⟨v5,vs5,d5,ds5,p5,q5,hargs5,rfl,rfl,h5,r5⟩:=trodAll_cons r4;subst hargs5;obtain⟨v6,vs6,d6,ds6,p6,q6,hargs6,rfl,rfl,h6,r6⟩:=trodAll_cons r5;subst hargs6;obtain⟨v7,vs7,d7,ds7,p7,q7,hargs7,rfl,rfl,h7,r7⟩:=trodAll_cons r6;subst hargs7;obtain⟨rfl,rfl,rfl⟩:=trodAll_nil r7;obtain rfl:args=#[v0,v1,v2,v3,v4,v5,v6,v7]:=by cases args;simp_all
 obtain⟨rfl,rfl⟩:=trodVars_none hV;obtain⟨n0,h0⟩:=h0;obtain⟨a0,c0,o0,b0⟩:=Yzz H enc W _ _ _ h0;obtain⟨n1,h1⟩:=h1;obtain⟨a1,c1,o1,b1⟩:=Yzz H enc W _ _ _ h1;obtain⟨n2,h2⟩:=h2;obtain⟨a2,c2,o2,b2⟩:=Yzz H enc W _ _ _ h2;obtain⟨n3,h3⟩:=h3;obtain⟨a3,c3,o3,b3⟩:=Yzz H enc W _ _ _ h3;obtain⟨n4,h4⟩:=h4;obtain⟨a4,c4,o4,b4⟩:=az28 H enc W _ _ _ h4;obtain⟨n5,h5⟩:=h5;obtain⟨a5,c5,o5,b5⟩:=az28 H enc W _ _ _ h5;obtain⟨n6,h6⟩:=h6;obtain⟨a6,c6,o6,b6⟩:=az28 H enc W _ _ _ h6;obtain⟨n7,h7⟩:=h7;obtain⟨a7,c7,o7,b7⟩:=az28 H enc W _ _ _ h7;have hb:Rows.uptoBulkAll ([d0,d1,d2,d3,d4,d5,d6,d7]++[]:List (DataW H))<=1048576:=of_decide_eq_true hk;simp only[List.append_nil,Rows.uptoBulkAll]at hb;have htrue:=plain a0 a1 a2 a3 a4 a5 a6 a7 o0 o1 o2 o3 o4 o5 o6 o7 (by simp only at b0 b1 b2 b3 b4 b5 b6 b7;omega);refine az1s (bt:=4) ((cz9 a0 a1 a2 a3 a4 a5 a6 a7).ok _ htrue) (aznp hL) (λρ=>kz3 (Dzf (P:=Tryz.prog) (hval 0 36 v0 rfl rfl) jJ c0) (kz3 (Dzf (P:=Tryz.prog) (hval 1 36 v1 rfl rfl) jJ c1) (kz3 (Dzf (P:=Tryz.prog) (hval 2 36 v2 rfl rfl) jJ c2) (kz3 (Dzf (P:=Tryz.prog) (hval 3 36 v3 rfl rfl) jJ c3) (kz3 (Dzf (P:=Tryz.prog) (hval 4 3 v4 rfl rfl) jJ c4) (kz3 (Dzf (P:=Tryz.prog) (hval 5 3 v5 rfl rfl) jJ c5) (kz3 (Dzf (P:=Tryz.prog) (hval 6 3 v6 rfl rfl) jJ c6) (kz3 (Dzf (P:=Tryz.prog) (hval 7 3 v7 rfl rfl) jJ c7) (az93))))))))) hW' rfl rfl jJ jJ (slices_full_of _ jJ) ?_ jJ jJ;have hs:Tryz.prog.types.size=594:=jJ
 rw[Tryz.params4,hs];simp only[List.mem_cons,List.not_mem_nil,or_false];rintro t (rfl|rfl|rfl|rfl|rfl|rfl|rfl|rfl)<;>decide
set_option maxRecDepth 100000 in
theorem lifted (plain:∀ (a0:(List Int)) (a1:(List Int)) (a2:(List Int)) (a3:(List Int)) (a4:Int) (a5:Int) (a6:Int) (a7:Int),oz9 a0->oz9 a1->oz9 a2->oz9 a3->Cz3 a4->Cz3 a5->Cz3 a6->Cz3 a7->dzx a0+dzx a1+dzx a2+dzx a3+eze a4+eze a5+eze a6+eze a7<=1048576->(cz9 a0 a1 a2 a3 a4 a5 a6 a7).o=some true)(os:Os)(started:os.Started)(H:Type)(enc:TypeId×Value->H)(F:Stop.Interp):
 ReturnsInHanded {} Tryz.checked os 4 .any ((Rows.OpenSpec.upto Rows.taskPlanCarriesSpec).preRow enc Tryz.prog Tryz.f4 Rows.taskPlanCarriesUptoRow.domain false Rows.taskPlanCarriesUptoRow.laid) (((Rows.OpenSpec.upto Rows.taskPlanCarriesSpec).at F).post enc Tryz.prog Tryz.f4 false true false false):=by
 obtain⟨places,hx⟩:=azoj os enc
 refine returnsInHanded_of_row (C:=Tryz.checked) (s:=Rows.OpenSpec.upto Rows.taskPlanCarriesSpec) own started jJ Tryz.func4
  (witness_row_at (enc:=enc) (C:=Tryz.checked) false (Rzy os) #[.slice none 0 0,.slice none 0 0,.slice none 0 0,.slice none 0 0,.int .i64 0,.int .i64 0,.int .i64 0,.int .i64 0] rfl jJ jJ jJ
   (OpenSpec.preRow_of_cond 8 hx jJ (λk hk=>by cases hk;kernel_rfl) jJ (azfw os))) ?_
 intro W base args ds gs before hval hW _ hk _ hL _ _;exact azee plain H enc W base args ds gs before hval hW (hk _ rfl) hL
theorem over (plain:∀ (a0:(List Int)) (a1:(List Int)) (a2:(List Int)) (a3:(List Int)) (a4:Int) (a5:Int) (a6:Int) (a7:Int),oz9 a0->oz9 a1->oz9 a2->oz9 a3->Cz3 a4->Cz3 a5->Cz3 a6->Cz3 a7->dzx a0+dzx a1+dzx a2+dzx a3+eze a4+eze a5+eze a6+eze a7<=1048576->(cz9 a0 a1 a2 a3 a4 a5 a6 a7).o=some true):Rows.taskPlanCarriesUptoRow.holds Tryz.pinned (Rows.OpenSpec.upto Rows.taskPlanCarriesSpec):=
 OpenClaim.holds_of_cond 4 Tryz.f4 rfl rfl rfl rfl rfl rfl rfl ⟨rfl,rfl,rfl,rfl,rfl⟩ rfl rfl rfl rfl rfl jJ Tryz.func4 azm3
  (of_decide_eq_true jJ) (by unfold Func.isWrapper;first|(rw[qc (by decide+kernel)];kernel_rfl)|(rw[qb (by decide+kernel)];exact⟨rfl,rfl⟩))
  (λos started H enc _ F=>by rw[OpenClaim.pre_eq_preRow];exact lifted plain os started H enc F)
theorem seen (f:FuncId)(fn:Func)(hf:Tryz.pinned.checked.prog.funcNamed "armplan/armplanlaw39.TaskPlanCarries" =some f)(hfn:Tryz.pinned.checked.prog.funcs[f]?=some fn):
 true=Tryz.pinned.checked.prog.looks []/\∀ (j:Nat) t,fn.params[j]?=some t->Tryz.pinned.checked.prog.wantsStandIn t=false:=by
 obtain rfl:f=4:=Option.some.inj ((show Tryz.prog.funcNamed "armplan/armplanlaw39.TaskPlanCarries" =some 4 by kernel_rfl).symm.trans hf)|>.symm;obtain rfl:fn=Tryz.f4:=(Option.some.inj (Tryz.func4.symm.trans hfn)).symm;have h:(Tryz.f4.params.all λt=> !(Tryz.prog.wantsStandIn t))=true:=jJ
 refine⟨jJ,λj t ht=>?_⟩;have:=Array.all_eq_true_iff_forall_mem.1 h t (Array.mem_of_getElem? ht);rwa[Bool.not_eq_true']at this
theorem fHw:Rows.taskPlanCarriesUptoRow.wfByText (Rows.OpenSpec.upto Rows.taskPlanCarriesSpec)=true:=jJ
theorem fHm:Tryz.pinned.checked.prog.mainIs=some (true, "1873635d42ab48319c0713f22b45bb1411002ee6cc85179116194e11e678dfaf".toList):=jJ
theorem azal {P:Program}(h:P.funcs.any Func.goes=false)(f:FuncId):P.goes f=false:=by
 have h':∀g:FuncId,(P.funcs[g]?).any Func.goes=false:=λg=>by
  cases e:P.funcs[g]? with
  |none=>rfl
  |some fn=>
   obtain⟨hg,rfl⟩:=Array.getElem?_eq_some_iff.1 e;simpa using Array.any_eq_false.1 h g hg
 simp[Program.goes,h,h']
theorem azew:Tryz.pinned.checked.prog.funcs.any Func.goes=false:=jJ
theorem az41 {P:Program}(h:P.funcs.any Func.goes=false)(c:OpenClaim)(hs:c.start=.entering):c.goesBy P=false:=by
 unfold OpenClaim.goesBy Program.goesAt Program.goesFrom;rw[hs];cases P.funcNamed c.func with
 |none=>rfl
 |some f=>simp[azal h]
theorem fHg:false=Rows.taskPlanCarriesUptoRow.goesBy Tryz.pinned.checked.prog:=(az41 azew _ rfl).symm
theorem card (plain:∀ (a0:(List Int)) (a1:(List Int)) (a2:(List Int)) (a3:(List Int)) (a4:Int) (a5:Int) (a6:Int) (a7:Int),oz9 a0->oz9 a1->oz9 a2->oz9 a3->Cz3 a4->Cz3 a5->Cz3 a6->Cz3 a7->dzx a0+dzx a1+dzx a2+dzx a3+eze a4+eze a5+eze a6+eze a7<=1048576->(cz9 a0 a1 a2 a3 a4 a5 a6 a7).o=some true):Rows.TaskPlanCarriesUptoCardSaid:=
 Claim7.holds_tied_plain_at .later [] _ _ _ _ (over plain) (λ_ h=>by cases h) fHw (λ_ h=>by cases h) taskPlanCarriesUpto_row_tie rfl ⟨rfl,rfl⟩ fHm rfl seen fHg
end taskPlanCarries
end Go.Abs
