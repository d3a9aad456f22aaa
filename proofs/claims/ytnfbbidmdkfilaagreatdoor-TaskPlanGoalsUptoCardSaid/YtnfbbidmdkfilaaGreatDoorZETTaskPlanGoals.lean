import Derived.Test.YtnfbbidmdkfilaaGreatDoorZETop
import Derived.Test.YtnfbbidmdkfilaaGreatDoorZED4
import Derived.Test.YtnfbbidmdkfilaaGreatDoorZEJTaskPlanGoalsb
import Derived.Test.YtnfbbidmdkfilaaGreatDoorCards
import Derived.Test.YtnfbbidmdkfilaaGreatDoorTie
import Derived.Lib.LaidTab
import Derived.Deep.DeepHandedRow
namespace Go.Abs
open Go.Proofs Go.Proofs.YtnfbbidmdkfilaaGreatDoor Go.ChangeShapes Go.WideShapes Go.ChangeAt Go.RowKit
namespace taskPlanGoals
def az4j (v:Int):List PVal:=[.int .i64 v]
def azlm (v:Int):Prop:=(Lit.int .i64 v).wf=true
def Hz6 (_:Int):Nat:=1
theorem azlu:Rep Tryz.prog 3 az4j azlm Hz6:=azj7 jw
def az8e (v:(List Int)):List PVal:=[encL 1 bz5 v]
def izr (v:(List Int)):Prop:=∀a∈v,azlm a
def dz0 (v:(List Int)):Nat:=(v.map Hz6).sum+1
theorem Szc:Rep Tryz.prog 36 az8e izr dz0:=azbo (cells:=az4j) (enc:=bz5) (sz:=1) jw jw jr (λ_=>rfl) (λ_=>rfl) azlu
theorem jze {a b:Bool}(h:a=true)(k:b=true):(a&&b)=true:=by rw[h,k];rfl
set_option maxRecDepth 100000 in
theorem azkn:joinedFacts Tryz.pinned.checked.prog 5 Tryz.f5 (Rows.OpenSpec.upto Rows.taskPlanGoalsSpec).bare Rows.taskPlanGoalsUptoRow=true:=by
 unfold joinedFacts;exact(jze (jze (jze (jze (jze (jze (jze (jze (jze (jze (jze (jze (jze (jze (jze (jze (jze (jze (jze (jze (jze (jze (jze (jze (jze (jze (jze (jze (jze (jze (jze azmp azig) Zzy) aza0) azej) az9x) azel) az9w) azeh) az6x) azlb) azl9) azij) azii) az9y) az6y) azei) azik) azem) azla) Zzx) az38) Zzz) azek) azef) az39) az9z) azih) azeg) aza1) aza2) azif)
theorem own:ownKnob Tryz.prog.godebug=none:=jw
theorem azkx:Tryz.prog.globalNamed "armplan/sampler.primes" =some 0:=jw
theorem azn4 {W:World}(h:laidMetH Tryz.prog Rows.taskPlanGoalsUptoRow.laid W):Lib.TabIs Tryz.prog W "armplan/sampler.primes" .u64 [2,3,5,7,11,13,17,19,23,29]:=
 Lib.tabIs_of_head (rest:=[]) azkx (t:=381) (e:=301) (n:=10) jw jw jw jw jw h
theorem azm7 {W:World}(h:laidMetH Tryz.prog Rows.taskPlanGoalsUptoRow.laid W):TabOk (oldF W) W:=by
 intro g k l hg i n hi;unfold gTab at hg;split at hg
 ·obtain⟨rfl,rfl⟩:=Prod.mk.inj (Option.some.inj hg);have hc:=(azn4 h).cell azkx i (List.getElem?_eq_some_iff.1 hi).1;refine⟨(az8d hc).2,?_⟩;rw[hc,List.getD_eq_getElem?_getD,hi];rfl
 ·cases hg
noncomputable def Qzs (os:Os):World:=
 {World.holding Tryz.prog os ⟨#[],#[],[]⟩with heap:=(World.holding Tryz.prog os ⟨#[],#[],[]⟩).heap.modify 0 fun
  | .cells _ t frozen=>.cells #[.int .u64 2,.int .u64 3,.int .u64 5,.int .u64 7,.int .u64 11,.int .u64 13,.int .u64 17,.int .u64 19,.int .u64 23,.int .u64 29] t frozen
  |o=>o}
theorem azeo (os:Os):laidMet Tryz.prog Rows.taskPlanGoalsUptoRow.laid ((Qzs os).forCall (λ_ _=>0) ⟨#[],#[.slice none 0 0,.slice none 0 0,.slice none 0 0,.slice none 0 0,.slice none 0 0],[]⟩).memory:=
 laidMet_of_run' 12 jw jw
theorem azmw (os:Os){H:Type}(enc:TypeId×Value->H):∃places,DataW.whole enc Tryz.prog ((Qzs os).forCall (λ_ _=>0) ⟨#[],#[.slice none 0 0,.slice none 0 0,.slice none 0 0,.slice none 0 0,.slice none 0 0],[]⟩).memory Tryz.f5.params.toList Rows.taskPlanGoalsSpec.vars false (#[.slice none 0 0,.slice none 0 0,.slice none 0 0,.slice none 0 0,.slice none 0 0]:Array Value).toList 8=some ([.nil,.nil,.nil,.nil,.nil],[],places):=
 ⟨[],jw⟩
set_option maxRecDepth 100000 in
theorem azd8 (plain:∀ (a0:(List Int)) (a1:(List Int)) (a2:(List Int)) (a3:(List Int)) (a4:(List Int)),izr a0->izr a1->izr a2->izr a3->izr a4->dz0 a0+dz0 a1+dz0 a2+dz0 a3+dz0 a4<=1048576->(czt a0 a1 a2 a3 a4).o=some true)(H:Type)(enc:TypeId×Value->H)(W:World)(base:Nat)(args:Array Value)(ds gs:List (DataW H))(before:List MemPlace)
 (hval:∀ (j:Nat) t v,Tryz.f5.params[j]?=some t->args[j]?=some v->Value.okWide Tryz.prog W .any base t v)
 (hW:DataW.Whole enc Tryz.prog Tryz.f5.params.toList Rows.taskPlanGoalsSpec.vars false W args.toList ds gs before) (hk:Rows.uptoSmall H (ds++gs)=true) (hL:laidMetH Tryz.prog Rows.taskPlanGoalsUptoRow.laid W):
 Calls Tryz.prog 5 args W λe W'=>∃v,e=.returned v/\Rows.taskPlanGoalsSpec.post enc Tryz.prog Tryz.f5 false true false false W args v W':=by
 have hW':=hW;obtain⟨p,q,hA0,hV,rfl,hfz,hnd⟩:=hW;have hA:DataW.TrodAll enc Tryz.prog W 0 (λ_=>true) true Tryz.f5.params.toList args.toList ds p:=hA0;rw[Tryz.params5]at hA hval;obtain⟨v0,vs0,d0,ds0,p0,q0,hargs,rfl,rfl,h0,r0⟩:=trodAll_cons hA;obtain⟨v1,vs1,d1,ds1,p1,q1,hargs1,rfl,rfl,h1,r1⟩:=trodAll_cons r0;subst hargs1;obtain⟨v2,vs2,d2,ds2,p2,q2,hargs2,rfl,rfl,h2,r2⟩:=trodAll_cons r1;subst hargs2;obtain⟨v3,vs3,d3,ds3,p3,q3,hargs3,rfl,rfl,h3,r3⟩:=trodAll_cons r2;subst hargs3;obtain⟨v4,vs4,d4,ds4,p4,q4,hargs4,rfl,rfl,h4,r4⟩:=trodAll_cons r3;subst hargs4;obtain⟨rfl,rfl,rfl⟩:=trodAll_nil r4;obtain rfl:args=#[v0,v1,v2,v3,v4]:=by cases args;simp_all
 obtain⟨rfl,rfl⟩:=trodVars_none hV;obtain⟨n0,h0⟩:=h0;obtain⟨a0,c0,o0,b0⟩:=Szc H enc W _ _ _ h0;obtain⟨n1,h1⟩:=h1;obtain⟨a1,c1,o1,b1⟩:=Szc H enc W _ _ _ h1;obtain⟨n2,h2⟩:=h2;obtain⟨a2,c2,o2,b2⟩:=Szc H enc W _ _ _ h2;obtain⟨n3,h3⟩:=h3;obtain⟨a3,c3,o3,b3⟩:=Szc H enc W _ _ _ h3;obtain⟨n4,h4⟩:=h4;obtain⟨a4,c4,o4,b4⟩:=Szc H enc W _ _ _ h4;have hb:Rows.uptoBulkAll ([d0,d1,d2,d3,d4]++[]:List (DataW H))<=1048576:=of_decide_eq_true hk;simp only[List.append_nil,Rows.uptoBulkAll]at hb;have htrue:=plain a0 a1 a2 a3 a4 o0 o1 o2 o3 o4 (by simp only at b0 b1 b2 b3 b4;omega);refine az0o (bt:=4) ((czt a0 a1 a2 a3 a4).ok _ htrue) (azm7 hL) (λρ=>wzx (Rz4 (P:=Tryz.prog) (hval 0 36 v0 rfl rfl) jw c0) (wzx (Rz4 (P:=Tryz.prog) (hval 1 36 v1 rfl rfl) jw c1) (wzx (Rz4 (P:=Tryz.prog) (hval 2 36 v2 rfl rfl) jw c2) (wzx (Rz4 (P:=Tryz.prog) (hval 3 36 v3 rfl rfl) jw c3) (wzx (Rz4 (P:=Tryz.prog) (hval 4 36 v4 rfl rfl) jw c4) (az81)))))) hW' rfl rfl jw jw (slices_full_of _ jw) ?_ jw jw;have hs:Tryz.prog.types.size=594:=jw
 rw[Tryz.params5,hs];simp only[List.mem_cons,List.not_mem_nil,or_false];rintro t (rfl|rfl|rfl|rfl|rfl)<;>decide
set_option maxRecDepth 100000 in
theorem lifted (plain:∀ (a0:(List Int)) (a1:(List Int)) (a2:(List Int)) (a3:(List Int)) (a4:(List Int)),izr a0->izr a1->izr a2->izr a3->izr a4->dz0 a0+dz0 a1+dz0 a2+dz0 a3+dz0 a4<=1048576->(czt a0 a1 a2 a3 a4).o=some true)(os:Os)(started:os.Started)(H:Type)(enc:TypeId×Value->H)(F:Stop.Interp):
 ReturnsInHanded {} Tryz.checked os 5 .any ((Rows.OpenSpec.upto Rows.taskPlanGoalsSpec).preRow enc Tryz.prog Tryz.f5 Rows.taskPlanGoalsUptoRow.domain false Rows.taskPlanGoalsUptoRow.laid) (((Rows.OpenSpec.upto Rows.taskPlanGoalsSpec).at F).post enc Tryz.prog Tryz.f5 false true false false):=by
 obtain⟨places,hx⟩:=azmw os enc
 refine returnsInHanded_of_row (C:=Tryz.checked) (s:=Rows.OpenSpec.upto Rows.taskPlanGoalsSpec) own started jw Tryz.func5
  (witness_row_at (enc:=enc) (C:=Tryz.checked) false (Qzs os) #[.slice none 0 0,.slice none 0 0,.slice none 0 0,.slice none 0 0,.slice none 0 0] rfl jw jw jw
   (OpenSpec.preRow_of_cond 8 hx jw (λk hk=>by cases hk;kernel_rfl) jw (azeo os))) ?_
 intro W base args ds gs before hval hW _ hk _ hL _ _;exact azd8 plain H enc W base args ds gs before hval hW (hk _ rfl) hL
theorem over (plain:∀ (a0:(List Int)) (a1:(List Int)) (a2:(List Int)) (a3:(List Int)) (a4:(List Int)),izr a0->izr a1->izr a2->izr a3->izr a4->dz0 a0+dz0 a1+dz0 a2+dz0 a3+dz0 a4<=1048576->(czt a0 a1 a2 a3 a4).o=some true):Rows.taskPlanGoalsUptoRow.holds Tryz.pinned (Rows.OpenSpec.upto Rows.taskPlanGoalsSpec):=
 OpenClaim.holds_of_cond 5 Tryz.f5 rfl rfl rfl rfl rfl rfl rfl ⟨rfl,rfl,rfl,rfl,rfl⟩ rfl rfl rfl rfl rfl jw Tryz.func5 azkn
  (of_decide_eq_true jw) (by unfold Func.isWrapper;first|(rw[qc (by decide+kernel)];kernel_rfl)|(rw[qb (by decide+kernel)];exact⟨rfl,rfl⟩))
  (λos started H enc _ F=>by rw[OpenClaim.pre_eq_preRow];exact lifted plain os started H enc F)
theorem seen (f:FuncId)(fn:Func)(hf:Tryz.pinned.checked.prog.funcNamed "armplan/armplanlaw39.TaskPlanGoals" =some f)(hfn:Tryz.pinned.checked.prog.funcs[f]?=some fn):
 true=Tryz.pinned.checked.prog.looks []/\∀ (j:Nat) t,fn.params[j]?=some t->Tryz.pinned.checked.prog.wantsStandIn t=false:=by
 obtain rfl:f=5:=Option.some.inj ((show Tryz.prog.funcNamed "armplan/armplanlaw39.TaskPlanGoals" =some 5 by kernel_rfl).symm.trans hf)|>.symm;obtain rfl:fn=Tryz.f5:=(Option.some.inj (Tryz.func5.symm.trans hfn)).symm;have h:(Tryz.f5.params.all λt=> !(Tryz.prog.wantsStandIn t))=true:=jw
 refine⟨jw,λj t ht=>?_⟩;have:=Array.all_eq_true_iff_forall_mem.1 h t (Array.mem_of_getElem? ht);rwa[Bool.not_eq_true']at this
theorem fHw:Rows.taskPlanGoalsUptoRow.wfByText (Rows.OpenSpec.upto Rows.taskPlanGoalsSpec)=true:=jw
theorem fHm:Tryz.pinned.checked.prog.mainIs=some (true, "1873635d42ab48319c0713f22b45bb1411002ee6cc85179116194e11e678dfaf".toList):=jw
theorem az9h {P:Program}(h:P.funcs.any Func.goes=false)(f:FuncId):P.goes f=false:=by
 have h':∀g:FuncId,(P.funcs[g]?).any Func.goes=false:=λg=>by
  cases e:P.funcs[g]? with
  |none=>rfl
  |some fn=>
   obtain⟨hg,rfl⟩:=Array.getElem?_eq_some_iff.1 e;simpa using Array.any_eq_false.1 h g hg
 simp[Program.goes,h,h']
theorem azdp:Tryz.pinned.checked.prog.funcs.any Func.goes=false:=jw
theorem az33 {P:Program}(h:P.funcs.any Func.goes=false)(c:OpenClaim)(hs:c.start=.entering):c.goesBy P=false:=by
 unfold OpenClaim.goesBy Program.goesAt Program.goesFrom;rw[hs];cases P.funcNamed c.func with
 |none=>rfl
 |some f=>simp[az9h h]
theorem fHg:false=Rows.taskPlanGoalsUptoRow.goesBy Tryz.pinned.checked.prog:=(az33 azdp _ rfl).symm
theorem card (plain:∀ (a0:(List Int)) (a1:(List Int)) (a2:(List Int)) (a3:(List Int)) (a4:(List Int)),izr a0->izr a1->izr a2->izr a3->izr a4->dz0 a0+dz0 a1+dz0 a2+dz0 a3+dz0 a4<=1048576->(czt a0 a1 a2 a3 a4).o=some true):Rows.TaskPlanGoalsUptoCardSaid:=
 Claim7.holds_tied_plain_at .later [] _ _ _ _ (over plain) (λ_ h=>by cases h) fHw (λ_ h=>by cases h) taskPlanGoalsUpto_row_tie rfl ⟨rfl,rfl⟩ fHm rfl seen fHg
end taskPlanGoals
end Go.Abs
