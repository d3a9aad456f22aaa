import Derived.Test.YtagmfmidaochlaaGreatDoorZITop
import Derived.Test.YtagmfmidaochlaaGreatDoorZIJTaskPlanAcceptedb
import Derived.Test.YtagmfmidaochlaaGreatDoorZIDL5
import Derived.Test.YtagmfmidaochlaaGreatDoorZISums
import Derived.Test.YtagmfmidaochlaaGreatDoorCards
import Derived.Test.YtagmfmidaochlaaGreatDoorTie
import Derived.Lib.LaidTab
import Derived.Deep.DeepHandedRow
open Bool renaming false->B
noncomputable section
namespace Go.Abs
open Go.Proofs Go.Proofs.YtagmfmidaochlaaGreatDoor Go.ChangeShapes Go.WideShapes Go.ChangeAt Go.RowKit
open Go.Proofs.YtagmfmidaochlaaGreatDoor.Rows renaming taskPlanAcceptedUptoRow ->RowU,taskPlanAcceptedSpec ->SpeU
namespace taskPlanAccepted
noncomputable def r3:RB Tryz.prog 3 Int:=.int
noncomputable def r33:RB Tryz.prog 33 (List Int):=.lst r3
theorem cD {a b:Bool}(h:a=true)(k:b=true):(a&&b)=true:=by rw[h,k];rfl
set_option maxRecDepth 100000 in
theorem ai6:joinedFacts ppg 5 Tryz.f5 (Rows.OpenSpec.upto SpeU).bare RowU=true:=by unfold joinedFacts;exact(cD (cD (cD (cD (cD (cD (cD (cD (cD (cD (cD (cD (cD (cD (cD (cD (cD (cD (cD (cD (cD (cD (cD (cD (cD (cD (cD (cD (cD (cD (cD ajl ah8) aaD) adv) afd) ads) aff) adq) afb) acu) aix) aiv) ahb) aha) adt) acv) afc) ahc) afg) aiw) aaC) abw) aaE) afe) af9) abx) adu) ah9) afa) adw) adx) ah7)
theorem own:ownKnob Tryz.prog.godebug=none:=jY
theorem UB:Tryz.prog.globalNamed "armplan/sampler.primes" =some 0:=jY
theorem ajA {W:World}(h:laidMetH Tryz.prog RowU.laid W):Lib.TabIs Tryz.prog W "armplan/sampler.primes" .u64 [2,3,5,7,11,13,17,19,23,29]:=
 Lib.tabIs_of_head (rest:=[]) UB (t:=295) (e:=134) (n:=10) jY jY jY jY jY h
theorem aj4 {W:World}(h:laidMetH Tryz.prog RowU.laid W):TabOk (oldF W) W:=by intro g k l a i n c;unfold gTab at a;split at a;{obtain⟨rfl,rfl⟩:=Prod.mk.inj (Option.some.inj a);have b:=(ajA h).cell UB i (List.getElem?_eq_some_iff.1 c).1;refine⟨(S8 b).2,?_⟩;rw[b,List.getD_eq_getElem?_getD,c];rfl};cases a
abbrev zA:Array Value:=#[.slice none 0 0,.slice none 0 0,.slice none 0 0,.slice none 0 0,.int .i64 0,.int .i64 0,.int .i64 0]
noncomputable def DT (c:Os):World:=
 {World.holding Tryz.prog c ⟨#[],#[],[]⟩with heap:=(World.holding Tryz.prog c ⟨#[],#[],[]⟩).heap.modify 0 fun
  | .cells _ t a=>.cells #[.int .u64 2,.int .u64 3,.int .u64 5,.int .u64 7,.int .u64 11,.int .u64 13,.int .u64 17,.int .u64 19,.int .u64 23,.int .u64 29] t a
  |o=>o}
theorem afj (a:Os):laidMet Tryz.prog RowU.laid ((DT a).forCall (λ_ _=>0) ⟨#[],zA,[]⟩).memory:=
 laidMet_of_run' 12 jY jY
theorem ajs (c:Os){H:Type}(b:TypeId×Value->H):∃a,DataW.whole b Tryz.prog ((DT c).forCall (λ_ _=>0) ⟨#[],zA,[]⟩).memory Tryz.f5.params.toList SpeU.vars B zA.toList 8=some ([.nil,.nil,.nil,.nil,.lit (.int .i64 0),.lit (.int .i64 0),.lit (.int .i64 0)],[],a):=
 ⟨[],jY⟩
noncomputable def rp:=RP.cs r33<| .cs r33<| .cs r33<| .cs r33<| .cs r3<| .cs r3<| .cs r3<| .zz
theorem plain (a:List Int×List Int×List Int×List Int×Int×Int×Int×Unit)(h:rp.b a<=1048576):(Hq a.1 a.2.1 a.2.2.1 a.2.2.2.1 a.2.2.2.2.1 a.2.2.2.2.2.1 a.2.2.2.2.2.2.1).o=some true:=by have e:=aj3 (f:=r3.b) (λ_=>Nat.le_refl _);have c:=e (a.1);have d:=e (a.2.1);have g:=e (a.2.2.1);have i:=e (a.2.2.2.1);simp only[rp,RP.cs,RP.zz,r33,RB.lst]at h;exact WE a.1 a.2.1 a.2.2.1 a.2.2.2.1 a.2.2.2.2.1 a.2.2.2.2.2.1 a.2.2.2.2.2.2.1 qa qa qa qa
set_option maxRecDepth 100000 in
theorem aeq (H:Type)(f:TypeId×Value->H)(W:World)(d:Nat)(b:Array Value)(k m:List (DataW H))(c:List MemPlace)
 (g:∀ (j:Nat) t v,Tryz.f5.params[j]?=some t->b[j]?=some v->Value.okWide Tryz.prog W .any d t v)
 (F:DataW.Whole f Tryz.prog Tryz.f5.params.toList SpeU.vars B W b.toList k m c) (G:Rows.uptoSmall H (k++m)=true) (D:laidMetH Tryz.prog RowU.laid W):
 Calls Tryz.prog 5 b W λe o=>∃v,e=.returned v/\SpeU.post f Tryz.prog Tryz.f5 B true B B W b v o:=by
 obtain⟨p,q,l,E,e,I⟩:=F;have hd:∃i d1 d2 d3 d4 d5 d6,k=[i,d1,d2,d3,d4,d5,d6]:=by
  rw[Tryz.params5]at l;obtain⟨_,_,i,_,_,_,_,rfl,rfl,_,r⟩:=trodAll_cons l;obtain⟨_,_,d1,_,_,_,_,rfl,rfl,_,s⟩:=trodAll_cons r;obtain⟨_,_,d2,_,_,_,_,rfl,rfl,_,w⟩:=trodAll_cons s;obtain⟨_,_,d3,_,_,_,_,rfl,rfl,_,x⟩:=trodAll_cons w;obtain⟨_,_,d4,_,_,_,_,rfl,rfl,_,y⟩:=trodAll_cons x;obtain⟨_,_,d5,_,_,_,_,rfl,rfl,_,z⟩:=trodAll_cons y;obtain⟨_,_,d6,_,_,_,_,rfl,rfl,_,C⟩:=trodAll_cons z;obtain⟨_,rfl,_⟩:=trodAll_nil C;exact⟨_,_,_,_,_,_,_,rfl⟩
 obtain⟨i,d1,d2,d3,d4,d5,d6,rfl⟩:=hd;exact aaM (bt:=4) rp (λa h=>⟨_,(Hq a.1 a.2.1 a.2.2.1 a.2.2.2.1 a.2.2.2.2.1 a.2.2.2.2.2.1 a.2.2.2.2.2.2.1).ok _ (plain a h)⟩) (by rw[Tryz.params5]) g ⟨p,q,l,E,e,I⟩ G (aj4 D) rfl rfl jY jY (slices_full_of _ jY) jY jY jY
set_option maxRecDepth 100000 in
theorem lifted (g:Os)(b:g.Started)(H:Type)(a:TypeId×Value->H)(F:Stop.Interp):
 ReturnsInHanded {} Tryz.checked g 5 .any ((Rows.OpenSpec.upto SpeU).preRow a Tryz.prog Tryz.f5 RowU.domain B RowU.laid) (((Rows.OpenSpec.upto SpeU).at F).post a Tryz.prog Tryz.f5 B true B B):=by
 obtain⟨h,p⟩:=ajs g a
 refine returnsInHanded_of_row (C:=Tryz.checked) (s:=Rows.OpenSpec.upto SpeU) own b jY Tryz.func5
  (witness_row_at (enc:=a) (C:=Tryz.checked) B (DT g) zA rfl jY jY jY
   (OpenSpec.preRow_of_cond 8 p jY (λk i=>by cases i;kernel_rfl) jY (afj g))) ?_
 intro W e d j l c f o _ i _ m _ _;exact aeq H a W e d j l c f o (i _ rfl) m
theorem over:RowU.holds Tryz.pinned (Rows.OpenSpec.upto SpeU):=
 OpenClaim.holds_of_cond 5 Tryz.f5 rfl rfl rfl rfl rfl rfl rfl ⟨rfl,rfl,rfl,rfl,rfl⟩ rfl rfl rfl rfl rfl jY Tryz.func5 ai6
  (of_decide_eq_true jY) (by unfold Func.isWrapper;first|(rw[qc (by decide+kernel)];kernel_rfl)|(rw[qb (by decide+kernel)];exact⟨rfl,rfl⟩))
  (λc a H b _ F=>by rw[OpenClaim.pre_eq_preRow];exact lifted c a H b F)
theorem seen (f:FuncId)(fn:Func)(b:ppg.funcNamed "armplan/armplanlaw39.TaskPlanAccepted" =some f)(a:ppg.funcs[f]?=some fn):
 true=ppg.looks []/\∀ (j:Nat) t,fn.params[j]?=some t->ppg.wantsStandIn t=false:=by
 obtain rfl:f=5:=Option.some.inj ((show Tryz.prog.funcNamed "armplan/armplanlaw39.TaskPlanAccepted" =some 5 by kernel_rfl).symm.trans b)|>.symm;obtain rfl:fn=Tryz.f5:=(Option.some.inj (Tryz.func5.symm.trans a)).symm;have h:(Tryz.f5.params.all λt=> !(Tryz.prog.wantsStandIn t))=true:=jY;refine⟨jY,λj t c=>?_⟩;have:=Array.all_eq_true_iff_forall_mem.1 h t (Array.mem_of_getElem? c);rwa[Bool.not_eq_true']at this
theorem fHw:RowU.wfByText (Rows.OpenSpec.upto SpeU)=true:=jY
theorem fHm:ppg.mainIs=some (true, "3ddbb1f2626d22f569b88d4994d74193145e087431aeae349cd6e6ceae1adfab".toList):=jY
theorem adk {P:Program}(h:P.funcs.any Func.goes=B)(f:FuncId):P.goes f=false:=by
 have a:∀g:FuncId,(P.funcs[g]?).any Func.goes=false:=λg=>by
  cases e:P.funcs[g]? with
  |none=>rfl
  |some fn=>
   obtain⟨b,rfl⟩:=Array.getElem?_eq_some_iff.1 e;simpa using Array.any_eq_false.1 h g b
 simp[Program.goes,h,a]
theorem aeD:ppg.funcs.any Func.goes=false:=jY
theorem abv {P:Program}(h:P.funcs.any Func.goes=B)(c:OpenClaim)(a:c.start=.entering):c.goesBy P=false:=by
 unfold OpenClaim.goesBy Program.goesAt Program.goesFrom;rw[a];cases P.funcNamed c.func with
 |none=>rfl
 |some f=>simp[adk h]
theorem fHg:B=RowU.goesBy ppg:=(abv aeD _ rfl).symm
theorem card:Rows.TaskPlanAcceptedUptoCardSaid:=
 Claim7.holds_tied_plain_at .later [] _ _ _ _ over (λ_ h=>by cases h) fHw (λ_ h=>by cases h) taskPlanAcceptedUpto_row_tie rfl ⟨rfl,rfl⟩ fHm rfl seen fHg
end taskPlanAccepted
end Go.Abs
