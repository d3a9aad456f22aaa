import Derived.Test.YtagmfmidaochlaaGreatDoorZGTop
import Derived.Test.YtagmfmidaochlaaGreatDoorZGJTaskPlanMotionsb
import Derived.Test.YtagmfmidaochlaaGreatDoorZGDL6
import Derived.Test.YtagmfmidaochlaaGreatDoorZGSums
import Derived.Test.YtagmfmidaochlaaGreatDoorCards
import Derived.Test.YtagmfmidaochlaaGreatDoorTie
import Derived.Lib.LaidTab
import Derived.Deep.DeepHandedRow
open Bool renaming false->B
noncomputable section
namespace Go.Abs
open Go.Proofs Go.Proofs.YtagmfmidaochlaaGreatDoor Go.ChangeShapes Go.WideShapes Go.ChangeAt Go.RowKit
open Go.Proofs.YtagmfmidaochlaaGreatDoor.Rows renaming taskPlanMotionsUptoRow ->RowU,taskPlanMotionsSpec ->SpeU
namespace taskPlanMotions
noncomputable def r9:RB Tryz.prog 9 ByteArray:=.str
noncomputable def r3:RB Tryz.prog 3 Int:=.int
noncomputable def r2:RB Tryz.prog 2 Int:=.int
noncomputable def r70:RB Tryz.prog 70 (Int×Int×Int):=.ar (n:=3) (e:=2) (p:=1) (.cs r2<| .cs r2<| .cs r2<| .zz) λp=>(p.1,p.2.1,p.2.2.1)
noncomputable def r85:RB Tryz.prog 85 cq:=.st (.cs r9<| .cs r3<| .cs r3<| .cs r70<| .cs r2<| .cs r2<| .cs r2<| .cs r2<| .cs r2<| .cs r2<| .zz) λp=>⟨p.1,p.2.1,p.2.2.1,p.2.2.2.1,p.2.2.2.2.1,p.2.2.2.2.2.1,p.2.2.2.2.2.2.1,p.2.2.2.2.2.2.2.1,p.2.2.2.2.2.2.2.2.1,p.2.2.2.2.2.2.2.2.2.1⟩
noncomputable def r22:RB Tryz.prog 22 (List cq):=.lst r85
noncomputable def r129:RB Tryz.prog 129 fu:=.st (.cs r3<| .cs r2<| .cs r70<| .zz) λp=>⟨p.1,p.2.1,p.2.2.1⟩
noncomputable def r23:RB Tryz.prog 23 (List fu):=.lst r129
noncomputable def r25:RB Tryz.prog 25 ao:=.st (.cs r22<| .cs r23<| .zz) λp=>⟨p.1,p.2.1⟩
noncomputable def r43:RB Tryz.prog 43 (List (Int×Int×Int)):=.lst r70
noncomputable def r72:RB Tryz.prog 72 bW:=.st (.cs r3<| .cs r2<| .cs r43<| .zz) λp=>⟨p.1,p.2.1,p.2.2.1⟩
noncomputable def r26:RB Tryz.prog 26 (List bW):=.lst r72
noncomputable def r75:RB Tryz.prog 75 kE:=.st (.cs r3<| .cs r3<| .zz) λp=>⟨p.1,p.2.1⟩
noncomputable def r27:RB Tryz.prog 27 (List kE):=.lst r75
noncomputable def r29:RB Tryz.prog 29 ak:=.st (.cs r25<| .cs r26<| .cs r27<| .zz) λp=>⟨p.1,p.2.1,p.2.2.1⟩
noncomputable def r30:RB Tryz.prog 30 (List Int):=.lst r2
noncomputable def r32:RB Tryz.prog 32 bX:=.st (.cs r3<| .cs r3<| .cs r3<| .cs r3<| .zz) λp=>⟨p.1,p.2.1,p.2.2.1,p.2.2.2.1⟩
noncomputable def r33:RB Tryz.prog 33 (List Int):=.lst r3
theorem cJ {a b:Bool}(h:a=true)(k:b=true):(a&&b)=true:=by rw[h,k];rfl
set_option maxRecDepth 100000 in
theorem aiR:joinedFacts ppg 3 Tryz.f3 (Rows.OpenSpec.upto SpeU).bare RowU=true:=by unfold joinedFacts;exact(cJ (cJ (cJ (cJ (cJ (cJ (cJ (cJ (cJ (cJ (cJ (cJ (cJ (cJ (cJ (cJ (cJ (cJ (cJ (cJ (cJ (cJ (cJ (cJ (cJ (cJ (cJ (cJ (cJ (cJ (cJ ak4 ai1) abr) aeD) agu) aeA) agw) aez) ags) adz) aje) ajc) ai4) ai3) aeB) adA) agt) ai5) agx) ajd) abq) acy) abs) agv) agq) acz) aeC) ai2) agr) aeE) aeF) ai0)
theorem own:ownKnob Tryz.prog.godebug=none:=jY
theorem UZ:Tryz.prog.globalNamed "armplan/sampler.primes" =some 0:=jY
theorem aki {W:World}(h:laidMetH Tryz.prog RowU.laid W):Lib.TabIs Tryz.prog W "armplan/sampler.primes" .u64 [2,3,5,7,11,13,17,19,23,29]:=
 Lib.tabIs_of_head (rest:=[]) UZ (t:=295) (e:=134) (n:=10) jY jY jY jY jY h
theorem ajL {W:World}(h:laidMetH Tryz.prog RowU.laid W):TabOk (oldF W) W:=by intro g k l a i n c;unfold gTab at a;split at a;{obtain⟨rfl,rfl⟩:=Prod.mk.inj (Option.some.inj a);have b:=(aki h).cell UZ i (List.getElem?_eq_some_iff.1 c).1;refine⟨(Tz b).2,?_⟩;rw[b,List.getD_eq_getElem?_getD,c];rfl};cases a
abbrev zA:Array Value:=#[.agg #[.slice none 0 0,.slice none 0 0,.slice none 0 0,.slice none 0 0],.slice none 0 0,.slice none 0 0,.agg #[.int .i64 0,.int .i64 0,.int .i64 0,.int .i64 0],.slice none 0 0,.slice none 0 0,.slice none 0 0,.int .i64 0,.int .i64 0]
noncomputable def FA (c:Os):World:=
 {World.holding Tryz.prog c ⟨#[],#[],[]⟩with heap:=(World.holding Tryz.prog c ⟨#[],#[],[]⟩).heap.modify 0 fun
  | .cells _ t a=>.cells #[.int .u64 2,.int .u64 3,.int .u64 5,.int .u64 7,.int .u64 11,.int .u64 13,.int .u64 17,.int .u64 19,.int .u64 23,.int .u64 29] t a
  |o=>o}
theorem agA (a:Os):laidMet Tryz.prog RowU.laid ((FA a).forCall (λ_ _=>0) ⟨#[],zA,[]⟩).memory:=
 laidMet_of_run' 12 jY jY
theorem akc (c:Os){H:Type}(b:TypeId×Value->H):∃a,DataW.whole b Tryz.prog ((FA c).forCall (λ_ _=>0) ⟨#[],zA,[]⟩).memory Tryz.f3.params.toList SpeU.vars B zA.toList 8=some ([.agg [.agg [.nil,.nil],.nil,.nil],.nil,.nil,.agg [.lit (.int .i64 0),.lit (.int .i64 0),.lit (.int .i64 0),.lit (.int .i64 0)],.nil,.nil,.nil,.lit (.int .i64 0),.lit (.int .i64 0)],[],a):=
 ⟨[],jY⟩
noncomputable def rp:=RP.cs r29<| .cs r30<| .cs r30<| .cs r32<| .cs r33<| .cs r33<| .cs r33<| .cs r3<| .cs r3<| .zz
theorem plain (a:ak×List Int×List Int×bX×List Int×List Int×List Int×Int×Int×Unit)(h:rp.b a<=1048576):(IW a.1 a.2.1 a.2.2.1 a.2.2.2.1 a.2.2.2.2.1 a.2.2.2.2.2.1 a.2.2.2.2.2.2.1 a.2.2.2.2.2.2.2.1 a.2.2.2.2.2.2.2.2.1).o=some true:=by have e:=ajK (f:=r3.b) (λ_=>Nat.le_refl _);have c:=e (a.2.2.2.2.1);have d:=e (a.2.2.2.2.2.1);have g:=e (a.2.2.2.2.2.2.1);simp only[rp,RP.cs,RP.zz,r33,RB.lst]at h;exact Ya a.1 a.2.1 a.2.2.1 a.2.2.2.1 a.2.2.2.2.1 a.2.2.2.2.2.1 a.2.2.2.2.2.2.1 a.2.2.2.2.2.2.2.1 a.2.2.2.2.2.2.2.2.1 qa qa qa
set_option maxRecDepth 100000 in
theorem afG (H:Type)(f:TypeId×Value->H)(W:World)(d:Nat)(b:Array Value)(k m:List (DataW H))(c:List MemPlace)
 (g:∀ (j:Nat) t v,Tryz.f3.params[j]?=some t->b[j]?=some v->Value.okWide Tryz.prog W .any d t v)
 (I:DataW.Whole f Tryz.prog Tryz.f3.params.toList SpeU.vars B W b.toList k m c) (J:Rows.uptoSmall H (k++m)=true) (F:laidMetH Tryz.prog RowU.laid W):
 Calls Tryz.prog 3 b W λe o=>∃v,e=.returned v/\SpeU.post f Tryz.prog Tryz.f3 B true B B W b v o:=by
 obtain⟨p,q,l,G,e,K⟩:=I;have hd:∃i d1 d2 d3 d4 d5 d6 d7 d8,k=[i,d1,d2,d3,d4,d5,d6,d7,d8]:=by
  rw[Tryz.params3]at l;obtain⟨_,_,i,_,_,_,_,rfl,rfl,_,r⟩:=trodAll_cons l;obtain⟨_,_,d1,_,_,_,_,rfl,rfl,_,s⟩:=trodAll_cons r;obtain⟨_,_,d2,_,_,_,_,rfl,rfl,_,w⟩:=trodAll_cons s;obtain⟨_,_,d3,_,_,_,_,rfl,rfl,_,x⟩:=trodAll_cons w;obtain⟨_,_,d4,_,_,_,_,rfl,rfl,_,y⟩:=trodAll_cons x;obtain⟨_,_,d5,_,_,_,_,rfl,rfl,_,z⟩:=trodAll_cons y;obtain⟨_,_,d6,_,_,_,_,rfl,rfl,_,C⟩:=trodAll_cons z;obtain⟨_,_,d7,_,_,_,_,rfl,rfl,_,D⟩:=trodAll_cons C;obtain⟨_,_,d8,_,_,_,_,rfl,rfl,_,E⟩:=trodAll_cons D;obtain⟨_,rfl,_⟩:=trodAll_nil E;exact⟨_,_,_,_,_,_,_,_,_,rfl⟩
 obtain⟨i,d1,d2,d3,d4,d5,d6,d7,d8,rfl⟩:=hd;exact abH (bt:=4) rp (λa h=>⟨_,(IW a.1 a.2.1 a.2.2.1 a.2.2.2.1 a.2.2.2.2.1 a.2.2.2.2.2.1 a.2.2.2.2.2.2.1 a.2.2.2.2.2.2.2.1 a.2.2.2.2.2.2.2.2.1).ok _ (plain a h)⟩) (by rw[Tryz.params3]) g ⟨p,q,l,G,e,K⟩ J (ajL F) rfl rfl jY jY (slices_full_of _ jY) jY jY jY
set_option maxRecDepth 100000 in
theorem lifted (g:Os)(b:g.Started)(H:Type)(a:TypeId×Value->H)(F:Stop.Interp):
 ReturnsInHanded {} Tryz.checked g 3 .any ((Rows.OpenSpec.upto SpeU).preRow a Tryz.prog Tryz.f3 RowU.domain B RowU.laid) (((Rows.OpenSpec.upto SpeU).at F).post a Tryz.prog Tryz.f3 B true B B):=by
 obtain⟨h,p⟩:=akc g a
 refine returnsInHanded_of_row (C:=Tryz.checked) (s:=Rows.OpenSpec.upto SpeU) own b jY Tryz.func3
  (witness_row_at (enc:=a) (C:=Tryz.checked) B (FA g) zA rfl jY jY jY
   (OpenSpec.preRow_of_cond 8 p jY (λk i=>by cases i;kernel_rfl) jY (agA g))) ?_
 intro W e d j l c f o _ i _ m _ _;exact afG H a W e d j l c f o (i _ rfl) m
theorem over:RowU.holds Tryz.pinned (Rows.OpenSpec.upto SpeU):=
 OpenClaim.holds_of_cond 3 Tryz.f3 rfl rfl rfl rfl rfl rfl rfl ⟨rfl,rfl,rfl,rfl,rfl⟩ rfl rfl rfl rfl rfl jY Tryz.func3 aiR
  (of_decide_eq_true jY) (by unfold Func.isWrapper;first|(rw[qc (by decide+kernel)];kernel_rfl)|(rw[qb (by decide+kernel)];exact⟨rfl,rfl⟩))
  (λc a H b _ F=>by rw[OpenClaim.pre_eq_preRow];exact lifted c a H b F)
theorem seen (f:FuncId)(fn:Func)(b:ppg.funcNamed "armplan/armplanlaw39.TaskPlanMotions" =some f)(a:ppg.funcs[f]?=some fn):
 true=ppg.looks []/\∀ (j:Nat) t,fn.params[j]?=some t->ppg.wantsStandIn t=false:=by
 obtain rfl:f=3:=Option.some.inj ((show Tryz.prog.funcNamed "armplan/armplanlaw39.TaskPlanMotions" =some 3 by kernel_rfl).symm.trans b)|>.symm;obtain rfl:fn=Tryz.f3:=(Option.some.inj (Tryz.func3.symm.trans a)).symm;have h:(Tryz.f3.params.all λt=> !(Tryz.prog.wantsStandIn t))=true:=jY;refine⟨jY,λj t c=>?_⟩;have:=Array.all_eq_true_iff_forall_mem.1 h t (Array.mem_of_getElem? c);rwa[Bool.not_eq_true']at this
theorem fHw:RowU.wfByText (Rows.OpenSpec.upto SpeU)=true:=jY
theorem fHm:ppg.mainIs=some (true, "3ddbb1f2626d22f569b88d4994d74193145e087431aeae349cd6e6ceae1adfab".toList):=jY
theorem aet {P:Program}(h:P.funcs.any Func.goes=B)(f:FuncId):P.goes f=false:=by
 have a:∀g:FuncId,(P.funcs[g]?).any Func.goes=false:=λg=>by
  cases e:P.funcs[g]? with
  |none=>rfl
  |some fn=>
   obtain⟨b,rfl⟩:=Array.getElem?_eq_some_iff.1 e;simpa using Array.any_eq_false.1 h g b
 simp[Program.goes,h,a]
theorem afR:ppg.funcs.any Func.goes=false:=jY
theorem acx {P:Program}(h:P.funcs.any Func.goes=B)(c:OpenClaim)(a:c.start=.entering):c.goesBy P=false:=by
 unfold OpenClaim.goesBy Program.goesAt Program.goesFrom;rw[a];cases P.funcNamed c.func with
 |none=>rfl
 |some f=>simp[aet h]
theorem fHg:B=RowU.goesBy ppg:=(acx afR _ rfl).symm
theorem card:Rows.TaskPlanMotionsUptoCardSaid:=
 Claim7.holds_tied_plain_at .later [] _ _ _ _ over (λ_ h=>by cases h) fHw (λ_ h=>by cases h) taskPlanMotionsUpto_row_tie rfl ⟨rfl,rfl⟩ fHm rfl seen fHg
end taskPlanMotions
end Go.Abs
