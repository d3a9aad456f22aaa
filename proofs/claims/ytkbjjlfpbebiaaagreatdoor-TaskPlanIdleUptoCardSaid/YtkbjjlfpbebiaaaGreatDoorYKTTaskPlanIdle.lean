/-
  TTaskPlanIdle (a part of a claim: our own text).
-/
import Derived.Test.YtkbjjlfpbebiaaaGreatDoorYKTop
import Derived.Test.YtkbjjlfpbebiaaaGreatDoorYKD5
import Derived.Test.YtkbjjlfpbebiaaaGreatDoorYKJTaskPlanIdleb
import Derived.Test.YtkbjjlfpbebiaaaGreatDoorCards
import Derived.Test.YtkbjjlfpbebiaaaGreatDoorTie
import Derived.Lib.LaidTab
import Derived.Deep.DeepHandedRow
namespace Go.Abs
open Go.Proofs Go.Proofs.YtkbjjlfpbebiaaaGreatDoor Go.ChangeShapes Go.WideShapes Go.ChangeAt Go.RowKit
namespace taskPlanIdle
def Mz6 (v:Int):List PVal:=[.int .i64 v]
def Vz7 (v:Int):Prop:=(Lit.int .i64 v).wf=true
def Azp (_:Int):Nat:=1
theorem Vzb:Rep Tryz.prog 3 Mz6 Vz7 Azp:=Uz0 (by kernel_rfl)
def Nzu (v:(List Int)):List PVal:=[encL 1 az1 v]
def nzc (v:(List Int)):Prop:=∀a∈v,Vz7 a
def ez9 (v:(List Int)):Nat:=(v.map Azp).sum+1
theorem Lzm:Rep Tryz.prog 36 Nzu nzc ez9:=Pzc (cells:=Mz6) (enc:=az1) (sz:=1) (by kernel_rfl) (by kernel_rfl) (by decide) (fun _=>rfl) (fun _=>rfl) Vzb
theorem gzv {a b:Bool}(h:a=true)(k:b=true):(a&&b)=true:=by rw[h,k];rfl
set_option maxRecDepth 100000 in
theorem Uzp:joinedFacts Tryz.pinned.checked.prog 4 Tryz.f4 (Rows.OpenSpec.upto Rows.taskPlanIdleSpec).bare Rows.taskPlanIdleUptoRow=true:=by
 unfold joinedFacts
 exact(gzv (gzv (gzv (gzv (gzv (gzv (gzv (gzv (gzv (gzv (gzv (gzv (gzv (gzv (gzv (gzv (gzv (gzv (gzv (gzv (gzv (gzv (gzv (gzv (gzv (gzv (gzv (gzv (gzv (gzv (gzv Vzy Tzq) Jz9) Ozp) Rz6) Ozm) Rz8) Ozl) Rz4) Nz7) Vz3) Vz1) Tzt) Tzs) Ozn) Nz8) Rz5) Tzu) Rz9) Vz2) Jz8) Lza) Jza) Rz7) Rz2) Lzb) Ozo) Tzr) Rz3) Ozq) Ozr) Tzp)
theorem own:ownKnob Tryz.prog.godebug=none:=by kernel_rfl
theorem Uzv:Tryz.prog.globalNamed "armplan/sampler.primes" =some 0:=by kernel_rfl
theorem Wza {W:World}(h:laidMetH Tryz.prog Rows.taskPlanIdleUptoRow.laid W):Lib.TabIs Tryz.prog W "armplan/sampler.primes" .u64 [2,3,5,7,11,13,17,19,23,29]:=
 Lib.tabIs_of_head (rest:=[]) Uzv (t:=388) (e:=299) (n:=10) (by kernel_rfl) (by kernel_rfl) (by kernel_rfl) (by kernel_rfl) (by kernel_rfl) h
theorem Vzl {W:World}(h:laidMetH Tryz.prog Rows.taskPlanIdleUptoRow.laid W):TabOk (oldF W) W:=by
 intro g k l hg i n hi
 unfold gTab at hg
 split at hg
 ·obtain⟨rfl,rfl⟩:=Prod.mk.inj (Option.some.inj hg)
  have hc:=(Wza h).cell Uzv i (List.getElem?_eq_some_iff.1 hi).1
  refine⟨(Nzt hc).2,?_⟩
  rw[hc,List.getD_eq_getElem?_getD,hi];rfl
 ·cases hg
noncomputable def Bzo (os:Os):World:=
 {World.holding Tryz.prog os ⟨#[],#[],[]⟩with heap:=(World.holding Tryz.prog os ⟨#[],#[],[]⟩).heap.modify 0 fun
  | .cells _ t frozen=>.cells #[.int .u64 2,.int .u64 3,.int .u64 5,.int .u64 7,.int .u64 11,.int .u64 13,.int .u64 17,.int .u64 19,.int .u64 23,.int .u64 29] t frozen
  |o=>o}
theorem Rza (os:Os):laidMet Tryz.prog Rows.taskPlanIdleUptoRow.laid ((Bzo os).forCall (fun _ _=>0) ⟨#[],#[.slice none 0 0,.slice none 0 0,.slice none 0 0],[]⟩).memory:=
 laidMet_of_run' 12 (by kernel_rfl) (by kernel_rfl)
theorem Wz4 (os:Os){H:Type}(enc:TypeId×Value->H):∃places,DataW.whole enc Tryz.prog ((Bzo os).forCall (fun _ _=>0) ⟨#[],#[.slice none 0 0,.slice none 0 0,.slice none 0 0],[]⟩).memory Tryz.f4.params.toList Rows.taskPlanIdleSpec.vars false (#[.slice none 0 0,.slice none 0 0,.slice none 0 0]:Array Value).toList 8=some ([.nil,.nil,.nil],[],places):=
 ⟨[],by kernel_rfl⟩
set_option maxRecDepth 100000 in
theorem Qz2 (plain:∀ (a0:(List Int)) (a1:(List Int)) (a2:(List Int)),nzc a0->nzc a1->nzc a2->ez9 a0+ez9 a1+ez9 a2≤1048576->(czo a0 a1 a2).o=some true)(H:Type)(enc:TypeId×Value->H)(W:World)(base:Nat)(args:Array Value)(ds gs:List (DataW H))(before:List MemPlace)
 (hval:∀ (j:Nat) t v,Tryz.f4.params[j]?=some t->args[j]?=some v->Value.okWide Tryz.prog W .any base t v)
 (hW:DataW.Whole enc Tryz.prog Tryz.f4.params.toList Rows.taskPlanIdleSpec.vars false W args.toList ds gs before) (hk:Rows.uptoSmall H (ds++gs)=true) (hL:laidMetH Tryz.prog Rows.taskPlanIdleUptoRow.laid W):
 Calls Tryz.prog 4 args W fun e W'=>∃v,e=.returned v/\Rows.taskPlanIdleSpec.post enc Tryz.prog Tryz.f4 false true false false W args v W':=by
 have hW':=hW
 obtain⟨p,q,hA0,hV,rfl,hfz,hnd⟩:=hW
 have hA:DataW.TrodAll enc Tryz.prog W 0 (fun _=>true) true Tryz.f4.params.toList args.toList ds p:=hA0
 rw[Tryz.params4]at hA hval
 obtain⟨v0,vs0,d0,ds0,p0,q0,hargs,rfl,rfl,h0,r0⟩:=trodAll_cons hA
 obtain⟨v1,vs1,d1,ds1,p1,q1,hargs1,rfl,rfl,h1,r1⟩:=trodAll_cons r0
 subst hargs1
 obtain⟨v2,vs2,d2,ds2,p2,q2,hargs2,rfl,rfl,h2,r2⟩:=trodAll_cons r1
 subst hargs2
 obtain⟨rfl,rfl,rfl⟩:=trodAll_nil r2
 obtain rfl:args=#[v0,v1,v2]:=by cases args;simp_all
 obtain⟨rfl,rfl⟩:=trodVars_none hV
 obtain⟨n0,h0⟩:=h0
 obtain⟨a0,c0,o0,b0⟩:=Lzm H enc W _ _ _ h0
 obtain⟨n1,h1⟩:=h1
 obtain⟨a1,c1,o1,b1⟩:=Lzm H enc W _ _ _ h1
 obtain⟨n2,h2⟩:=h2
 obtain⟨a2,c2,o2,b2⟩:=Lzm H enc W _ _ _ h2
 have hb:Rows.uptoBulkAll ([d0,d1,d2]++[]:List (DataW H))≤1048576:=of_decide_eq_true hk
 simp only[List.append_nil,Rows.uptoBulkAll]at hb
 have htrue:=plain a0 a1 a2 o0 o1 o2 (by simp only at b0 b1 b2;omega)
 refine Jzw (bt:=4) ((czo a0 a1 a2).ok _ htrue) (Vzl hL) (fun ρ=>wz1 (Lzf (P:=Tryz.prog) (hval 0 36 v0 rfl rfl) (by kernel_rfl) c0) (wz1 (Lzf (P:=Tryz.prog) (hval 1 36 v1 rfl rfl) (by kernel_rfl) c1) (wz1 (Lzf (P:=Tryz.prog) (hval 2 36 v2 rfl rfl) (by kernel_rfl) c2) (Nzp)))) hW' rfl rfl (by kernel_rfl) (by kernel_rfl) (slices_full_of _ (by kernel_rfl)) ?_ (by kernel_rfl) (by kernel_rfl)
 have hs:Tryz.prog.types.size=556:=by kernel_rfl
 rw[Tryz.params4,hs];simp only[List.mem_cons,List.not_mem_nil,or_false]
 rintro t (rfl|rfl|rfl)<;>decide
set_option maxRecDepth 100000 in
theorem lifted (plain:∀ (a0:(List Int)) (a1:(List Int)) (a2:(List Int)),nzc a0->nzc a1->nzc a2->ez9 a0+ez9 a1+ez9 a2≤1048576->(czo a0 a1 a2).o=some true)(os:Os)(started:os.Started)(H:Type)(enc:TypeId×Value->H)(F:Stop.Interp):
 ReturnsInHanded {} Tryz.checked os 4 .any ((Rows.OpenSpec.upto Rows.taskPlanIdleSpec).preRow enc Tryz.prog Tryz.f4 Rows.taskPlanIdleUptoRow.domain false Rows.taskPlanIdleUptoRow.laid) (((Rows.OpenSpec.upto Rows.taskPlanIdleSpec).at F).post enc Tryz.prog Tryz.f4 false true false false):=by
 obtain⟨places,hx⟩:=Wz4 os enc
 refine returnsInHanded_of_row (C:=Tryz.checked) (s:=Rows.OpenSpec.upto Rows.taskPlanIdleSpec) own started (by kernel_rfl) Tryz.func4
  (witness_row_at (enc:=enc) (C:=Tryz.checked) false (Bzo os) #[.slice none 0 0,.slice none 0 0,.slice none 0 0] rfl (by kernel_rfl) (by kernel_rfl) (by kernel_rfl)
   (OpenSpec.preRow_of_cond 8 hx (by kernel_rfl) (fun k hk=>by cases hk;kernel_rfl) (by kernel_rfl) (Rza os))) ?_
 intro W base args ds gs before hval hW _ hk _ hL _ _
 exact Qz2 plain H enc W base args ds gs before hval hW (hk _ rfl) hL
theorem over (plain:∀ (a0:(List Int)) (a1:(List Int)) (a2:(List Int)),nzc a0->nzc a1->nzc a2->ez9 a0+ez9 a1+ez9 a2≤1048576->(czo a0 a1 a2).o=some true):Rows.taskPlanIdleUptoRow.holds Tryz.pinned (Rows.OpenSpec.upto Rows.taskPlanIdleSpec):=
 OpenClaim.holds_of_cond 4 Tryz.f4 rfl rfl rfl rfl rfl rfl rfl ⟨rfl,rfl,rfl,rfl,rfl⟩ rfl rfl rfl rfl rfl (by kernel_rfl) Tryz.func4 Uzp
  (of_decide_eq_true (by kernel_rfl)) (by unfold Func.isWrapper;first|(rw[if_pos (by decide+kernel)];kernel_rfl)|(rw[if_neg (by decide+kernel)];exact⟨rfl,rfl⟩))
  (fun os started H enc _ F=>by rw[OpenClaim.pre_eq_preRow];exact lifted plain os started H enc F)
theorem seen (f:FuncId)(fn:Func)(hf:Tryz.pinned.checked.prog.funcNamed "armplan/armplanlaw39.TaskPlanIdle" =some f)(hfn:Tryz.pinned.checked.prog.funcs[f]?=some fn):
 true=Tryz.pinned.checked.prog.looks []/\∀ (j:Nat) t,fn.params[j]?=some t->Tryz.pinned.checked.prog.wantsStandIn t=false:=by
 obtain rfl:f=4:=Option.some.inj ((show Tryz.prog.funcNamed "armplan/armplanlaw39.TaskPlanIdle" =some 4 by kernel_rfl).symm.trans hf)|>.symm
 obtain rfl:fn=Tryz.f4:=(Option.some.inj (Tryz.func4.symm.trans hfn)).symm
 have h:(Tryz.f4.params.all fun t=> !(Tryz.prog.wantsStandIn t))=true:=by kernel_rfl
 refine⟨by kernel_rfl,fun j t ht=>?_⟩
 have:=Array.all_eq_true_iff_forall_mem.1 h t (Array.mem_of_getElem? ht)
 rwa[Bool.not_eq_true']at this
theorem fHw:Rows.taskPlanIdleUptoRow.wfByText (Rows.OpenSpec.upto Rows.taskPlanIdleSpec)=true:=by kernel_rfl
theorem fHm:Tryz.pinned.checked.prog.mainIs=some (true, "20f648a118fa607ea0c58112d32dfa76340436a1531f8d66ad4d76fb528b1b58".toList):=by kernel_rfl
theorem Oza {P:Program}(h:P.funcs.any Func.goes=false)(f:FuncId):P.goes f=false:=by
 have h':∀g:FuncId,(P.funcs[g]?).any Func.goes=false:=fun g=>by
  cases e:P.funcs[g]? with
  |none=>rfl
  |some fn=>
   obtain⟨hg,rfl⟩:=Array.getElem?_eq_some_iff.1 e
   simpa using Array.any_eq_false.1 h g hg
 simp[Program.goes,h,h']
theorem Qz9:Tryz.pinned.checked.prog.funcs.any Func.goes=false:=by kernel_rfl
theorem Lz7 {P:Program}(h:P.funcs.any Func.goes=false)(c:OpenClaim)(hs:c.start=.entering):c.goesBy P=false:=by
 unfold OpenClaim.goesBy Program.goesAt Program.goesFrom
 rw[hs]
 cases P.funcNamed c.func with
 |none=>rfl
 |some f=>simp[Oza h]
theorem fHg:false=Rows.taskPlanIdleUptoRow.goesBy Tryz.pinned.checked.prog:=(Lz7 Qz9 _ rfl).symm
theorem card (plain:∀ (a0:(List Int)) (a1:(List Int)) (a2:(List Int)),nzc a0->nzc a1->nzc a2->ez9 a0+ez9 a1+ez9 a2≤1048576->(czo a0 a1 a2).o=some true):Rows.TaskPlanIdleUptoCardSaid:=
 Claim7.holds_tied_plain_at .later [] _ _ _ _ (over plain) (fun _ h=>by cases h) fHw (fun _ h=>by cases h) taskPlanIdleUpto_row_tie rfl ⟨rfl,rfl⟩ fHm rfl seen fHg
end taskPlanIdle
end Go.Abs
