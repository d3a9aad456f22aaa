/-
  TRoadmapProofs (a part of a claim: our own text).
-/
import Derived.Test.YtciomjhdpbiaeaaGreatYETop
import Derived.Test.YtciomjhdpbiaeaaGreatYED4
import Derived.Test.YtciomjhdpbiaeaaGreatYEJRoadmapProofsb
namespace Go.Abs
open Go.Proofs Go.Proofs.YtciomjhdpbiaeaaGreat Go.ChangeShapes Go.WideShapes Go.ChangeAt Go.RowKit
namespace roadmapProofs
def Sz4 (v:Int):List PVal:=[.int .i64 v]
def Wz0 (v:Int):Prop:=(Lit.int .i64 v).wf=true
def vzx (_:Int):Nat:=1
theorem az06:Rep Tryz.prog 3 Sz4 Wz0 vzx:=az1i (by kernel_rfl)
def Uzk (v:(List Int)):List PVal:=[encL 1 az1 v]
def Izj (v:(List Int)):Prop:=∀a∈v,Wz0 a
def lz2 (v:(List Int)):Nat:=(v.map vzx).sum+1
theorem Wzk:Rep Tryz.prog 22 Uzk Izj lz2:=Wzj (cells:=Sz4) (enc:=az1) (sz:=1) (by kernel_rfl) (by kernel_rfl) (by decide) (fun _=>rfl) (fun _=>rfl) az06
theorem hzn {a b:Bool}(h:a=true)(k:b=true):(a&&b)=true:=by rw[h,k];rfl
set_option maxRecDepth 100000 in
theorem az2d:joinedFacts Tryz.pinned.checked.prog 3 Tryz.f3 (Rows.OpenSpec.upto Rows.roadmapProofsSpec).bare Rows.roadmapProofsUptoRow=true:=by
 unfold joinedFacts
 exact(hzn (hzn (hzn (hzn (hzn (hzn (hzn (hzn (hzn (hzn (hzn (hzn (hzn (hzn (hzn (hzn (hzn (hzn (hzn (hzn (hzn (hzn (hzn (hzn (hzn (hzn (hzn (hzn (hzn (hzn (hzn az45 az13) Ozl) Vzj) Yzf) Vzg) Yzh) Vzf) Yzd) Tzc) az2y) az2w) az16) az15) Vzh) Tzd) Yze) az17) Yzi) az2x) Ozk) Rz2) Ozm) Yzg) Yzb) Rz3) Vzi) az14) Yzc) Vzk) Vzl) az12)
theorem own:ownKnob Tryz.prog.godebug=none:=by kernel_rfl
set_option maxRecDepth 100000 in
theorem Xzn (plain:∀ (a0:(List Int)) (a1:(List Int)) (a2:Int),Izj a0->Izj a1->Wz0 a2->lz2 a0+lz2 a1+vzx a2≤1048576->(dz1 a0 a1 a2).o=some true)(H:Type)(enc:TypeId×Value->H)(W:World)(base:Nat)(args:Array Value)(ds gs:List (DataW H))(before:List MemPlace)
 (hval:∀ (j:Nat) t v,Tryz.f3.params[j]?=some t->args[j]?=some v->Value.okWide Tryz.prog W .any base t v)
 (hW:DataW.Whole enc Tryz.prog Tryz.f3.params.toList Rows.roadmapProofsSpec.vars false W args.toList ds gs before) (hk:Rows.uptoSmall H (ds++gs)=true):
 Calls Tryz.prog 3 args W fun e W'=>∃v,e=.returned v/\Rows.roadmapProofsSpec.post enc Tryz.prog Tryz.f3 false true false false W args v W':=by
 have hW':=hW
 obtain⟨p,q,hA0,hV,rfl,hfz,hnd⟩:=hW
 have hA:DataW.TrodAll enc Tryz.prog W 0 (fun _=>true) true Tryz.f3.params.toList args.toList ds p:=hA0
 rw[Tryz.params3]at hA hval
 obtain⟨v0,vs0,d0,ds0,p0,q0,hargs,rfl,rfl,h0,r0⟩:=trodAll_cons hA
 obtain⟨v1,vs1,d1,ds1,p1,q1,hargs1,rfl,rfl,h1,r1⟩:=trodAll_cons r0
 subst hargs1
 obtain⟨v2,vs2,d2,ds2,p2,q2,hargs2,rfl,rfl,h2,r2⟩:=trodAll_cons r1
 subst hargs2
 obtain⟨rfl,rfl,rfl⟩:=trodAll_nil r2
 obtain rfl:args=#[v0,v1,v2]:=by cases args;simp_all
 obtain⟨rfl,rfl⟩:=trodVars_none hV
 obtain⟨n0,h0⟩:=h0
 obtain⟨a0,c0,o0,b0⟩:=Wzk H enc W _ _ _ h0
 obtain⟨n1,h1⟩:=h1
 obtain⟨a1,c1,o1,b1⟩:=Wzk H enc W _ _ _ h1
 obtain⟨n2,h2⟩:=h2
 obtain⟨a2,c2,o2,b2⟩:=az06 H enc W _ _ _ h2
 have hb:Rows.uptoBulkAll ([d0,d1,d2]++[]:List (DataW H))≤1048576:=of_decide_eq_true hk
 simp only[List.append_nil,Rows.uptoBulkAll]at hb
 have htrue:=plain a0 a1 a2 o0 o1 o2 (by simp only at b0 b1 b2;omega)
 refine Pz9 (bt:=4) ((dz1 a0 a1 a2).ok _ htrue) (fun ρ=>Ez1 (Rz6 (P:=Tryz.prog) (hval 0 22 v0 rfl rfl) (by kernel_rfl) c0) (Ez1 (Rz6 (P:=Tryz.prog) (hval 1 22 v1 rfl rfl) (by kernel_rfl) c1) (Ez1 (Rz6 (P:=Tryz.prog) (hval 2 3 v2 rfl rfl) (by kernel_rfl) c2) (Uz2)))) hW' rfl rfl (by kernel_rfl) (by kernel_rfl) (slices_full_of _ (by kernel_rfl)) ?_ (by kernel_rfl) (by kernel_rfl)
 have hs:Tryz.prog.types.size=380:=by kernel_rfl
 rw[Tryz.params3,hs];simp only[List.mem_cons,List.not_mem_nil,or_false]
 rintro t (rfl|rfl|rfl)<;>decide
set_option maxRecDepth 100000 in
theorem lifted (plain:∀ (a0:(List Int)) (a1:(List Int)) (a2:Int),Izj a0->Izj a1->Wz0 a2->lz2 a0+lz2 a1+vzx a2≤1048576->(dz1 a0 a1 a2).o=some true)(os:Os)(started:os.Started)(H:Type)(enc:TypeId×Value->H)(F:Stop.Interp):
 ReturnsInHanded {} Tryz.checked os 3 .any ((Rows.OpenSpec.upto Rows.roadmapProofsSpec).pre6 enc Tryz.prog Tryz.f3 Rows.roadmapProofsUptoRow.domain false) (((Rows.OpenSpec.upto Rows.roadmapProofsSpec).at F).post enc Tryz.prog Tryz.f3 false true false false):=by
 refine returnsInHanded_of_cond (C:=Tryz.checked) (s:=Rows.OpenSpec.upto Rows.roadmapProofsSpec) (k:=Rows.uptoSmall) rfl own started (by kernel_rfl) Tryz.func3
  (OpenSpec.witness (enc:=enc) (C:=Tryz.checked) (s:=Rows.OpenSpec.upto Rows.roadmapProofsSpec) (k:=Rows.uptoSmall) rfl false ⟨#[],#[.slice none 0 0,.slice none 0 0,.int .i64 0],[]⟩ 8 (by kernel_rfl) (by kernel_rfl) (by kernel_rfl)
   (x:=([.nil,.nil,.lit (.int .i64 0)],[],[])) (by kernel_rfl) rfl (by kernel_rfl)) ?_
 intro W base args ds gs before hval hW _ hk _
 exact Xzn plain H enc W base args ds gs before hval hW hk
theorem over (plain:∀ (a0:(List Int)) (a1:(List Int)) (a2:Int),Izj a0->Izj a1->Wz0 a2->lz2 a0+lz2 a1+vzx a2≤1048576->(dz1 a0 a1 a2).o=some true):Rows.roadmapProofsUptoRow.holds Tryz.pinned (Rows.OpenSpec.upto Rows.roadmapProofsSpec):=
 OpenClaim.holds_of_cond 3 Tryz.f3 rfl rfl rfl rfl rfl rfl rfl ⟨rfl,rfl,rfl,rfl,rfl⟩ rfl rfl rfl rfl rfl (by kernel_rfl) Tryz.func3 az2d
  (of_decide_eq_true (by kernel_rfl)) (by unfold Func.isWrapper;first|(rw[if_pos (by decide+kernel)];kernel_rfl)|(rw[if_neg (by decide+kernel)];exact⟨rfl,rfl⟩))
  (fun os started H enc _ F=>lifted plain os started H enc F)
end roadmapProofs
end Go.Abs
