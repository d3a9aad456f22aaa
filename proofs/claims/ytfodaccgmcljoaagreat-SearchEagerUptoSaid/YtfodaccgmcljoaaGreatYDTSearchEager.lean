/-
  TSearchEager (a part of a claim: our own text).
-/
import Derived.Test.YtfodaccgmcljoaaGreatYDTop
import Derived.Test.YtfodaccgmcljoaaGreatYDD3
import Derived.Test.YtfodaccgmcljoaaGreatYDJSearchEagerb
namespace Go.Abs
open Go.Proofs Go.Proofs.YtfodaccgmcljoaaGreat Go.ChangeShapes Go.WideShapes Go.ChangeAt Go.RowKit
namespace searchEager
def Bzw (v:Int):List PVal:=[.int .i64 v]
def fz1 (v:Int):Prop:=(Lit.int .i64 v).wf=true
def bzb (_:Int):Nat:=1
theorem gzi:Rep Tryz.prog 3 Bzw fz1 bzb:=Tz4 (by kernel_rfl)
def Hzf (v:(List Int)):List PVal:=[encL 1 az3 v]
def pz0 (v:(List Int)):Prop:=∀a∈v,fz1 a
def ez1 (v:(List Int)):Nat:=(v.map bzb).sum+1
theorem Jze:Rep Tryz.prog 34 Hzf pz0 ez1:=hz9 (cells:=Bzw) (enc:=az3) (sz:=1) (by kernel_rfl) (by kernel_rfl) (by decide) (fun _=>rfl) (fun _=>rfl) gzi
theorem dz7 {a b:Bool}(h:a=true)(k:b=true):(a&&b)=true:=by rw[h,k];rfl
set_option maxRecDepth 100000 in
theorem Wzy:joinedFacts Tryz.pinned.checked.prog 4 Tryz.f4 (Rows.OpenSpec.upto Rows.searchEagerSpec).bare Rows.searchEagerUptoRow=true:=by
 unfold joinedFacts
 exact(dz7 (dz7 (dz7 (dz7 (dz7 (dz7 (dz7 (dz7 (dz7 (dz7 (dz7 (dz7 (dz7 (dz7 (dz7 (dz7 (dz7 (dz7 (dz7 (dz7 (dz7 (dz7 (dz7 (dz7 (dz7 (dz7 (dz7 (dz7 (dz7 (dz7 (dz7 az3o Szi) wzw) Iz7) Nz2) Iz4) Nz4) Iz3) Nz0) Ezi) Xzw) Xzu) Szl) Szk) Iz5) Ezj) Nz1) Szm) Nz5) Xzv) wzv) Azx) wzx) Nz3) Mzy) Azy) Iz6) Szj) Mzz) Iz8) Iz9) Szh)
theorem own:ownKnob Tryz.prog.godebug=none:=by kernel_rfl
set_option maxRecDepth 100000 in
theorem Mzb (plain:∀ (a0:(List Int)) (a1:(List Int)) (a2:Int) (a3:Int) (a4:Int) (a5:Int),pz0 a0->pz0 a1->fz1 a2->fz1 a3->fz1 a4->fz1 a5->ez1 a0+ez1 a1+bzb a2+bzb a3+bzb a4+bzb a5≤1048576->(dzv a0 a1 a2 a3 a4 a5).o=some true)(H:Type)(enc:TypeId×Value->H)(W:World)(base:Nat)(args:Array Value)(ds gs:List (DataW H))(before:List MemPlace)
 (hval:∀ (j:Nat) t v,Tryz.f4.params[j]?=some t->args[j]?=some v->Value.okWide Tryz.prog W .any base t v)
 (hW:DataW.Whole enc Tryz.prog Tryz.f4.params.toList Rows.searchEagerSpec.vars false W args.toList ds gs before) (hk:Rows.uptoSmall H (ds++gs)=true):
 Calls Tryz.prog 4 args W fun e W'=>∃v,e=.returned v/\Rows.searchEagerSpec.post enc Tryz.prog Tryz.f4 false true false false W args v W':=by
 have hW':=hW
 obtain⟨p,q,hA0,hV,rfl,hfz,hnd⟩:=hW
 have hA:DataW.TrodAll enc Tryz.prog W 0 (fun _=>true) true Tryz.f4.params.toList args.toList ds p:=hA0
 rw[Tryz.params4]at hA hval
 obtain⟨v0,vs0,d0,ds0,p0,q0,hargs,rfl,rfl,h0,r0⟩:=trodAll_cons hA
 obtain⟨v1,vs1,d1,ds1,p1,q1,hargs1,rfl,rfl,h1,r1⟩:=trodAll_cons r0
 subst hargs1
 obtain⟨v2,vs2,d2,ds2,p2,q2,hargs2,rfl,rfl,h2,r2⟩:=trodAll_cons r1
 subst hargs2
 obtain⟨v3,vs3,d3,ds3,p3,q3,hargs3,rfl,rfl,h3,r3⟩:=trodAll_cons r2
 subst hargs3
 obtain⟨v4,vs4,d4,ds4,p4,q4,hargs4,rfl,rfl,h4,r4⟩:=trodAll_cons r3
 subst hargs4
 obtain⟨v5,vs5,d5,ds5,p5,q5,hargs5,rfl,rfl,h5,r5⟩:=trodAll_cons r4
 subst hargs5
 obtain⟨rfl,rfl,rfl⟩:=trodAll_nil r5
 obtain rfl:args=#[v0,v1,v2,v3,v4,v5]:=by cases args;simp_all
 obtain⟨rfl,rfl⟩:=trodVars_none hV
 obtain⟨n0,h0⟩:=h0
 obtain⟨a0,c0,o0,b0⟩:=Jze H enc W _ _ _ h0
 obtain⟨n1,h1⟩:=h1
 obtain⟨a1,c1,o1,b1⟩:=Jze H enc W _ _ _ h1
 obtain⟨n2,h2⟩:=h2
 obtain⟨a2,c2,o2,b2⟩:=gzi H enc W _ _ _ h2
 obtain⟨n3,h3⟩:=h3
 obtain⟨a3,c3,o3,b3⟩:=gzi H enc W _ _ _ h3
 obtain⟨n4,h4⟩:=h4
 obtain⟨a4,c4,o4,b4⟩:=gzi H enc W _ _ _ h4
 obtain⟨n5,h5⟩:=h5
 obtain⟨a5,c5,o5,b5⟩:=gzi H enc W _ _ _ h5
 have hb:Rows.uptoBulkAll ([d0,d1,d2,d3,d4,d5]++[]:List (DataW H))≤1048576:=of_decide_eq_true hk
 simp only[List.append_nil,Rows.uptoBulkAll]at hb
 have htrue:=plain a0 a1 a2 a3 a4 a5 o0 o1 o2 o3 o4 o5 (by simp only at b0 b1 b2 b3 b4 b5;omega)
 refine Fzu (bt:=4) ((dzv a0 a1 a2 a3 a4 a5).ok _ htrue) (fun ρ=>dzq (jzw (P:=Tryz.prog) (hval 0 34 v0 rfl rfl) (by kernel_rfl) c0) (dzq (jzw (P:=Tryz.prog) (hval 1 34 v1 rfl rfl) (by kernel_rfl) c1) (dzq (jzw (P:=Tryz.prog) (hval 2 3 v2 rfl rfl) (by kernel_rfl) c2) (dzq (jzw (P:=Tryz.prog) (hval 3 3 v3 rfl rfl) (by kernel_rfl) c3) (dzq (jzw (P:=Tryz.prog) (hval 4 3 v4 rfl rfl) (by kernel_rfl) c4) (dzq (jzw (P:=Tryz.prog) (hval 5 3 v5 rfl rfl) (by kernel_rfl) c5) (Ozu))))))) hW' rfl rfl (by kernel_rfl) (by kernel_rfl) (slices_full_of _ (by kernel_rfl)) ?_ (by kernel_rfl) (by kernel_rfl)
 have hs:Tryz.prog.types.size=364:=by kernel_rfl
 rw[Tryz.params4,hs];simp only[List.mem_cons,List.not_mem_nil,or_false]
 rintro t (rfl|rfl|rfl|rfl|rfl|rfl)<;>decide
set_option maxRecDepth 100000 in
theorem lifted (plain:∀ (a0:(List Int)) (a1:(List Int)) (a2:Int) (a3:Int) (a4:Int) (a5:Int),pz0 a0->pz0 a1->fz1 a2->fz1 a3->fz1 a4->fz1 a5->ez1 a0+ez1 a1+bzb a2+bzb a3+bzb a4+bzb a5≤1048576->(dzv a0 a1 a2 a3 a4 a5).o=some true)(os:Os)(started:os.Started)(H:Type)(enc:TypeId×Value->H)(F:Stop.Interp):
 ReturnsInHanded {} Tryz.checked os 4 .any ((Rows.OpenSpec.upto Rows.searchEagerSpec).pre6 enc Tryz.prog Tryz.f4 Rows.searchEagerUptoRow.domain false) (((Rows.OpenSpec.upto Rows.searchEagerSpec).at F).post enc Tryz.prog Tryz.f4 false true false false):=by
 refine returnsInHanded_of_cond (C:=Tryz.checked) (s:=Rows.OpenSpec.upto Rows.searchEagerSpec) (k:=Rows.uptoSmall) rfl own started (by kernel_rfl) Tryz.func4
  (OpenSpec.witness (enc:=enc) (C:=Tryz.checked) (s:=Rows.OpenSpec.upto Rows.searchEagerSpec) (k:=Rows.uptoSmall) rfl false ⟨#[],#[.slice none 0 0,.slice none 0 0,.int .i64 0,.int .i64 0,.int .i64 0,.int .i64 0],[]⟩ 8 (by kernel_rfl) (by kernel_rfl) (by kernel_rfl)
   (x:=([.nil,.nil,.lit (.int .i64 0),.lit (.int .i64 0),.lit (.int .i64 0),.lit (.int .i64 0)],[],[])) (by kernel_rfl) rfl (by kernel_rfl)) ?_
 intro W base args ds gs before hval hW _ hk _
 exact Mzb plain H enc W base args ds gs before hval hW hk
theorem over (plain:∀ (a0:(List Int)) (a1:(List Int)) (a2:Int) (a3:Int) (a4:Int) (a5:Int),pz0 a0->pz0 a1->fz1 a2->fz1 a3->fz1 a4->fz1 a5->ez1 a0+ez1 a1+bzb a2+bzb a3+bzb a4+bzb a5≤1048576->(dzv a0 a1 a2 a3 a4 a5).o=some true):Rows.searchEagerUptoRow.holds Tryz.pinned (Rows.OpenSpec.upto Rows.searchEagerSpec):=
 OpenClaim.holds_of_cond 4 Tryz.f4 rfl rfl rfl rfl rfl rfl rfl ⟨rfl,rfl,rfl,rfl,rfl⟩ rfl rfl rfl rfl rfl (by kernel_rfl) Tryz.func4 Wzy
  (of_decide_eq_true (by kernel_rfl)) (by unfold Func.isWrapper;first|(rw[if_pos (by decide+kernel)];kernel_rfl)|(rw[if_neg (by decide+kernel)];exact⟨rfl,rfl⟩))
  (fun os started H enc _ F=>lifted plain os started H enc F)
end searchEager
end Go.Abs
