import Derived.Test.YtjonhijmljhjlaaGreatYJTop
import Derived.Test.YtjonhijmljhjlaaGreatYJD3
import Derived.Test.YtjonhijmljhjlaaGreatYJJSearchCertifiedb
namespace Go.Abs
open Go.Proofs Go.Proofs.YtjonhijmljhjlaaGreat Go.ChangeShapes Go.WideShapes Go.ChangeAt Go.RowKit
namespace searchCertified
def Xza (v:Int):List PVal:=[.int .i64 v]
def Fz2 (v:Int):Prop:=(Lit.int .i64 v).wf=true
def gzg (_:Int):Nat:=1
theorem Uz8:Rep Tryz.prog 3 Xza Fz2 gzg:=az9b (by kernel_rfl)
def az0i (v:(List Int)):List PVal:=[encL 1 az2 v]
def Lzm (v:(List Int)):Prop:=∀a∈v,Fz2 a
def nz1 (v:(List Int)):Nat:=(v.map gzg).sum+1
theorem az2x:Rep Tryz.prog 34 az0i Lzm nz1:=az2w (cells:=Xza) (enc:=az2) (sz:=1) (by kernel_rfl) (by kernel_rfl) (by decide) (λ_=>rfl) (λ_=>rfl) Uz8
theorem jzw {a b:Bool}(h:a=true)(k:b=true):(a&&b)=true:=by rw[h,k];rfl
set_option maxRecDepth 100000 in
theorem azah:joinedFacts Tryz.pinned.checked.prog 4 Tryz.f4 (Rows.OpenSpec.upto Rows.searchCertifiedSpec).bare Rows.searchCertifiedUptoRow=true:=by
 unfold joinedFacts;exact(jzw (jzw (jzw (jzw (jzw (jzw (jzw (jzw (jzw (jzw (jzw (jzw (jzw (jzw (jzw (jzw (jzw (jzw (jzw (jzw (jzw (jzw (jzw (jzw (jzw (jzw (jzw (jzw (jzw (jzw (jzw azcj az8o) Tz0) az1n) az5c) az1k) az5e) az1j) az5a) Zze) azb6) azb4) az8r) az8q) az1l) Zzf) az5b) az8s) az5f) azb5) Szz) Vzw) Tz1) az5d) az58) Vzx) az1m) az8p) az59) az1o) az1p) az8n)
theorem own:ownKnob Tryz.prog.godebug=none:=by kernel_rfl
set_option maxRecDepth 100000 in
theorem az4b (plain:∀ (a0:(List Int)) (a1:(List Int)) (a2:Int) (a3:Int) (a4:Int) (a5:Int),Lzm a0->Lzm a1->Fz2 a2->Fz2 a3->Fz2 a4->Fz2 a5->nz1 a0+nz1 a1+gzg a2+gzg a3+gzg a4+gzg a5<=1048576->(dz8 a0 a1 a2 a3 a4 a5).o=some true)(H:Type)(enc:TypeId×Value->H)(W:World)(base:Nat)(args:Array Value)(ds gs:List (DataW H))(before:List MemPlace)
 (hval:∀ (j:Nat) t v,Tryz.f4.params[j]?=some t->args[j]?=some v->Value.okWide Tryz.prog W .any base t v)
 (hW:DataW.Whole enc Tryz.prog Tryz.f4.params.toList Rows.searchCertifiedSpec.vars false W args.toList ds gs before) (hk:Rows.uptoSmall H (ds++gs)=true):
 Calls Tryz.prog 4 args W λe W'=>∃v,e=.returned v/\Rows.searchCertifiedSpec.post enc Tryz.prog Tryz.f4 false true false false W args v W':=by
 have hW':=hW;obtain⟨p,q,hA0,hV,rfl,hfz,hnd⟩:=hW;have hA:DataW.TrodAll enc Tryz.prog W 0 (λ_=>true) true Tryz.f4.params.toList args.toList ds p:=hA0;rw[Tryz.params4]at hA hval;obtain⟨v0,vs0,d0,ds0,p0,q0,hargs,rfl,rfl,h0,r0⟩:=trodAll_cons hA;obtain⟨v1,vs1,d1,ds1,p1,q1,hargs1,rfl,rfl,h1,r1⟩:=trodAll_cons r0;subst hargs1;obtain⟨v2,vs2,d2,ds2,p2,q2,hargs2,rfl,rfl,h2,r2⟩:=trodAll_cons r1;subst hargs2;obtain⟨v3,vs3,d3,ds3,p3,q3,hargs3,rfl,rfl,h3,r3⟩:=trodAll_cons r2;subst hargs3;obtain⟨v4,vs4,d4,ds4,p4,q4,hargs4,rfl,rfl,h4,r4⟩:=trodAll_cons r3;subst hargs4;obtain⟨v5,vs5,d5,ds5,p5,q5,hargs5,rfl,rfl,h5,r5⟩:=trodAll_cons r4;subst hargs5;obtain⟨rfl,rfl,rfl⟩:=trodAll_nil r5;obtain rfl:args=#[v0,v1,v2,v3,v4,v5]:=by cases args;simp_all
 obtain⟨rfl,rfl⟩:=trodVars_none hV;obtain⟨n0,h0⟩:=h0;obtain⟨a0,c0,o0,b0⟩:=az2x H enc W _ _ _ h0;obtain⟨n1,h1⟩:=h1;obtain⟨a1,c1,o1,b1⟩:=az2x H enc W _ _ _ h1;obtain⟨n2,h2⟩:=h2;obtain⟨a2,c2,o2,b2⟩:=Uz8 H enc W _ _ _ h2;obtain⟨n3,h3⟩:=h3;obtain⟨a3,c3,o3,b3⟩:=Uz8 H enc W _ _ _ h3;obtain⟨n4,h4⟩:=h4;obtain⟨a4,c4,o4,b4⟩:=Uz8 H enc W _ _ _ h4;obtain⟨n5,h5⟩:=h5;obtain⟨a5,c5,o5,b5⟩:=Uz8 H enc W _ _ _ h5;have hb:Rows.uptoBulkAll ([d0,d1,d2,d3,d4,d5]++[]:List (DataW H))<=1048576:=of_decide_eq_true hk;simp only[List.append_nil,Rows.uptoBulkAll]at hb;have htrue:=plain a0 a1 a2 a3 a4 a5 o0 o1 o2 o3 o4 o5 (by simp only at b0 b1 b2 b3 b4 b5;omega);refine Tzu (bt:=4) ((dz8 a0 a1 a2 a3 a4 a5).ok _ htrue) (λρ=>pzt (Hzf (P:=Tryz.prog) (hval 0 34 v0 rfl rfl) (by kernel_rfl) c0) (pzt (Hzf (P:=Tryz.prog) (hval 1 34 v1 rfl rfl) (by kernel_rfl) c1) (pzt (Hzf (P:=Tryz.prog) (hval 2 3 v2 rfl rfl) (by kernel_rfl) c2) (pzt (Hzf (P:=Tryz.prog) (hval 3 3 v3 rfl rfl) (by kernel_rfl) c3) (pzt (Hzf (P:=Tryz.prog) (hval 4 3 v4 rfl rfl) (by kernel_rfl) c4) (pzt (Hzf (P:=Tryz.prog) (hval 5 3 v5 rfl rfl) (by kernel_rfl) c5) (az09))))))) hW' rfl rfl (by kernel_rfl) (by kernel_rfl) (slices_full_of _ (by kernel_rfl)) ?_ (by kernel_rfl) (by kernel_rfl);have hs:Tryz.prog.types.size=413:=by kernel_rfl
 rw[Tryz.params4,hs];simp only[List.mem_cons,List.not_mem_nil,or_false];rintro t (rfl|rfl|rfl|rfl|rfl|rfl)<;>decide
set_option maxRecDepth 100000 in
theorem lifted (plain:∀ (a0:(List Int)) (a1:(List Int)) (a2:Int) (a3:Int) (a4:Int) (a5:Int),Lzm a0->Lzm a1->Fz2 a2->Fz2 a3->Fz2 a4->Fz2 a5->nz1 a0+nz1 a1+gzg a2+gzg a3+gzg a4+gzg a5<=1048576->(dz8 a0 a1 a2 a3 a4 a5).o=some true)(os:Os)(started:os.Started)(H:Type)(enc:TypeId×Value->H)(F:Stop.Interp):
 ReturnsInHanded {} Tryz.checked os 4 .any ((Rows.OpenSpec.upto Rows.searchCertifiedSpec).pre6 enc Tryz.prog Tryz.f4 Rows.searchCertifiedUptoRow.domain false) (((Rows.OpenSpec.upto Rows.searchCertifiedSpec).at F).post enc Tryz.prog Tryz.f4 false true false false):=by
 refine returnsInHanded_of_cond (C:=Tryz.checked) (s:=Rows.OpenSpec.upto Rows.searchCertifiedSpec) (k:=Rows.uptoSmall) rfl own started (by kernel_rfl) Tryz.func4
  (OpenSpec.witness (enc:=enc) (C:=Tryz.checked) (s:=Rows.OpenSpec.upto Rows.searchCertifiedSpec) (k:=Rows.uptoSmall) rfl false ⟨#[],#[.slice none 0 0,.slice none 0 0,.int .i64 0,.int .i64 0,.int .i64 0,.int .i64 0],[]⟩ 8 (by kernel_rfl) (by kernel_rfl) (by kernel_rfl)
   (x:=([.nil,.nil,.lit (.int .i64 0),.lit (.int .i64 0),.lit (.int .i64 0),.lit (.int .i64 0)],[],[])) (by kernel_rfl) rfl (by kernel_rfl)) ?_
 intro W base args ds gs before hval hW _ hk _;exact az4b plain H enc W base args ds gs before hval hW hk
theorem over (plain:∀ (a0:(List Int)) (a1:(List Int)) (a2:Int) (a3:Int) (a4:Int) (a5:Int),Lzm a0->Lzm a1->Fz2 a2->Fz2 a3->Fz2 a4->Fz2 a5->nz1 a0+nz1 a1+gzg a2+gzg a3+gzg a4+gzg a5<=1048576->(dz8 a0 a1 a2 a3 a4 a5).o=some true):Rows.searchCertifiedUptoRow.holds Tryz.pinned (Rows.OpenSpec.upto Rows.searchCertifiedSpec):=
 OpenClaim.holds_of_cond 4 Tryz.f4 rfl rfl rfl rfl rfl rfl rfl ⟨rfl,rfl,rfl,rfl,rfl⟩ rfl rfl rfl rfl rfl (by kernel_rfl) Tryz.func4 azah
  (of_decide_eq_true (by kernel_rfl)) (by unfold Func.isWrapper;first|(rw[qc (by decide+kernel)];kernel_rfl)|(rw[qb (by decide+kernel)];exact⟨rfl,rfl⟩))
  (λos started H enc _ F=>lifted plain os started H enc F)
end searchCertified
end Go.Abs
