/-
  TPathReverses (a part of a claim: our own text).
-/
import Derived.Test.YtlalffdgimbodaaGreatYHTop
import Derived.Test.YtlalffdgimbodaaGreatYHD3
import Derived.Test.YtlalffdgimbodaaGreatYHJPathReversesb
namespace Go.Abs
open Go.Proofs Go.Proofs.YtlalffdgimbodaaGreat Go.ChangeShapes Go.WideShapes Go.ChangeAt Go.RowKit
namespace pathReverses
def Szy (v:Int):List PVal:=[.int .i64 v]
def Pzh (v:Int):Prop:=(Lit.int .i64 v).wf=true
def wzi (_:Int):Nat:=1
theorem Qz1:Rep Tryz.prog 2 Szy Pzh wzi:=Yz6 (by kernel_rfl)
def Oz2 (v:(List Int)):List PVal:=[encL 1 az3 v]
def az22 (v:(List Int)):Prop:=∀a∈v,Pzh a
def pzl (v:(List Int)):Nat:=(v.map wzi).sum+1
theorem az46:Rep Tryz.prog 53 Oz2 az22 pzl:=tz6 (cells:=Szy) (enc:=az3) (sz:=1) (by kernel_rfl) (by kernel_rfl) (by decide) (fun _=>rfl) (fun _=>rfl) Qz1
def Vzu (v:(List (List Int))):List PVal:=[encL 1 (encL 1 az3) v]
def az20 (v:(List (List Int))):Prop:=∀a∈v,az22 a
def Lze (v:(List (List Int))):Nat:=(v.map pzl).sum+1
theorem az43:Rep Tryz.prog 30 Vzu az20 Lze:=tz6 (cells:=Oz2) (enc:=(encL 1 az3)) (sz:=1) (by kernel_rfl) (by kernel_rfl) (by decide) (fun _=>rfl) (fun _=>rfl) az46
def Oz4 (v:(Int×Int×Int)):List PVal:=[.int .i64 v.1,.int .i64 v.2.1,.int .i64 v.2.2]
def az26 (v:(Int×Int×Int)):Prop:=Pzh v.1/\Pzh v.2.1/\Pzh v.2.2/\True
def Gzm (v:(Int×Int×Int)):Nat:=(wzi v.1+(wzi v.2.1+(wzi v.2.2+0)))+1
theorem az4a:Rep Tryz.prog 78 Oz4 az26 Gzm:=
 (Yz5 (e:=2) (n:=3) (sz:=1) (fs:=[(2,0),(2,1),(2,2)]) (by kernel_rfl) (by kernel_rfl) (by kernel_rfl) (by kernel_rfl) (.cons (sz:=1) Qz1 (by kernel_rfl) (.cons (sz:=1) Qz1 (by kernel_rfl) (.cons (sz:=1) Qz1 (by kernel_rfl) .nil)))).map (fun p=>(p.1,p.2.1,p.2.2.1)) (fun _=>rfl) (fun _ h=>h) (fun _=>Nat.le_refl _)
def Vzy (v:(List (Int×Int×Int))):List PVal:=[encL 3 az1 v]
def az23 (v:(List (Int×Int×Int))):Prop:=∀a∈v,az26 a
def Lzg (v:(List (Int×Int×Int))):Nat:=(v.map Gzm).sum+1
theorem az47:Rep Tryz.prog 68 Vzy az23 Lzg:=tz6 (cells:=Oz4) (enc:=az1) (sz:=3) (by kernel_rfl) (by kernel_rfl) (by decide) (fun _=>rfl) (fun _=>rfl) az4a
def Szz (v:Int):List PVal:=[.int .i64 v]
def Azv (v:Int):Prop:=(Lit.int .i64 v).wf=true
def fz7 (_:Int):Nat:=1
theorem Lz1:Rep Tryz.prog 3 Szz Azv fz7:=Yz6 (by kernel_rfl)
def Vzv (v:(List Int)):List PVal:=[encL 1 az3 v]
def Fze (v:(List Int)):Prop:=∀a∈v,Azv a
def hzc (v:(List Int)):Nat:=(v.map fz7).sum+1
theorem Sz8:Rep Tryz.prog 31 Vzv Fze hzc:=tz6 (cells:=Szz) (enc:=az3) (sz:=1) (by kernel_rfl) (by kernel_rfl) (by decide) (fun _=>rfl) (fun _=>rfl) Lz1
def Oz5 (v:bzv):List PVal:=[.int .i64 v.Depth,.int .i64 v.Index,encL 1 az3 v.Numbers]
def az27 (v:bzv):Prop:=Azv v.Depth/\Pzh v.Index/\Fze v.Numbers/\True
def tzm (v:bzv):Nat:=(fz7 v.Depth+(wzi v.Index+(hzc v.Numbers+0)))+1
theorem az4b:Rep Tryz.prog 81 Oz5 az27 tzm:=
 (Ezs (fs:=[(3,0),(2,1),(31,2)]) (by kernel_rfl) (by kernel_rfl) (by kernel_rfl) (.cons (sz:=1) Lz1 (by kernel_rfl) (.cons (sz:=1) Qz1 (by kernel_rfl) (.cons (sz:=1) Sz8 (by kernel_rfl) .nil)))).map (fun p=>⟨p.1,p.2.1,p.2.2.1⟩) (fun _=>rfl) (fun _ h=>h) (fun _=>Nat.le_refl _)
def Vzz (v:(List bzv)):List PVal:=[encL 3 azy v]
def az24 (v:(List bzv)):Prop:=∀a∈v,az27 a
def Lzh (v:(List bzv)):Nat:=(v.map tzm).sum+1
theorem az48:Rep Tryz.prog 69 Vzz az24 Lzh:=tz6 (cells:=Oz5) (enc:=azy) (sz:=3) (by kernel_rfl) (by kernel_rfl) (by decide) (fun _=>rfl) (fun _=>rfl) az4b
def Oz3 (v:aze):List PVal:=[encL 3 az1 v.Table,encL 3 azy v.Uses]
def az25 (v:aze):Prop:=az23 v.Table/\az24 v.Uses/\True
def pzm (v:aze):Nat:=(Lzg v.Table+(Lzh v.Uses+0))+1
theorem az49:Rep Tryz.prog 71 Oz3 az25 pzm:=
 (Ezs (fs:=[(68,0),(69,1)]) (by kernel_rfl) (by kernel_rfl) (by kernel_rfl) (.cons (sz:=1) az47 (by kernel_rfl) (.cons (sz:=1) az48 (by kernel_rfl) .nil))).map (fun p=>⟨p.1,p.2.1⟩) (fun _=>rfl) (fun _ h=>h) (fun _=>Nat.le_refl _)
def Vzw (v:(List aze)):List PVal:=[encL 2 azk v]
def az21 (v:(List aze)):Prop:=∀a∈v,az25 a
def Lzf (v:(List aze)):Nat:=(v.map pzm).sum+1
theorem az44:Rep Tryz.prog 34 Vzw az21 Lzf:=tz6 (cells:=Oz3) (enc:=azk) (sz:=2) (by kernel_rfl) (by kernel_rfl) (by decide) (fun _=>rfl) (fun _=>rfl) az49
def Vzx (v:azv):List PVal:=[encL 1 (encL 1 az3) v.Points,encL 2 azk v.Edges]
def Kzt (v:azv):Prop:=az20 v.Points/\az21 v.Edges/\True
def tzl (v:azv):Nat:=(Lze v.Points+(Lzf v.Edges+0))+1
theorem az45:Rep Tryz.prog 36 Vzx Kzt tzl:=
 (Ezs (fs:=[(30,0),(34,1)]) (by kernel_rfl) (by kernel_rfl) (by kernel_rfl) (.cons (sz:=1) az43 (by kernel_rfl) (.cons (sz:=1) az44 (by kernel_rfl) .nil))).map (fun p=>⟨p.1,p.2.1⟩) (fun _=>rfl) (fun _ h=>h) (fun _=>Nat.le_refl _)
theorem izr {a b:Bool}(h:a=true)(k:b=true):(a&&b)=true:=by rw[h,k];rfl
set_option maxRecDepth 100000 in
theorem az5d:joinedFacts Tryz.pinned.checked.prog 4 Tryz.f4 (Rows.OpenSpec.upto Rows.pathReversesSpec).bare Rows.pathReversesUptoRow=true:=by
 unfold joinedFacts
 exact(izr (izr (izr (izr (izr (izr (izr (izr (izr (izr (izr (izr (izr (izr (izr (izr (izr (izr (izr (izr (izr (izr (izr (izr (izr (izr (izr (izr (izr (izr (izr az71 az3l) Pz1) Xz2) az08) Wzz) az0a) Wzy) az06) Uzl) az5x) az5v) az3o) az3n) Xz0) Uzm) az07) az3p) az0b) az5w) Pz0) Rzl) Pz2) az09) az04) Rzm) Xz1) az3m) az05) Xz3) Xz4) az3k)
theorem own:ownKnob Tryz.prog.godebug=none:=by kernel_rfl
set_option maxRecDepth 100000 in
theorem Zzj (plain:∀ (a0:azv) (a1:(List Int)) (a2:(List Int)) (a3:Int) (a4:Int) (a5:Int) (a6:Int),Kzt a0->Fze a1->Fze a2->Azv a3->Azv a4->Azv a5->Azv a6->tzl a0+hzc a1+hzc a2+fz7 a3+fz7 a4+fz7 a5+fz7 a6≤1048576->(dze a0 a1 a2 a3 a4 a5 a6).o=some true)(H:Type)(enc:TypeId×Value->H)(W:World)(base:Nat)(args:Array Value)(ds gs:List (DataW H))(before:List MemPlace)
 (hval:∀ (j:Nat) t v,Tryz.f4.params[j]?=some t->args[j]?=some v->Value.okWide Tryz.prog W .any base t v)
 (hW:DataW.Whole enc Tryz.prog Tryz.f4.params.toList Rows.pathReversesSpec.vars false W args.toList ds gs before) (hk:Rows.uptoSmall H (ds++gs)=true):
 Calls Tryz.prog 4 args W fun e W'=>∃v,e=.returned v/\Rows.pathReversesSpec.post enc Tryz.prog Tryz.f4 false true false false W args v W':=by
 have hW':=hW
 obtain⟨p,q,hA0,hV,rfl,hfz,hnd⟩:=hW
 have hA:DataW.TrodAll enc Tryz.prog W 0 (fun _=>true) true Tryz.f4.params.toList args.toList ds p:=hA0
 rw[Tryz.params4]at hA hval
 obtain⟨v0,vs0,d0,ds0,p0,q0,hargs,rfl,rfl,h0,r0⟩:=trodAll_cons hA
 obtain⟨v1,vs1,d1,ds1,p1,q1,hargs1,rfl,rfl,h1,r1⟩:=trodAll_cons r0
 subst hargs1
 obtain⟨v2,vs2,d2,ds2,p2,q2,hargs2,rfl,rfl,h2,r2⟩:=trodAll_cons r1
 subst hargs2
 obtain⟨v3,vs3,d3,ds3,p3,q3,hargs3,rfl,rfl,h3,r3⟩:=trodAll_cons r2
 subst hargs3
 obtain⟨v4,vs4,d4,ds4,p4,q4,hargs4,rfl,rfl,h4,r4⟩:=trodAll_cons r3
 subst hargs4
 obtain⟨v5,vs5,d5,ds5,p5,q5,hargs5,rfl,rfl,h5,r5⟩:=trodAll_cons r4
 subst hargs5
 obtain⟨v6,vs6,d6,ds6,p6,q6,hargs6,rfl,rfl,h6,r6⟩:=trodAll_cons r5
 subst hargs6
 obtain⟨rfl,rfl,rfl⟩:=trodAll_nil r6
 obtain rfl:args=#[v0,v1,v2,v3,v4,v5,v6]:=by cases args;simp_all
 obtain⟨rfl,rfl⟩:=trodVars_none hV
 obtain⟨n0,h0⟩:=h0
 obtain⟨a0,c0,o0,b0⟩:=az45 H enc W _ _ _ h0
 obtain⟨n1,h1⟩:=h1
 obtain⟨a1,c1,o1,b1⟩:=Sz8 H enc W _ _ _ h1
 obtain⟨n2,h2⟩:=h2
 obtain⟨a2,c2,o2,b2⟩:=Sz8 H enc W _ _ _ h2
 obtain⟨n3,h3⟩:=h3
 obtain⟨a3,c3,o3,b3⟩:=Lz1 H enc W _ _ _ h3
 obtain⟨n4,h4⟩:=h4
 obtain⟨a4,c4,o4,b4⟩:=Lz1 H enc W _ _ _ h4
 obtain⟨n5,h5⟩:=h5
 obtain⟨a5,c5,o5,b5⟩:=Lz1 H enc W _ _ _ h5
 obtain⟨n6,h6⟩:=h6
 obtain⟨a6,c6,o6,b6⟩:=Lz1 H enc W _ _ _ h6
 have hb:Rows.uptoBulkAll ([d0,d1,d2,d3,d4,d5,d6]++[]:List (DataW H))≤1048576:=of_decide_eq_true hk
 simp only[List.append_nil,Rows.uptoBulkAll]at hb
 have htrue:=plain a0 a1 a2 a3 a4 a5 a6 o0 o1 o2 o3 o4 o5 o6 (by simp only at b0 b1 b2 b3 b4 b5 b6;omega)
 refine Pzo (bt:=4) ((dze a0 a1 a2 a3 a4 a5 a6).ok _ htrue) (fun ρ=>kzt (az2m (P:=Tryz.prog) (hval 0 36 v0 rfl rfl) (by kernel_rfl) c0) (kzt (Ez9 (P:=Tryz.prog) (hval 1 31 v1 rfl rfl) (by kernel_rfl) c1) (kzt (Ez9 (P:=Tryz.prog) (hval 2 31 v2 rfl rfl) (by kernel_rfl) c2) (kzt (Ez9 (P:=Tryz.prog) (hval 3 3 v3 rfl rfl) (by kernel_rfl) c3) (kzt (Ez9 (P:=Tryz.prog) (hval 4 3 v4 rfl rfl) (by kernel_rfl) c4) (kzt (Ez9 (P:=Tryz.prog) (hval 5 3 v5 rfl rfl) (by kernel_rfl) c5) (kzt (Ez9 (P:=Tryz.prog) (hval 6 3 v6 rfl rfl) (by kernel_rfl) c6) (Vzj)))))))) hW' rfl rfl (by kernel_rfl) (by kernel_rfl) (slices_full_of _ (by kernel_rfl)) ?_ (by kernel_rfl) (by kernel_rfl)
 have hs:Tryz.prog.types.size=348:=by kernel_rfl
 rw[Tryz.params4,hs];simp only[List.mem_cons,List.not_mem_nil,or_false]
 rintro t (rfl|rfl|rfl|rfl|rfl|rfl|rfl)<;>decide
set_option maxRecDepth 100000 in
theorem lifted (plain:∀ (a0:azv) (a1:(List Int)) (a2:(List Int)) (a3:Int) (a4:Int) (a5:Int) (a6:Int),Kzt a0->Fze a1->Fze a2->Azv a3->Azv a4->Azv a5->Azv a6->tzl a0+hzc a1+hzc a2+fz7 a3+fz7 a4+fz7 a5+fz7 a6≤1048576->(dze a0 a1 a2 a3 a4 a5 a6).o=some true)(os:Os)(started:os.Started)(H:Type)(enc:TypeId×Value->H)(F:Stop.Interp):
 ReturnsInHanded {} Tryz.checked os 4 .any ((Rows.OpenSpec.upto Rows.pathReversesSpec).pre6 enc Tryz.prog Tryz.f4 Rows.pathReversesUptoRow.domain false) (((Rows.OpenSpec.upto Rows.pathReversesSpec).at F).post enc Tryz.prog Tryz.f4 false true false false):=by
 refine returnsInHanded_of_cond (C:=Tryz.checked) (s:=Rows.OpenSpec.upto Rows.pathReversesSpec) (k:=Rows.uptoSmall) rfl own started (by kernel_rfl) Tryz.func4
  (OpenSpec.witness (enc:=enc) (C:=Tryz.checked) (s:=Rows.OpenSpec.upto Rows.pathReversesSpec) (k:=Rows.uptoSmall) rfl false ⟨#[],#[.agg #[.slice none 0 0,.slice none 0 0],.slice none 0 0,.slice none 0 0,.int .i64 0,.int .i64 0,.int .i64 0,.int .i64 0],[]⟩ 8 (by kernel_rfl) (by kernel_rfl) (by kernel_rfl)
   (x:=([.agg [.nil,.nil],.nil,.nil,.lit (.int .i64 0),.lit (.int .i64 0),.lit (.int .i64 0),.lit (.int .i64 0)],[],[])) (by kernel_rfl) rfl (by kernel_rfl)) ?_
 intro W base args ds gs before hval hW _ hk _
 exact Zzj plain H enc W base args ds gs before hval hW hk
theorem over (plain:∀ (a0:azv) (a1:(List Int)) (a2:(List Int)) (a3:Int) (a4:Int) (a5:Int) (a6:Int),Kzt a0->Fze a1->Fze a2->Azv a3->Azv a4->Azv a5->Azv a6->tzl a0+hzc a1+hzc a2+fz7 a3+fz7 a4+fz7 a5+fz7 a6≤1048576->(dze a0 a1 a2 a3 a4 a5 a6).o=some true):Rows.pathReversesUptoRow.holds Tryz.pinned (Rows.OpenSpec.upto Rows.pathReversesSpec):=
 OpenClaim.holds_of_cond 4 Tryz.f4 rfl rfl rfl rfl rfl rfl rfl ⟨rfl,rfl,rfl,rfl,rfl⟩ rfl rfl rfl rfl rfl (by kernel_rfl) Tryz.func4 az5d
  (of_decide_eq_true (by kernel_rfl)) (by unfold Func.isWrapper;first|(rw[if_pos (by decide+kernel)];kernel_rfl)|(rw[if_neg (by decide+kernel)];exact⟨rfl,rfl⟩))
  (fun os started H enc _ F=>lifted plain os started H enc F)
end pathReverses
end Go.Abs
