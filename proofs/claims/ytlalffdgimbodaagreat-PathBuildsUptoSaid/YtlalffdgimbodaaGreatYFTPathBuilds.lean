/-
  TPathBuilds (a part of a claim: our own text).
-/
import Derived.Test.YtlalffdgimbodaaGreatYFTop
import Derived.Test.YtlalffdgimbodaaGreatYFD3
import Derived.Test.YtlalffdgimbodaaGreatYFJPathBuildsb
namespace Go.Abs
open Go.Proofs Go.Proofs.YtlalffdgimbodaaGreat Go.ChangeShapes Go.WideShapes Go.ChangeAt Go.RowKit
namespace pathBuilds
def Xzu (v:ByteArray):List PVal:=[.str v]
def az43 (_:ByteArray):Prop:=True
def Uze (v:ByteArray):Nat:=v.size+1
theorem az49:Rep Tryz.prog 9 Xzu az43 Uze:=Tzr (by kernel_rfl)
def Rzz (v:Int):List PVal:=[.int .i64 v]
def Hzi (v:Int):Prop:=(Lit.int .i64 v).wf=true
def izh (_:Int):Nat:=1
theorem Fz2:Rep Tryz.prog 3 Rzz Hzi izh:=Wzn (by kernel_rfl)
def Rzy (v:Int):List PVal:=[.int .i64 v]
def Dzk (v:Int):Prop:=(Lit.int .i64 v).wf=true
def kz2 (_:Int):Nat:=1
theorem vzd:Rep Tryz.prog 2 Rzy Dzk kz2:=Wzn (by kernel_rfl)
def Nzc (v:(Int×Int×Int)):List PVal:=[.int .i64 v.1,.int .i64 v.2.1,.int .i64 v.2.2]
def Sze (v:(Int×Int×Int)):Prop:=Dzk v.1/\Dzk v.2.1/\Dzk v.2.2/\True
def Fzu (v:(Int×Int×Int)):Nat:=(kz2 v.1+(kz2 v.2.1+(kz2 v.2.2+0)))+1
theorem Rz3:Rep Tryz.prog 78 Nzc Sze Fzu:=
 (Wzm (e:=2) (n:=3) (sz:=1) (fs:=[(2,0),(2,1),(2,2)]) (by kernel_rfl) (by kernel_rfl) (by kernel_rfl) (by kernel_rfl) (.cons (sz:=1) vzd (by kernel_rfl) (.cons (sz:=1) vzd (by kernel_rfl) (.cons (sz:=1) vzd (by kernel_rfl) .nil)))).map (fun p=>(p.1,p.2.1,p.2.2.1)) (fun _=>rfl) (fun _ h=>h) (fun _=>Nat.le_refl _)
def Jzp (v:azp):List PVal:=[.str v.Name,.int .i64 v.Kind,.int .i64 v.Parent,.int .i64 v.Offset.1,.int .i64 v.Offset.2.1,.int .i64 v.Offset.2.2,.int .i64 v.Lo,.int .i64 v.Hi,.int .i64 v.Weight,.int .i64 v.Speed,.int .i64 v.Accel,.int .i64 v.Torque]
def Wz5 (v:azp):Prop:=az43 v.Name/\Hzi v.Kind/\Hzi v.Parent/\Sze v.Offset/\Dzk v.Lo/\Dzk v.Hi/\Dzk v.Weight/\Dzk v.Speed/\Dzk v.Accel/\Dzk v.Torque/\True
def Nz7 (v:azp):Nat:=(Uze v.Name+(izh v.Kind+(izh v.Parent+(Fzu v.Offset+(kz2 v.Lo+(kz2 v.Hi+(kz2 v.Weight+(kz2 v.Speed+(kz2 v.Accel+(kz2 v.Torque+0))))))))))+1
theorem Yzy:Rep Tryz.prog 101 Jzp Wz5 Nz7:=
 (nzk (fs:=[(9,0),(3,1),(3,2),(78,3),(2,6),(2,7),(2,8),(2,9),(2,10),(2,11)]) (by kernel_rfl) (by kernel_rfl) (by kernel_rfl) (.cons (sz:=1) az49 (by kernel_rfl) (.cons (sz:=1) Fz2 (by kernel_rfl) (.cons (sz:=1) Fz2 (by kernel_rfl) (.cons (sz:=3) Rz3 (by kernel_rfl) (.cons (sz:=1) vzd (by kernel_rfl) (.cons (sz:=1) vzd (by kernel_rfl) (.cons (sz:=1) vzd (by kernel_rfl) (.cons (sz:=1) vzd (by kernel_rfl) (.cons (sz:=1) vzd (by kernel_rfl) (.cons (sz:=1) vzd (by kernel_rfl) .nil))))))))))).map (fun p=>⟨p.1,p.2.1,p.2.2.1,p.2.2.2.1,p.2.2.2.2.1,p.2.2.2.2.2.1,p.2.2.2.2.2.2.1,p.2.2.2.2.2.2.2.1,p.2.2.2.2.2.2.2.2.1,p.2.2.2.2.2.2.2.2.2.1⟩) (fun _=>rfl) (fun _ h=>h) (fun _=>Nat.le_refl _)
def Uzj (v:(List azp)):List PVal:=[encL 12 azb v]
def az0a (v:(List azp)):Prop:=∀a∈v,Wz5 a
def Rzp (v:(List azp)):Nat:=(v.map Nz7).sum+1
theorem az23:Rep Tryz.prog 22 Uzj az0a Rzp:=lzw (cells:=Jzp) (enc:=azb) (sz:=12) (by kernel_rfl) (by kernel_rfl) (by decide) (fun _=>rfl) (fun _=>rfl) Yzy
def Jzq (v:bzl):List PVal:=[.int .i64 v.Link,.int .i64 v.Mass,.int .i64 v.Point.1,.int .i64 v.Point.2.1,.int .i64 v.Point.2.2]
def Wz6 (v:bzl):Prop:=Hzi v.Link/\Dzk v.Mass/\Sze v.Point/\True
def Nz8 (v:bzl):Nat:=(izh v.Link+(kz2 v.Mass+(Fzu v.Point+0)))+1
theorem Yzz:Rep Tryz.prog 128 Jzq Wz6 Nz8:=
 (nzk (fs:=[(3,0),(2,1),(78,2)]) (by kernel_rfl) (by kernel_rfl) (by kernel_rfl) (.cons (sz:=1) Fz2 (by kernel_rfl) (.cons (sz:=1) vzd (by kernel_rfl) (.cons (sz:=3) Rz3 (by kernel_rfl) .nil)))).map (fun p=>⟨p.1,p.2.1,p.2.2.1⟩) (fun _=>rfl) (fun _ h=>h) (fun _=>Nat.le_refl _)
def Uzk (v:(List bzl)):List PVal:=[encL 5 azd v]
def az0b (v:(List bzl)):Prop:=∀a∈v,Wz6 a
def Rzq (v:(List bzl)):Nat:=(v.map Nz8).sum+1
theorem az24:Rep Tryz.prog 23 Uzk az0b Rzq:=lzw (cells:=Jzq) (enc:=azd) (sz:=5) (by kernel_rfl) (by kernel_rfl) (by decide) (fun _=>rfl) (fun _=>rfl) Yzz
def Uzl (v:azn):List PVal:=[encL 12 azb v.Joints,encL 5 azd v.Masses]
def az0c (v:azn):Prop:=az0a v.Joints/\az0b v.Masses/\True
def Rzr (v:azn):Nat:=(Rzp v.Joints+(Rzq v.Masses+0))+1
theorem az25:Rep Tryz.prog 25 Uzl az0c Rzr:=
 (nzk (fs:=[(22,0),(23,1)]) (by kernel_rfl) (by kernel_rfl) (by kernel_rfl) (.cons (sz:=1) az23 (by kernel_rfl) (.cons (sz:=1) az24 (by kernel_rfl) .nil))).map (fun p=>⟨p.1,p.2.1⟩) (fun _=>rfl) (fun _ h=>h) (fun _=>Nat.le_refl _)
def Uzr (v:(List (Int×Int×Int))):List PVal:=[encL 3 az1 v]
def az0g (v:(List (Int×Int×Int))):Prop:=∀a∈v,Sze a
def Rzu (v:(List (Int×Int×Int))):Nat:=(v.map Fzu).sum+1
theorem az2b:Rep Tryz.prog 68 Uzr az0g Rzu:=lzw (cells:=Nzc) (enc:=az1) (sz:=3) (by kernel_rfl) (by kernel_rfl) (by decide) (fun _=>rfl) (fun _=>rfl) Rz3
def Nzd (v:azs):List PVal:=[.int .i64 v.Link,.int .i64 v.Radius,encL 3 az1 v.Points]
def az0h (v:azs):Prop:=Hzi v.Link/\Dzk v.Radius/\az0g v.Points/\True
def Rzv (v:azs):Nat:=(izh v.Link+(kz2 v.Radius+(Rzu v.Points+0)))+1
theorem az2c:Rep Tryz.prog 94 Nzd az0h Rzv:=
 (nzk (fs:=[(3,0),(2,1),(68,2)]) (by kernel_rfl) (by kernel_rfl) (by kernel_rfl) (.cons (sz:=1) Fz2 (by kernel_rfl) (.cons (sz:=1) vzd (by kernel_rfl) (.cons (sz:=1) az2b (by kernel_rfl) .nil)))).map (fun p=>⟨p.1,p.2.1,p.2.2.1⟩) (fun _=>rfl) (fun _ h=>h) (fun _=>Nat.le_refl _)
def Uzm (v:(List azs)):List PVal:=[encL 3 aze v]
def az0d (v:(List azs)):Prop:=∀a∈v,az0h a
def Rzs (v:(List azs)):Nat:=(v.map Rzv).sum+1
theorem az26:Rep Tryz.prog 26 Uzm az0d Rzs:=lzw (cells:=Nzd) (enc:=aze) (sz:=3) (by kernel_rfl) (by kernel_rfl) (by decide) (fun _=>rfl) (fun _=>rfl) az2c
def Nze (v:fzb):List PVal:=[.int .i64 v.A,.int .i64 v.B]
def az0i (v:fzb):Prop:=Hzi v.A/\Hzi v.B/\True
def Rzw (v:fzb):Nat:=(izh v.A+(izh v.B+0))+1
theorem az2d:Rep Tryz.prog 97 Nze az0i Rzw:=
 (nzk (fs:=[(3,0),(3,1)]) (by kernel_rfl) (by kernel_rfl) (by kernel_rfl) (.cons (sz:=1) Fz2 (by kernel_rfl) (.cons (sz:=1) Fz2 (by kernel_rfl) .nil))).map (fun p=>⟨p.1,p.2.1⟩) (fun _=>rfl) (fun _ h=>h) (fun _=>Nat.le_refl _)
def Uzn (v:(List fzb)):List PVal:=[encL 2 azk v]
def az0e (v:(List fzb)):Prop:=∀a∈v,az0i a
def Rzt (v:(List fzb)):Nat:=(v.map Rzw).sum+1
theorem az27:Rep Tryz.prog 27 Uzn az0e Rzt:=lzw (cells:=Nze) (enc:=azk) (sz:=2) (by kernel_rfl) (by kernel_rfl) (by decide) (fun _=>rfl) (fun _=>rfl) az2d
def Uzo (v:az8):List PVal:=[encL 12 azb v.Robot.Joints,encL 5 azd v.Robot.Masses,encL 3 aze v.Shapes,encL 2 azk v.Skips]
def Szc (v:az8):Prop:=az0c v.Robot/\az0d v.Shapes/\az0e v.Skips/\True
def Azt (v:az8):Nat:=(Rzr v.Robot+(Rzs v.Shapes+(Rzt v.Skips+0)))+1
theorem az28:Rep Tryz.prog 29 Uzo Szc Azt:=
 (nzk (fs:=[(25,0),(26,2),(27,3)]) (by kernel_rfl) (by kernel_rfl) (by kernel_rfl) (.cons (sz:=2) az25 (by kernel_rfl) (.cons (sz:=1) az26 (by kernel_rfl) (.cons (sz:=1) az27 (by kernel_rfl) .nil)))).map (fun p=>⟨p.1,p.2.1,p.2.2.1⟩) (fun _=>rfl) (fun _ h=>h) (fun _=>Nat.le_refl _)
def Nzb (v:(List Int)):List PVal:=[encL 1 az3 v]
def az0f (v:(List Int)):Prop:=∀a∈v,Dzk a
def Fzt (v:(List Int)):Nat:=(v.map kz2).sum+1
theorem az2a:Rep Tryz.prog 53 Nzb az0f Fzt:=lzw (cells:=Rzy) (enc:=az3) (sz:=1) (by kernel_rfl) (by kernel_rfl) (by decide) (fun _=>rfl) (fun _=>rfl) vzd
def Uzp (v:(List (List Int))):List PVal:=[encL 1 (encL 1 az3) v]
def Szd (v:(List (List Int))):Prop:=∀a∈v,az0f a
def yz2 (v:(List (List Int))):Nat:=(v.map Fzt).sum+1
theorem az29:Rep Tryz.prog 30 Uzp Szd yz2:=lzw (cells:=Nzb) (enc:=(encL 1 az3)) (sz:=1) (by kernel_rfl) (by kernel_rfl) (by decide) (fun _=>rfl) (fun _=>rfl) az2a
def Uzq (v:(List Int)):List PVal:=[encL 1 az3 v]
def Hzj (v:(List Int)):Prop:=∀a∈v,Hzi a
def lz1 (v:(List Int)):Nat:=(v.map izh).sum+1
theorem Wzo:Rep Tryz.prog 31 Uzq Hzj lz1:=lzw (cells:=Rzz) (enc:=az3) (sz:=1) (by kernel_rfl) (by kernel_rfl) (by decide) (fun _=>rfl) (fun _=>rfl) Fz2
theorem iz4 {a b:Bool}(h:a=true)(k:b=true):(a&&b)=true:=by rw[h,k];rfl
set_option maxRecDepth 100000 in
theorem az3a:joinedFacts Tryz.pinned.checked.prog 3 Tryz.f3 (Rows.OpenSpec.upto Rows.pathBuildsSpec).bare Rows.pathBuildsUptoRow=true:=by
 unfold joinedFacts
 exact(iz4 (iz4 (iz4 (iz4 (iz4 (iz4 (iz4 (iz4 (iz4 (iz4 (iz4 (iz4 (iz4 (iz4 (iz4 (iz4 (iz4 (iz4 (iz4 (iz4 (iz4 (iz4 (iz4 (iz4 (iz4 (iz4 (iz4 (iz4 (iz4 (iz4 (iz4 az4s az1p) Oz5) Vzn) Yzk) Vzk) Yzm) Vzj) Yzi) Tzf) az3r) az3p) az1s) az1r) Vzl) Tzg) Yzj) az1t) Yzn) az3q) Oz4) Qzg) Oz6) Yzl) Yzg) Qzh) Vzm) az1q) Yzh) Vzo) Vzp) az1o)
theorem own:ownKnob Tryz.prog.godebug=none:=by kernel_rfl
set_option maxRecDepth 100000 in
theorem Xzw (plain:∀ (a0:az8) (a1:(List (List Int))) (a2:(List Int)) (a3:(List Int)) (a4:Int),Szc a0->Szd a1->Hzj a2->Hzj a3->Hzi a4->Azt a0+yz2 a1+lz1 a2+lz1 a3+izh a4≤1048576->(dzo a0 a1 a2 a3 a4).o=some true)(H:Type)(enc:TypeId×Value->H)(W:World)(base:Nat)(args:Array Value)(ds gs:List (DataW H))(before:List MemPlace)
 (hval:∀ (j:Nat) t v,Tryz.f3.params[j]?=some t->args[j]?=some v->Value.okWide Tryz.prog W .any base t v)
 (hW:DataW.Whole enc Tryz.prog Tryz.f3.params.toList Rows.pathBuildsSpec.vars false W args.toList ds gs before) (hk:Rows.uptoSmall H (ds++gs)=true):
 Calls Tryz.prog 3 args W fun e W'=>∃v,e=.returned v/\Rows.pathBuildsSpec.post enc Tryz.prog Tryz.f3 false true false false W args v W':=by
 have hW':=hW
 obtain⟨p,q,hA0,hV,rfl,hfz,hnd⟩:=hW
 have hA:DataW.TrodAll enc Tryz.prog W 0 (fun _=>true) true Tryz.f3.params.toList args.toList ds p:=hA0
 rw[Tryz.params3]at hA hval
 obtain⟨v0,vs0,d0,ds0,p0,q0,hargs,rfl,rfl,h0,r0⟩:=trodAll_cons hA
 obtain⟨v1,vs1,d1,ds1,p1,q1,hargs1,rfl,rfl,h1,r1⟩:=trodAll_cons r0
 subst hargs1
 obtain⟨v2,vs2,d2,ds2,p2,q2,hargs2,rfl,rfl,h2,r2⟩:=trodAll_cons r1
 subst hargs2
 obtain⟨v3,vs3,d3,ds3,p3,q3,hargs3,rfl,rfl,h3,r3⟩:=trodAll_cons r2
 subst hargs3
 obtain⟨v4,vs4,d4,ds4,p4,q4,hargs4,rfl,rfl,h4,r4⟩:=trodAll_cons r3
 subst hargs4
 obtain⟨rfl,rfl,rfl⟩:=trodAll_nil r4
 obtain rfl:args=#[v0,v1,v2,v3,v4]:=by cases args;simp_all
 obtain⟨rfl,rfl⟩:=trodVars_none hV
 obtain⟨n0,h0⟩:=h0
 obtain⟨a0,c0,o0,b0⟩:=az28 H enc W _ _ _ h0
 obtain⟨n1,h1⟩:=h1
 obtain⟨a1,c1,o1,b1⟩:=az29 H enc W _ _ _ h1
 obtain⟨n2,h2⟩:=h2
 obtain⟨a2,c2,o2,b2⟩:=Wzo H enc W _ _ _ h2
 obtain⟨n3,h3⟩:=h3
 obtain⟨a3,c3,o3,b3⟩:=Wzo H enc W _ _ _ h3
 obtain⟨n4,h4⟩:=h4
 obtain⟨a4,c4,o4,b4⟩:=Fz2 H enc W _ _ _ h4
 have hb:Rows.uptoBulkAll ([d0,d1,d2,d3,d4]++[]:List (DataW H))≤1048576:=of_decide_eq_true hk
 simp only[List.append_nil,Rows.uptoBulkAll]at hb
 have htrue:=plain a0 a1 a2 a3 a4 o0 o1 o2 o3 o4 (by simp only at b0 b1 b2 b3 b4;omega)
 refine Ozr (bt:=4) ((dzo a0 a1 a2 a3 a4).ok _ htrue) (fun ρ=>rzv (az0v (P:=Tryz.prog) (hval 0 29 v0 rfl rfl) (by kernel_rfl) c0) (rzv (Mz2 (P:=Tryz.prog) (hval 1 30 v1 rfl rfl) (by kernel_rfl) c1) (rzv (Mz2 (P:=Tryz.prog) (hval 2 31 v2 rfl rfl) (by kernel_rfl) c2) (rzv (Mz2 (P:=Tryz.prog) (hval 3 31 v3 rfl rfl) (by kernel_rfl) c3) (rzv (Mz2 (P:=Tryz.prog) (hval 4 3 v4 rfl rfl) (by kernel_rfl) c4) (Uz8)))))) hW' rfl rfl (by kernel_rfl) (by kernel_rfl) (slices_full_of _ (by kernel_rfl)) ?_ (by kernel_rfl) (by kernel_rfl)
 have hs:Tryz.prog.types.size=348:=by kernel_rfl
 rw[Tryz.params3,hs];simp only[List.mem_cons,List.not_mem_nil,or_false]
 rintro t (rfl|rfl|rfl|rfl|rfl)<;>decide
set_option maxRecDepth 100000 in
theorem lifted (plain:∀ (a0:az8) (a1:(List (List Int))) (a2:(List Int)) (a3:(List Int)) (a4:Int),Szc a0->Szd a1->Hzj a2->Hzj a3->Hzi a4->Azt a0+yz2 a1+lz1 a2+lz1 a3+izh a4≤1048576->(dzo a0 a1 a2 a3 a4).o=some true)(os:Os)(started:os.Started)(H:Type)(enc:TypeId×Value->H)(F:Stop.Interp):
 ReturnsInHanded {} Tryz.checked os 3 .any ((Rows.OpenSpec.upto Rows.pathBuildsSpec).pre6 enc Tryz.prog Tryz.f3 Rows.pathBuildsUptoRow.domain false) (((Rows.OpenSpec.upto Rows.pathBuildsSpec).at F).post enc Tryz.prog Tryz.f3 false true false false):=by
 refine returnsInHanded_of_cond (C:=Tryz.checked) (s:=Rows.OpenSpec.upto Rows.pathBuildsSpec) (k:=Rows.uptoSmall) rfl own started (by kernel_rfl) Tryz.func3
  (OpenSpec.witness (enc:=enc) (C:=Tryz.checked) (s:=Rows.OpenSpec.upto Rows.pathBuildsSpec) (k:=Rows.uptoSmall) rfl false ⟨#[],#[.agg #[.slice none 0 0,.slice none 0 0,.slice none 0 0,.slice none 0 0],.slice none 0 0,.slice none 0 0,.slice none 0 0,.int .i64 0],[]⟩ 8 (by kernel_rfl) (by kernel_rfl) (by kernel_rfl)
   (x:=([.agg [.agg [.nil,.nil],.nil,.nil],.nil,.nil,.nil,.lit (.int .i64 0)],[],[])) (by kernel_rfl) rfl (by kernel_rfl)) ?_
 intro W base args ds gs before hval hW _ hk _
 exact Xzw plain H enc W base args ds gs before hval hW hk
theorem over (plain:∀ (a0:az8) (a1:(List (List Int))) (a2:(List Int)) (a3:(List Int)) (a4:Int),Szc a0->Szd a1->Hzj a2->Hzj a3->Hzi a4->Azt a0+yz2 a1+lz1 a2+lz1 a3+izh a4≤1048576->(dzo a0 a1 a2 a3 a4).o=some true):Rows.pathBuildsUptoRow.holds Tryz.pinned (Rows.OpenSpec.upto Rows.pathBuildsSpec):=
 OpenClaim.holds_of_cond 3 Tryz.f3 rfl rfl rfl rfl rfl rfl rfl ⟨rfl,rfl,rfl,rfl,rfl⟩ rfl rfl rfl rfl rfl (by kernel_rfl) Tryz.func3 az3a
  (of_decide_eq_true (by kernel_rfl)) (by unfold Func.isWrapper;first|(rw[if_pos (by decide+kernel)];kernel_rfl)|(rw[if_neg (by decide+kernel)];exact⟨rfl,rfl⟩))
  (fun os started H enc _ F=>lifted plain os started H enc F)
end pathBuilds
end Go.Abs
