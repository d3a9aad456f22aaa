/-
  TSearchLazy (a part of a claim: our own text).
-/
import Derived.Test.YtfodaccgmcljoaaGreatYDTop
import Derived.Test.YtfodaccgmcljoaaGreatYDD3
import Derived.Test.YtfodaccgmcljoaaGreatYDJSearchLazyb
namespace Go.Abs
open Go.Proofs Go.Proofs.YtfodaccgmcljoaaGreat Go.ChangeShapes Go.WideShapes Go.ChangeAt Go.RowKit
namespace searchLazy
def az03 (v:ByteArray):List PVal:=[.str v]
def az6d (_:ByteArray):Prop:=True
def Wzd (v:ByteArray):Nat:=v.size+1
theorem az6k:Rep Tryz.prog 9 az03 az6d Wzd:=Vzq (by kernel_rfl)
def Bzw (v:Int):List PVal:=[.int .i64 v]
def fz1 (v:Int):Prop:=(Lit.int .i64 v).wf=true
def bzb (_:Int):Nat:=1
theorem gzi:Rep Tryz.prog 3 Bzw fz1 bzb:=Tz4 (by kernel_rfl)
def Uz2 (v:Int):List PVal:=[.int .i64 v]
def Bz1 (v:Int):Prop:=(Lit.int .i64 v).wf=true
def gz3 (_:Int):Nat:=1
theorem qzr:Rep Tryz.prog 2 Uz2 Bz1 gz3:=Tz4 (by kernel_rfl)
def Pz3 (v:(Int×Int×Int)):List PVal:=[.int .i64 v.1,.int .i64 v.2.1,.int .i64 v.2.2]
def Uzt (v:(Int×Int×Int)):Prop:=Bz1 v.1/\Bz1 v.2.1/\Bz1 v.2.2/\True
def yzz (v:(Int×Int×Int)):Nat:=(gz3 v.1+(gz3 v.2.1+(gz3 v.2.2+0)))+1
theorem Tz6:Rep Tryz.prog 78 Pz3 Uzt yzz:=
 (Yzu (e:=2) (n:=3) (sz:=1) (fs:=[(2,0),(2,1),(2,2)]) (by kernel_rfl) (by kernel_rfl) (by kernel_rfl) (by kernel_rfl) (.cons (sz:=1) qzr (by kernel_rfl) (.cons (sz:=1) qzr (by kernel_rfl) (.cons (sz:=1) qzr (by kernel_rfl) .nil)))).map (fun p=>(p.1,p.2.1,p.2.2.1)) (fun _=>rfl) (fun _ h=>h) (fun _=>Nat.le_refl _)
def Kzy (v:azt):List PVal:=[.str v.Name,.int .i64 v.Kind,.int .i64 v.Parent,.int .i64 v.Offset.1,.int .i64 v.Offset.2.1,.int .i64 v.Offset.2.2,.int .i64 v.Lo,.int .i64 v.Hi,.int .i64 v.Weight,.int .i64 v.Speed,.int .i64 v.Accel,.int .i64 v.Torque]
def Yze (v:azt):Prop:=az6d v.Name/\fz1 v.Kind/\fz1 v.Parent/\Uzt v.Offset/\Bz1 v.Lo/\Bz1 v.Hi/\Bz1 v.Weight/\Bz1 v.Speed/\Bz1 v.Accel/\Bz1 v.Torque/\True
def Ozw (v:azt):Nat:=(Wzd v.Name+(bzb v.Kind+(bzb v.Parent+(yzz v.Offset+(gz3 v.Lo+(gz3 v.Hi+(gz3 v.Weight+(gz3 v.Speed+(gz3 v.Accel+(gz3 v.Torque+0))))))))))+1
theorem az0y:Rep Tryz.prog 115 Kzy Yze Ozw:=
 (fzx (fs:=[(9,0),(3,1),(3,2),(78,3),(2,6),(2,7),(2,8),(2,9),(2,10),(2,11)]) (by kernel_rfl) (by kernel_rfl) (by kernel_rfl) (.cons (sz:=1) az6k (by kernel_rfl) (.cons (sz:=1) gzi (by kernel_rfl) (.cons (sz:=1) gzi (by kernel_rfl) (.cons (sz:=3) Tz6 (by kernel_rfl) (.cons (sz:=1) qzr (by kernel_rfl) (.cons (sz:=1) qzr (by kernel_rfl) (.cons (sz:=1) qzr (by kernel_rfl) (.cons (sz:=1) qzr (by kernel_rfl) (.cons (sz:=1) qzr (by kernel_rfl) (.cons (sz:=1) qzr (by kernel_rfl) .nil))))))))))).map (fun p=>⟨p.1,p.2.1,p.2.2.1,p.2.2.2.1,p.2.2.2.2.1,p.2.2.2.2.2.1,p.2.2.2.2.2.2.1,p.2.2.2.2.2.2.2.1,p.2.2.2.2.2.2.2.2.1,p.2.2.2.2.2.2.2.2.2.1⟩) (fun _=>rfl) (fun _ h=>h) (fun _=>Nat.le_refl _)
def Wzk (v:(List azt)):List PVal:=[encL 12 azd v]
def az27 (v:(List azt)):Prop:=∀a∈v,Yze a
def Tzu (v:(List azt)):Nat:=(v.map Ozw).sum+1
theorem az43:Rep Tryz.prog 22 Wzk az27 Tzu:=hz9 (cells:=Kzy) (enc:=azd) (sz:=12) (by kernel_rfl) (by kernel_rfl) (by decide) (fun _=>rfl) (fun _=>rfl) az0y
def Kzz (v:bzw):List PVal:=[.int .i64 v.Link,.int .i64 v.Mass,.int .i64 v.Point.1,.int .i64 v.Point.2.1,.int .i64 v.Point.2.2]
def Yzf (v:bzw):Prop:=fz1 v.Link/\Bz1 v.Mass/\Uzt v.Point/\True
def Ozx (v:bzw):Nat:=(bzb v.Link+(gz3 v.Mass+(yzz v.Point+0)))+1
theorem az0z:Rep Tryz.prog 118 Kzz Yzf Ozx:=
 (fzx (fs:=[(3,0),(2,1),(78,2)]) (by kernel_rfl) (by kernel_rfl) (by kernel_rfl) (.cons (sz:=1) gzi (by kernel_rfl) (.cons (sz:=1) qzr (by kernel_rfl) (.cons (sz:=3) Tz6 (by kernel_rfl) .nil)))).map (fun p=>⟨p.1,p.2.1,p.2.2.1⟩) (fun _=>rfl) (fun _ h=>h) (fun _=>Nat.le_refl _)
def Wzl (v:(List bzw)):List PVal:=[encL 5 azj v]
def az28 (v:(List bzw)):Prop:=∀a∈v,Yzf a
def Tzv (v:(List bzw)):Nat:=(v.map Ozx).sum+1
theorem az44:Rep Tryz.prog 23 Wzl az28 Tzv:=hz9 (cells:=Kzz) (enc:=azj) (sz:=5) (by kernel_rfl) (by kernel_rfl) (by decide) (fun _=>rfl) (fun _=>rfl) az0z
def Wzm (v:azl):List PVal:=[encL 12 azd v.Joints,encL 5 azj v.Masses]
def az29 (v:azl):Prop:=az27 v.Joints/\az28 v.Masses/\True
def Tzw (v:azl):Nat:=(Tzu v.Joints+(Tzv v.Masses+0))+1
theorem az45:Rep Tryz.prog 25 Wzm az29 Tzw:=
 (fzx (fs:=[(22,0),(23,1)]) (by kernel_rfl) (by kernel_rfl) (by kernel_rfl) (.cons (sz:=1) az43 (by kernel_rfl) (.cons (sz:=1) az44 (by kernel_rfl) .nil))).map (fun p=>⟨p.1,p.2.1⟩) (fun _=>rfl) (fun _ h=>h) (fun _=>Nat.le_refl _)
def Wzu (v:(List (Int×Int×Int))):List PVal:=[encL 3 az1 v]
def Yzg (v:(List (Int×Int×Int))):Prop:=∀a∈v,Uzt a
def Hz2 (v:(List (Int×Int×Int))):Nat:=(v.map yzz).sum+1
theorem Yzv:Rep Tryz.prog 56 Wzu Yzg Hz2:=hz9 (cells:=Pz3) (enc:=az1) (sz:=3) (by kernel_rfl) (by kernel_rfl) (by decide) (fun _=>rfl) (fun _=>rfl) Tz6
def Pz4 (v:azx):List PVal:=[.int .i64 v.Link,.int .i64 v.Radius,encL 3 az1 v.Points]
def az2i (v:azx):Prop:=fz1 v.Link/\Bz1 v.Radius/\Yzg v.Points/\True
def Tzz (v:azx):Nat:=(bzb v.Link+(gz3 v.Radius+(Hz2 v.Points+0)))+1
theorem az4g:Rep Tryz.prog 80 Pz4 az2i Tzz:=
 (fzx (fs:=[(3,0),(2,1),(56,2)]) (by kernel_rfl) (by kernel_rfl) (by kernel_rfl) (.cons (sz:=1) gzi (by kernel_rfl) (.cons (sz:=1) qzr (by kernel_rfl) (.cons (sz:=1) Yzv (by kernel_rfl) .nil)))).map (fun p=>⟨p.1,p.2.1,p.2.2.1⟩) (fun _=>rfl) (fun _ h=>h) (fun _=>Nat.le_refl _)
def Wzn (v:(List azx)):List PVal:=[encL 3 azo v]
def az2a (v:(List azx)):Prop:=∀a∈v,az2i a
def Tzx (v:(List azx)):Nat:=(v.map Tzz).sum+1
theorem az46:Rep Tryz.prog 26 Wzn az2a Tzx:=hz9 (cells:=Pz4) (enc:=azo) (sz:=3) (by kernel_rfl) (by kernel_rfl) (by decide) (fun _=>rfl) (fun _=>rfl) az4g
def Pz5 (v:fzl):List PVal:=[.int .i64 v.A,.int .i64 v.B]
def az2j (v:fzl):Prop:=fz1 v.A/\fz1 v.B/\True
def Uz0 (v:fzl):Nat:=(bzb v.A+(bzb v.B+0))+1
theorem az4h:Rep Tryz.prog 83 Pz5 az2j Uz0:=
 (fzx (fs:=[(3,0),(3,1)]) (by kernel_rfl) (by kernel_rfl) (by kernel_rfl) (.cons (sz:=1) gzi (by kernel_rfl) (.cons (sz:=1) gzi (by kernel_rfl) .nil))).map (fun p=>⟨p.1,p.2.1⟩) (fun _=>rfl) (fun _ h=>h) (fun _=>Nat.le_refl _)
def Wzo (v:(List fzl)):List PVal:=[encL 2 bz4 v]
def az2b (v:(List fzl)):Prop:=∀a∈v,az2j a
def Tzy (v:(List fzl)):Nat:=(v.map Uz0).sum+1
theorem az47:Rep Tryz.prog 27 Wzo az2b Tzy:=hz9 (cells:=Pz5) (enc:=bz4) (sz:=2) (by kernel_rfl) (by kernel_rfl) (by decide) (fun _=>rfl) (fun _=>rfl) az4h
def Wzp (v:azg):List PVal:=[encL 12 azd v.Robot.Joints,encL 5 azj v.Robot.Masses,encL 3 azo v.Shapes,encL 2 bz4 v.Skips]
def Uzq (v:azg):Prop:=az29 v.Robot/\az2a v.Shapes/\az2b v.Skips/\True
def Bzu (v:azg):Nat:=(Tzw v.Robot+(Tzx v.Shapes+(Tzy v.Skips+0)))+1
theorem az48:Rep Tryz.prog 29 Wzp Uzq Bzu:=
 (fzx (fs:=[(25,0),(26,2),(27,3)]) (by kernel_rfl) (by kernel_rfl) (by kernel_rfl) (.cons (sz:=2) az45 (by kernel_rfl) (.cons (sz:=1) az46 (by kernel_rfl) (.cons (sz:=1) az47 (by kernel_rfl) .nil)))).map (fun p=>⟨p.1,p.2.1,p.2.2.1⟩) (fun _=>rfl) (fun _ h=>h) (fun _=>Nat.le_refl _)
def Pz1 (v:(List Int)):List PVal:=[encL 1 az3 v]
def Uzs (v:(List Int)):Prop:=∀a∈v,Bz1 a
def qz4 (v:(List Int)):Nat:=(v.map gz3).sum+1
theorem Tz5:Rep Tryz.prog 59 Pz1 Uzs qz4:=hz9 (cells:=Uz2) (enc:=az3) (sz:=1) (by kernel_rfl) (by kernel_rfl) (by decide) (fun _=>rfl) (fun _=>rfl) qzr
def Wzq (v:(List (List Int))):List PVal:=[encL 1 (encL 1 az3) v]
def az2c (v:(List (List Int))):Prop:=∀a∈v,Uzs a
def Hz0 (v:(List (List Int))):Nat:=(v.map qz4).sum+1
theorem az49:Rep Tryz.prog 30 Wzq az2c Hz0:=hz9 (cells:=Pz1) (enc:=(encL 1 az3)) (sz:=1) (by kernel_rfl) (by kernel_rfl) (by decide) (fun _=>rfl) (fun _=>rfl) Tz5
def Pz0 (v:azk):List PVal:=[.int .i64 v.Depth,.int .i64 v.Index,encL 3 az1 v.Normals]
def Yzh (v:azk):Prop:=fz1 v.Depth/\Bz1 v.Index/\Yzg v.Normals/\True
def nzt (v:azk):Nat:=(bzb v.Depth+(gz3 v.Index+(Hz2 v.Normals+0)))+1
theorem Yzw:Rep Tryz.prog 58 Pz0 Yzh nzt:=
 (fzx (fs:=[(3,0),(2,1),(56,2)]) (by kernel_rfl) (by kernel_rfl) (by kernel_rfl) (.cons (sz:=1) gzi (by kernel_rfl) (.cons (sz:=1) qzr (by kernel_rfl) (.cons (sz:=1) Yzv (by kernel_rfl) .nil)))).map (fun p=>⟨p.1,p.2.1,p.2.2.1⟩) (fun _=>rfl) (fun _ h=>h) (fun _=>Nat.le_refl _)
def Wzt (v:(List azk)):List PVal:=[encL 3 azy v]
def az2e (v:(List azk)):Prop:=∀a∈v,Yzh a
def Mz2 (v:(List azk)):Nat:=(v.map nzt).sum+1
theorem az4c:Rep Tryz.prog 55 Wzt az2e Mz2:=hz9 (cells:=Pz0) (enc:=azy) (sz:=3) (by kernel_rfl) (by kernel_rfl) (by decide) (fun _=>rfl) (fun _=>rfl) Yzw
def Wzv (v:bz1):List PVal:=[.int .i64 v.Pair,encL 1 az3 v.Left,encL 1 az3 v.Right]
def az2f (v:bz1):Prop:=fz1 v.Pair/\Uzs v.Left/\Uzs v.Right/\True
def Mz3 (v:bz1):Nat:=(bzb v.Pair+(qz4 v.Left+(qz4 v.Right+0)))+1
theorem az4d:Rep Tryz.prog 61 Wzv az2f Mz3:=
 (fzx (fs:=[(3,0),(59,1),(59,2)]) (by kernel_rfl) (by kernel_rfl) (by kernel_rfl) (.cons (sz:=1) gzi (by kernel_rfl) (.cons (sz:=1) Tz5 (by kernel_rfl) (.cons (sz:=1) Tz5 (by kernel_rfl) .nil)))).map (fun p=>⟨p.1,p.2.1,p.2.2.1⟩) (fun _=>rfl) (fun _ h=>h) (fun _=>Nat.le_refl _)
def Wzw (v:azi):List PVal:=[.int .i64 v.Kind,encL 3 azy v.Pieces,.int .i64 v.At.Depth,.int .i64 v.At.Index,encL 3 az1 v.At.Normals,.int .i64 v.Witness.Pair,encL 1 az3 v.Witness.Left,encL 1 az3 v.Witness.Right]
def az2g (v:azi):Prop:=fz1 v.Kind/\az2e v.Pieces/\Yzh v.At/\az2f v.Witness/\True
def Hz3 (v:azi):Nat:=(bzb v.Kind+(Mz2 v.Pieces+(nzt v.At+(Mz3 v.Witness+0))))+1
theorem az4e:Rep Tryz.prog 63 Wzw az2g Hz3:=
 (fzx (fs:=[(3,0),(55,1),(58,2),(61,5)]) (by kernel_rfl) (by kernel_rfl) (by kernel_rfl) (.cons (sz:=1) gzi (by kernel_rfl) (.cons (sz:=1) az4c (by kernel_rfl) (.cons (sz:=3) Yzw (by kernel_rfl) (.cons (sz:=3) az4d (by kernel_rfl) .nil))))).map (fun p=>⟨p.1,p.2.1,p.2.2.1,p.2.2.2.1⟩) (fun _=>rfl) (fun _ h=>h) (fun _=>Nat.le_refl _)
def Pz2 (v:az4):List PVal:=[.int .i64 v.U,.int .i64 v.V,.int .i64 v.Cost,.int .i64 v.State,.int .i64 v.Proof.Kind,encL 3 azy v.Proof.Pieces,.int .i64 v.Proof.At.Depth,.int .i64 v.Proof.At.Index,encL 3 az1 v.Proof.At.Normals,.int .i64 v.Proof.Witness.Pair,encL 1 az3 v.Proof.Witness.Left,encL 1 az3 v.Proof.Witness.Right]
def az2h (v:az4):Prop:=fz1 v.U/\fz1 v.V/\Bz1 v.Cost/\fz1 v.State/\az2g v.Proof/\True
def yzy (v:az4):Nat:=(bzb v.U+(bzb v.V+(gz3 v.Cost+(bzb v.State+(Hz3 v.Proof+0)))))+1
theorem az4f:Rep Tryz.prog 65 Pz2 az2h yzy:=
 (fzx (fs:=[(3,0),(3,1),(2,2),(3,3),(63,4)]) (by kernel_rfl) (by kernel_rfl) (by kernel_rfl) (.cons (sz:=1) gzi (by kernel_rfl) (.cons (sz:=1) gzi (by kernel_rfl) (.cons (sz:=1) qzr (by kernel_rfl) (.cons (sz:=1) gzi (by kernel_rfl) (.cons (sz:=8) az4e (by kernel_rfl) .nil)))))).map (fun p=>⟨p.1,p.2.1,p.2.2.1,p.2.2.2.1,p.2.2.2.2.1⟩) (fun _=>rfl) (fun _ h=>h) (fun _=>Nat.le_refl _)
def Wzr (v:(List az4)):List PVal:=[encL 12 az5 v]
def az2d (v:(List az4)):Prop:=∀a∈v,az2h a
def Hz1 (v:(List az4)):Nat:=(v.map yzy).sum+1
theorem az4a:Rep Tryz.prog 31 Wzr az2d Hz1:=hz9 (cells:=Pz2) (enc:=az5) (sz:=12) (by kernel_rfl) (by kernel_rfl) (by decide) (fun _=>rfl) (fun _=>rfl) az4f
def Wzs (v:az9):List PVal:=[encL 1 (encL 1 az3) v.Points,encL 12 az5 v.Edges]
def Uzr (v:az9):Prop:=az2c v.Points/\az2d v.Edges/\True
def yzx (v:az9):Nat:=(Hz0 v.Points+(Hz1 v.Edges+0))+1
theorem az4b:Rep Tryz.prog 33 Wzs Uzr yzx:=
 (fzx (fs:=[(30,0),(31,1)]) (by kernel_rfl) (by kernel_rfl) (by kernel_rfl) (.cons (sz:=1) az49 (by kernel_rfl) (.cons (sz:=1) az4a (by kernel_rfl) .nil))).map (fun p=>⟨p.1,p.2.1⟩) (fun _=>rfl) (fun _ h=>h) (fun _=>Nat.le_refl _)
def Hzf (v:(List Int)):List PVal:=[encL 1 az3 v]
def pz0 (v:(List Int)):Prop:=∀a∈v,fz1 a
def ez1 (v:(List Int)):Nat:=(v.map bzb).sum+1
theorem Jze:Rep Tryz.prog 34 Hzf pz0 ez1:=hz9 (cells:=Bzw) (enc:=az3) (sz:=1) (by kernel_rfl) (by kernel_rfl) (by decide) (fun _=>rfl) (fun _=>rfl) gzi
theorem dz7 {a b:Bool}(h:a=true)(k:b=true):(a&&b)=true:=by rw[h,k];rfl
set_option maxRecDepth 100000 in
theorem Wzy:joinedFacts Tryz.pinned.checked.prog 3 Tryz.f3 (Rows.OpenSpec.upto Rows.searchLazySpec).bare Rows.searchLazyUptoRow=true:=by
 unfold joinedFacts
 exact(dz7 (dz7 (dz7 (dz7 (dz7 (dz7 (dz7 (dz7 (dz7 (dz7 (dz7 (dz7 (dz7 (dz7 (dz7 (dz7 (dz7 (dz7 (dz7 (dz7 (dz7 (dz7 (dz7 (dz7 (dz7 (dz7 (dz7 (dz7 (dz7 (dz7 (dz7 az3o Szi) wzw) Iz7) Nz2) Iz4) Nz4) Iz3) Nz0) Ezi) Xzw) Xzu) Szl) Szk) Iz5) Ezj) Nz1) Szm) Nz5) Xzv) wzv) Azx) wzx) Nz3) Mzy) Azy) Iz6) Szj) Mzz) Iz8) Iz9) Szh)
theorem own:ownKnob Tryz.prog.godebug=none:=by kernel_rfl
set_option maxRecDepth 100000 in
theorem Mzb (plain:∀ (a0:azg) (a1:az9) (a2:Int) (a3:Int) (a4:(List Int)) (a5:(List Int)) (a6:Int) (a7:Int) (a8:Int) (a9:Int),Uzq a0->Uzr a1->fz1 a2->fz1 a3->pz0 a4->pz0 a5->fz1 a6->fz1 a7->fz1 a8->fz1 a9->Bzu a0+yzx a1+bzb a2+bzb a3+ez1 a4+ez1 a5+bzb a6+bzb a7+bzb a8+bzb a9≤1048576->(ezd a0 a1 a2 a3 a4 a5 a6 a7 a8 a9).o=some true)(H:Type)(enc:TypeId×Value->H)(W:World)(base:Nat)(args:Array Value)(ds gs:List (DataW H))(before:List MemPlace)
 (hval:∀ (j:Nat) t v,Tryz.f3.params[j]?=some t->args[j]?=some v->Value.okWide Tryz.prog W .any base t v)
 (hW:DataW.Whole enc Tryz.prog Tryz.f3.params.toList Rows.searchLazySpec.vars false W args.toList ds gs before) (hk:Rows.uptoSmall H (ds++gs)=true):
 Calls Tryz.prog 3 args W fun e W'=>∃v,e=.returned v/\Rows.searchLazySpec.post enc Tryz.prog Tryz.f3 false true false false W args v W':=by
 have hW':=hW
 obtain⟨p,q,hA0,hV,rfl,hfz,hnd⟩:=hW
 have hA:DataW.TrodAll enc Tryz.prog W 0 (fun _=>true) true Tryz.f3.params.toList args.toList ds p:=hA0
 rw[Tryz.params3]at hA hval
 obtain⟨v0,vs0,d0,ds0,p0,q0,hargs,rfl,rfl,h0,r0⟩:=trodAll_cons hA
 obtain⟨v1,vs1,d1,ds1,p1,q1,hargs1,rfl,rfl,h1,r1⟩:=trodAll_cons r0
 subst hargs1
 obtain⟨v2,vs2,d2,ds2,p2,q2,hargs2,rfl,rfl,h2,r2⟩:=trodAll_cons r1
 subst hargs2
 obtain⟨v3,vs3,d3,ds3,p3,q3,hargs3,rfl,rfl,h3,r3⟩:=trodAll_cons r2
 subst hargs3
 obtain⟨v4,vs4,d4,ds4,p4,q4,hargs4,rfl,rfl,h4,r4⟩:=trodAll_cons r3
 subst hargs4
 obtain⟨v5,vs5,d5,ds5,p5,q5,hargs5,rfl,rfl,h5,r5⟩:=trodAll_cons r4
 subst hargs5
 obtain⟨v6,vs6,d6,ds6,p6,q6,hargs6,rfl,rfl,h6,r6⟩:=trodAll_cons r5
 subst hargs6
 obtain⟨v7,vs7,d7,ds7,p7,q7,hargs7,rfl,rfl,h7,r7⟩:=trodAll_cons r6
 subst hargs7
 obtain⟨v8,vs8,d8,ds8,p8,q8,hargs8,rfl,rfl,h8,r8⟩:=trodAll_cons r7
 subst hargs8
 obtain⟨v9,vs9,d9,ds9,p9,q9,hargs9,rfl,rfl,h9,r9⟩:=trodAll_cons r8
 subst hargs9
 obtain⟨rfl,rfl,rfl⟩:=trodAll_nil r9
 obtain rfl:args=#[v0,v1,v2,v3,v4,v5,v6,v7,v8,v9]:=by cases args;simp_all
 obtain⟨rfl,rfl⟩:=trodVars_none hV
 obtain⟨n0,h0⟩:=h0
 obtain⟨a0,c0,o0,b0⟩:=az48 H enc W _ _ _ h0
 obtain⟨n1,h1⟩:=h1
 obtain⟨a1,c1,o1,b1⟩:=az4b H enc W _ _ _ h1
 obtain⟨n2,h2⟩:=h2
 obtain⟨a2,c2,o2,b2⟩:=gzi H enc W _ _ _ h2
 obtain⟨n3,h3⟩:=h3
 obtain⟨a3,c3,o3,b3⟩:=gzi H enc W _ _ _ h3
 obtain⟨n4,h4⟩:=h4
 obtain⟨a4,c4,o4,b4⟩:=Jze H enc W _ _ _ h4
 obtain⟨n5,h5⟩:=h5
 obtain⟨a5,c5,o5,b5⟩:=Jze H enc W _ _ _ h5
 obtain⟨n6,h6⟩:=h6
 obtain⟨a6,c6,o6,b6⟩:=gzi H enc W _ _ _ h6
 obtain⟨n7,h7⟩:=h7
 obtain⟨a7,c7,o7,b7⟩:=gzi H enc W _ _ _ h7
 obtain⟨n8,h8⟩:=h8
 obtain⟨a8,c8,o8,b8⟩:=gzi H enc W _ _ _ h8
 obtain⟨n9,h9⟩:=h9
 obtain⟨a9,c9,o9,b9⟩:=gzi H enc W _ _ _ h9
 have hb:Rows.uptoBulkAll ([d0,d1,d2,d3,d4,d5,d6,d7,d8,d9]++[]:List (DataW H))≤1048576:=of_decide_eq_true hk
 simp only[List.append_nil,Rows.uptoBulkAll]at hb
 have htrue:=plain a0 a1 a2 a3 a4 a5 a6 a7 a8 a9 o0 o1 o2 o3 o4 o5 o6 o7 o8 o9 (by simp only at b0 b1 b2 b3 b4 b5 b6 b7 b8 b9;omega)
 refine Fzu (bt:=4) ((ezd a0 a1 a2 a3 a4 a5 a6 a7 a8 a9).ok _ htrue) (fun ρ=>dzq (Wz8 (P:=Tryz.prog) (hval 0 29 v0 rfl rfl) (by kernel_rfl) c0) (dzq (Wz8 (P:=Tryz.prog) (hval 1 33 v1 rfl rfl) (by kernel_rfl) c1) (dzq (jzw (P:=Tryz.prog) (hval 2 3 v2 rfl rfl) (by kernel_rfl) c2) (dzq (jzw (P:=Tryz.prog) (hval 3 3 v3 rfl rfl) (by kernel_rfl) c3) (dzq (jzw (P:=Tryz.prog) (hval 4 34 v4 rfl rfl) (by kernel_rfl) c4) (dzq (jzw (P:=Tryz.prog) (hval 5 34 v5 rfl rfl) (by kernel_rfl) c5) (dzq (jzw (P:=Tryz.prog) (hval 6 3 v6 rfl rfl) (by kernel_rfl) c6) (dzq (jzw (P:=Tryz.prog) (hval 7 3 v7 rfl rfl) (by kernel_rfl) c7) (dzq (jzw (P:=Tryz.prog) (hval 8 3 v8 rfl rfl) (by kernel_rfl) c8) (dzq (jzw (P:=Tryz.prog) (hval 9 3 v9 rfl rfl) (by kernel_rfl) c9) (Ozu))))))))))) hW' rfl rfl (by kernel_rfl) (by kernel_rfl) (slices_full_of _ (by kernel_rfl)) ?_ (by kernel_rfl) (by kernel_rfl)
 have hs:Tryz.prog.types.size=364:=by kernel_rfl
 rw[Tryz.params3,hs];simp only[List.mem_cons,List.not_mem_nil,or_false]
 rintro t (rfl|rfl|rfl|rfl|rfl|rfl|rfl|rfl|rfl|rfl)<;>decide
set_option maxRecDepth 100000 in
theorem lifted (plain:∀ (a0:azg) (a1:az9) (a2:Int) (a3:Int) (a4:(List Int)) (a5:(List Int)) (a6:Int) (a7:Int) (a8:Int) (a9:Int),Uzq a0->Uzr a1->fz1 a2->fz1 a3->pz0 a4->pz0 a5->fz1 a6->fz1 a7->fz1 a8->fz1 a9->Bzu a0+yzx a1+bzb a2+bzb a3+ez1 a4+ez1 a5+bzb a6+bzb a7+bzb a8+bzb a9≤1048576->(ezd a0 a1 a2 a3 a4 a5 a6 a7 a8 a9).o=some true)(os:Os)(started:os.Started)(H:Type)(enc:TypeId×Value->H)(F:Stop.Interp):
 ReturnsInHanded {} Tryz.checked os 3 .any ((Rows.OpenSpec.upto Rows.searchLazySpec).pre6 enc Tryz.prog Tryz.f3 Rows.searchLazyUptoRow.domain false) (((Rows.OpenSpec.upto Rows.searchLazySpec).at F).post enc Tryz.prog Tryz.f3 false true false false):=by
 refine returnsInHanded_of_cond (C:=Tryz.checked) (s:=Rows.OpenSpec.upto Rows.searchLazySpec) (k:=Rows.uptoSmall) rfl own started (by kernel_rfl) Tryz.func3
  (OpenSpec.witness (enc:=enc) (C:=Tryz.checked) (s:=Rows.OpenSpec.upto Rows.searchLazySpec) (k:=Rows.uptoSmall) rfl false ⟨#[],#[.agg #[.slice none 0 0,.slice none 0 0,.slice none 0 0,.slice none 0 0],.agg #[.slice none 0 0,.slice none 0 0],.int .i64 0,.int .i64 0,.slice none 0 0,.slice none 0 0,.int .i64 0,.int .i64 0,.int .i64 0,.int .i64 0],[]⟩ 8 (by kernel_rfl) (by kernel_rfl) (by kernel_rfl)
   (x:=([.agg [.agg [.nil,.nil],.nil,.nil],.agg [.nil,.nil],.lit (.int .i64 0),.lit (.int .i64 0),.nil,.nil,.lit (.int .i64 0),.lit (.int .i64 0),.lit (.int .i64 0),.lit (.int .i64 0)],[],[])) (by kernel_rfl) rfl (by kernel_rfl)) ?_
 intro W base args ds gs before hval hW _ hk _
 exact Mzb plain H enc W base args ds gs before hval hW hk
theorem over (plain:∀ (a0:azg) (a1:az9) (a2:Int) (a3:Int) (a4:(List Int)) (a5:(List Int)) (a6:Int) (a7:Int) (a8:Int) (a9:Int),Uzq a0->Uzr a1->fz1 a2->fz1 a3->pz0 a4->pz0 a5->fz1 a6->fz1 a7->fz1 a8->fz1 a9->Bzu a0+yzx a1+bzb a2+bzb a3+ez1 a4+ez1 a5+bzb a6+bzb a7+bzb a8+bzb a9≤1048576->(ezd a0 a1 a2 a3 a4 a5 a6 a7 a8 a9).o=some true):Rows.searchLazyUptoRow.holds Tryz.pinned (Rows.OpenSpec.upto Rows.searchLazySpec):=
 OpenClaim.holds_of_cond 3 Tryz.f3 rfl rfl rfl rfl rfl rfl rfl ⟨rfl,rfl,rfl,rfl,rfl⟩ rfl rfl rfl rfl rfl (by kernel_rfl) Tryz.func3 Wzy
  (of_decide_eq_true (by kernel_rfl)) (by unfold Func.isWrapper;first|(rw[if_pos (by decide+kernel)];kernel_rfl)|(rw[if_neg (by decide+kernel)];exact⟨rfl,rfl⟩))
  (fun os started H enc _ F=>lifted plain os started H enc F)
end searchLazy
end Go.Abs
