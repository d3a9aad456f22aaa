/-
  TPathShortens (a part of a claim: our own text).
-/
import Derived.Test.YtlalffdgimbodaaGreatYGTop
import Derived.Test.YtlalffdgimbodaaGreatYGD3
import Derived.Test.YtlalffdgimbodaaGreatYGJPathShortensb
namespace Go.Abs
open Go.Proofs Go.Proofs.YtlalffdgimbodaaGreat Go.ChangeShapes Go.WideShapes Go.ChangeAt Go.RowKit
namespace pathShortens
def az05 (v:ByteArray):List PVal:=[.str v]
def az6t (_:ByteArray):Prop:=True
def Wze (v:ByteArray):Nat:=v.size+1
theorem az70:Rep Tryz.prog 9 az05 az6t Wze:=Vzn (by kernel_rfl)
def Tzt (v:Int):List PVal:=[.int .i64 v]
def rzp (v:Int):Prop:=(Lit.int .i64 v).wf=true
def dzi (_:Int):Nat:=1
theorem wzj:Rep Tryz.prog 3 Tzt rzp dzi:=Yzz (by kernel_rfl)
def Tzs (v:Int):List PVal:=[.int .i64 v]
def Dz0 (v:Int):Prop:=(Lit.int .i64 v).wf=true
def hzy (_:Int):Nat:=1
theorem tzi:Rep Tryz.prog 2 Tzs Dz0 hzy:=Yzz (by kernel_rfl)
def Ozt (v:(Int×Int×Int)):List PVal:=[.int .i64 v.1,.int .i64 v.2.1,.int .i64 v.2.2]
def Uz7 (v:(Int×Int×Int)):Prop:=Dz0 v.1/\Dz0 v.2.1/\Dz0 v.2.2/\True
def zzd (v:(Int×Int×Int)):Nat:=(hzy v.1+(hzy v.2.1+(hzy v.2.2+0)))+1
theorem Szw:Rep Tryz.prog 78 Ozt Uz7 zzd:=
 (Yzy (e:=2) (n:=3) (sz:=1) (fs:=[(2,0),(2,1),(2,2)]) (by kernel_rfl) (by kernel_rfl) (by kernel_rfl) (by kernel_rfl) (.cons (sz:=1) tzi (by kernel_rfl) (.cons (sz:=1) tzi (by kernel_rfl) (.cons (sz:=1) tzi (by kernel_rfl) .nil)))).map (fun p=>(p.1,p.2.1,p.2.2.1)) (fun _=>rfl) (fun _ h=>h) (fun _=>Nat.le_refl _)
def Lz2 (v:azr):List PVal:=[.str v.Name,.int .i64 v.Kind,.int .i64 v.Parent,.int .i64 v.Offset.1,.int .i64 v.Offset.2.1,.int .i64 v.Offset.2.2,.int .i64 v.Lo,.int .i64 v.Hi,.int .i64 v.Weight,.int .i64 v.Speed,.int .i64 v.Accel,.int .i64 v.Torque]
def Yzg (v:azr):Prop:=az6t v.Name/\rzp v.Kind/\rzp v.Parent/\Uz7 v.Offset/\Dz0 v.Lo/\Dz0 v.Hi/\Dz0 v.Weight/\Dz0 v.Speed/\Dz0 v.Accel/\Dz0 v.Torque/\True
def Ozn (v:azr):Nat:=(Wze v.Name+(dzi v.Kind+(dzi v.Parent+(zzd v.Offset+(hzy v.Lo+(hzy v.Hi+(hzy v.Weight+(hzy v.Speed+(hzy v.Accel+(hzy v.Torque+0))))))))))+1
theorem az1a:Rep Tryz.prog 101 Lz2 Yzg Ozn:=
 (hzt (fs:=[(9,0),(3,1),(3,2),(78,3),(2,6),(2,7),(2,8),(2,9),(2,10),(2,11)]) (by kernel_rfl) (by kernel_rfl) (by kernel_rfl) (.cons (sz:=1) az70 (by kernel_rfl) (.cons (sz:=1) wzj (by kernel_rfl) (.cons (sz:=1) wzj (by kernel_rfl) (.cons (sz:=3) Szw (by kernel_rfl) (.cons (sz:=1) tzi (by kernel_rfl) (.cons (sz:=1) tzi (by kernel_rfl) (.cons (sz:=1) tzi (by kernel_rfl) (.cons (sz:=1) tzi (by kernel_rfl) (.cons (sz:=1) tzi (by kernel_rfl) (.cons (sz:=1) tzi (by kernel_rfl) .nil))))))))))).map (fun p=>⟨p.1,p.2.1,p.2.2.1,p.2.2.2.1,p.2.2.2.2.1,p.2.2.2.2.2.1,p.2.2.2.2.2.2.1,p.2.2.2.2.2.2.2.1,p.2.2.2.2.2.2.2.2.1,p.2.2.2.2.2.2.2.2.2.1⟩) (fun _=>rfl) (fun _ h=>h) (fun _=>Nat.le_refl _)
def Wzj (v:(List azr)):List PVal:=[encL 12 azd v]
def az2m (v:(List azr)):Prop:=∀a∈v,Yzg a
def Tzk (v:(List azr)):Nat:=(v.map Ozn).sum+1
theorem az4l:Rep Tryz.prog 22 Wzj az2m Tzk:=izp (cells:=Lz2) (enc:=azd) (sz:=12) (by kernel_rfl) (by kernel_rfl) (by decide) (fun _=>rfl) (fun _=>rfl) az1a
def Lz3 (v:bzq):List PVal:=[.int .i64 v.Link,.int .i64 v.Mass,.int .i64 v.Point.1,.int .i64 v.Point.2.1,.int .i64 v.Point.2.2]
def Yzh (v:bzq):Prop:=rzp v.Link/\Dz0 v.Mass/\Uz7 v.Point/\True
def Ozo (v:bzq):Nat:=(dzi v.Link+(hzy v.Mass+(zzd v.Point+0)))+1
theorem az1b:Rep Tryz.prog 128 Lz3 Yzh Ozo:=
 (hzt (fs:=[(3,0),(2,1),(78,2)]) (by kernel_rfl) (by kernel_rfl) (by kernel_rfl) (.cons (sz:=1) wzj (by kernel_rfl) (.cons (sz:=1) tzi (by kernel_rfl) (.cons (sz:=3) Szw (by kernel_rfl) .nil)))).map (fun p=>⟨p.1,p.2.1,p.2.2.1⟩) (fun _=>rfl) (fun _ h=>h) (fun _=>Nat.le_refl _)
def Wzk (v:(List bzq)):List PVal:=[encL 5 azf v]
def az2n (v:(List bzq)):Prop:=∀a∈v,Yzh a
def Tzl (v:(List bzq)):Nat:=(v.map Ozo).sum+1
theorem az4m:Rep Tryz.prog 23 Wzk az2n Tzl:=izp (cells:=Lz3) (enc:=azf) (sz:=5) (by kernel_rfl) (by kernel_rfl) (by decide) (fun _=>rfl) (fun _=>rfl) az1b
def Wzl (v:azl):List PVal:=[encL 12 azd v.Joints,encL 5 azf v.Masses]
def az2o (v:azl):Prop:=az2m v.Joints/\az2n v.Masses/\True
def Tzm (v:azl):Nat:=(Tzk v.Joints+(Tzl v.Masses+0))+1
theorem az4n:Rep Tryz.prog 25 Wzl az2o Tzm:=
 (hzt (fs:=[(22,0),(23,1)]) (by kernel_rfl) (by kernel_rfl) (by kernel_rfl) (.cons (sz:=1) az4l (by kernel_rfl) (.cons (sz:=1) az4m (by kernel_rfl) .nil))).map (fun p=>⟨p.1,p.2.1⟩) (fun _=>rfl) (fun _ h=>h) (fun _=>Nat.le_refl _)
def Wzt (v:(List (Int×Int×Int))):List PVal:=[encL 3 az1 v]
def Yzi (v:(List (Int×Int×Int))):Prop:=∀a∈v,Uz7 a
def Hz5 (v:(List (Int×Int×Int))):Nat:=(v.map zzd).sum+1
theorem Zz0:Rep Tryz.prog 68 Wzt Yzi Hz5:=izp (cells:=Ozt) (enc:=az1) (sz:=3) (by kernel_rfl) (by kernel_rfl) (by decide) (fun _=>rfl) (fun _=>rfl) Szw
def Ozv (v:azu):List PVal:=[.int .i64 v.Link,.int .i64 v.Radius,encL 3 az1 v.Points]
def az2x (v:azu):Prop:=rzp v.Link/\Dz0 v.Radius/\Yzi v.Points/\True
def Tzp (v:azu):Nat:=(dzi v.Link+(hzy v.Radius+(Hz5 v.Points+0)))+1
theorem az4y:Rep Tryz.prog 94 Ozv az2x Tzp:=
 (hzt (fs:=[(3,0),(2,1),(68,2)]) (by kernel_rfl) (by kernel_rfl) (by kernel_rfl) (.cons (sz:=1) wzj (by kernel_rfl) (.cons (sz:=1) tzi (by kernel_rfl) (.cons (sz:=1) Zz0 (by kernel_rfl) .nil)))).map (fun p=>⟨p.1,p.2.1,p.2.2.1⟩) (fun _=>rfl) (fun _ h=>h) (fun _=>Nat.le_refl _)
def Wzm (v:(List azu)):List PVal:=[encL 3 azg v]
def az2p (v:(List azu)):Prop:=∀a∈v,az2x a
def Tzn (v:(List azu)):Nat:=(v.map Tzp).sum+1
theorem az4o:Rep Tryz.prog 26 Wzm az2p Tzn:=izp (cells:=Ozv) (enc:=azg) (sz:=3) (by kernel_rfl) (by kernel_rfl) (by decide) (fun _=>rfl) (fun _=>rfl) az4y
def Ozw (v:fzy):List PVal:=[.int .i64 v.A,.int .i64 v.B]
def az2y (v:fzy):Prop:=rzp v.A/\rzp v.B/\True
def Tzq (v:fzy):Nat:=(dzi v.A+(dzi v.B+0))+1
theorem az4z:Rep Tryz.prog 97 Ozw az2y Tzq:=
 (hzt (fs:=[(3,0),(3,1)]) (by kernel_rfl) (by kernel_rfl) (by kernel_rfl) (.cons (sz:=1) wzj (by kernel_rfl) (.cons (sz:=1) wzj (by kernel_rfl) .nil))).map (fun p=>⟨p.1,p.2.1⟩) (fun _=>rfl) (fun _ h=>h) (fun _=>Nat.le_refl _)
def Wzn (v:(List fzy)):List PVal:=[encL 2 azn v]
def az2q (v:(List fzy)):Prop:=∀a∈v,az2y a
def Tzo (v:(List fzy)):Nat:=(v.map Tzq).sum+1
theorem az4p:Rep Tryz.prog 27 Wzn az2q Tzo:=izp (cells:=Ozw) (enc:=azn) (sz:=2) (by kernel_rfl) (by kernel_rfl) (by decide) (fun _=>rfl) (fun _=>rfl) az4z
def Wzo (v:az9):List PVal:=[encL 12 azd v.Robot.Joints,encL 5 azf v.Robot.Masses,encL 3 azg v.Shapes,encL 2 azn v.Skips]
def Uz5 (v:az9):Prop:=az2o v.Robot/\az2p v.Shapes/\az2q v.Skips/\True
def Cz6 (v:az9):Nat:=(Tzm v.Robot+(Tzn v.Shapes+(Tzo v.Skips+0)))+1
theorem az4q:Rep Tryz.prog 29 Wzo Uz5 Cz6:=
 (hzt (fs:=[(25,0),(26,2),(27,3)]) (by kernel_rfl) (by kernel_rfl) (by kernel_rfl) (.cons (sz:=2) az4n (by kernel_rfl) (.cons (sz:=1) az4o (by kernel_rfl) (.cons (sz:=1) az4p (by kernel_rfl) .nil)))).map (fun p=>⟨p.1,p.2.1,p.2.2.1⟩) (fun _=>rfl) (fun _ h=>h) (fun _=>Nat.le_refl _)
def Ozr (v:(List Int)):List PVal:=[encL 1 az3 v]
def az2t (v:(List Int)):Prop:=∀a∈v,Dz0 a
def qz0 (v:(List Int)):Nat:=(v.map hzy).sum+1
theorem az4u:Rep Tryz.prog 53 Ozr az2t qz0:=izp (cells:=Tzs) (enc:=az3) (sz:=1) (by kernel_rfl) (by kernel_rfl) (by decide) (fun _=>rfl) (fun _=>rfl) tzi
def Wzp (v:(List (List Int))):List PVal:=[encL 1 (encL 1 az3) v]
def az2r (v:(List (List Int))):Prop:=∀a∈v,az2t a
def Mz3 (v:(List (List Int))):Nat:=(v.map qz0).sum+1
theorem az4r:Rep Tryz.prog 30 Wzp az2r Mz3:=izp (cells:=Ozr) (enc:=(encL 1 az3)) (sz:=1) (by kernel_rfl) (by kernel_rfl) (by decide) (fun _=>rfl) (fun _=>rfl) az4u
def Wzq (v:(List Int)):List PVal:=[encL 1 az3 v]
def Fzz (v:(List Int)):Prop:=∀a∈v,rzp a
def hzc (v:(List Int)):Nat:=(v.map dzi).sum+1
theorem Szv:Rep Tryz.prog 31 Wzq Fzz hzc:=izp (cells:=Tzt) (enc:=az3) (sz:=1) (by kernel_rfl) (by kernel_rfl) (by decide) (fun _=>rfl) (fun _=>rfl) wzj
def Ozu (v:czf):List PVal:=[.int .i64 v.Depth,.int .i64 v.Index,encL 1 az3 v.Numbers]
def az2w (v:czf):Prop:=rzp v.Depth/\Dz0 v.Index/\Fzz v.Numbers/\True
def tzw (v:czf):Nat:=(dzi v.Depth+(hzy v.Index+(hzc v.Numbers+0)))+1
theorem az4x:Rep Tryz.prog 81 Ozu az2w tzw:=
 (hzt (fs:=[(3,0),(2,1),(31,2)]) (by kernel_rfl) (by kernel_rfl) (by kernel_rfl) (.cons (sz:=1) wzj (by kernel_rfl) (.cons (sz:=1) tzi (by kernel_rfl) (.cons (sz:=1) Szv (by kernel_rfl) .nil)))).map (fun p=>⟨p.1,p.2.1,p.2.2.1⟩) (fun _=>rfl) (fun _ h=>h) (fun _=>Nat.le_refl _)
def Wzu (v:(List czf)):List PVal:=[encL 3 bzd v]
def az2u (v:(List czf)):Prop:=∀a∈v,az2w a
def Mz5 (v:(List czf)):Nat:=(v.map tzw).sum+1
theorem az4v:Rep Tryz.prog 69 Wzu az2u Mz5:=izp (cells:=Ozu) (enc:=bzd) (sz:=3) (by kernel_rfl) (by kernel_rfl) (by decide) (fun _=>rfl) (fun _=>rfl) az4x
def Ozs (v:aze):List PVal:=[encL 3 az1 v.Table,encL 3 bzd v.Uses]
def az2v (v:aze):Prop:=Yzi v.Table/\az2u v.Uses/\True
def qz1 (v:aze):Nat:=(Hz5 v.Table+(Mz5 v.Uses+0))+1
theorem az4w:Rep Tryz.prog 71 Ozs az2v qz1:=
 (hzt (fs:=[(68,0),(69,1)]) (by kernel_rfl) (by kernel_rfl) (by kernel_rfl) (.cons (sz:=1) Zz0 (by kernel_rfl) (.cons (sz:=1) az4v (by kernel_rfl) .nil))).map (fun p=>⟨p.1,p.2.1⟩) (fun _=>rfl) (fun _ h=>h) (fun _=>Nat.le_refl _)
def Wzr (v:(List aze)):List PVal:=[encL 2 azi v]
def az2s (v:(List aze)):Prop:=∀a∈v,az2v a
def Mz4 (v:(List aze)):Nat:=(v.map qz1).sum+1
theorem az4s:Rep Tryz.prog 34 Wzr az2s Mz4:=izp (cells:=Ozs) (enc:=azi) (sz:=2) (by kernel_rfl) (by kernel_rfl) (by decide) (fun _=>rfl) (fun _=>rfl) az4w
def Wzs (v:azw):List PVal:=[encL 1 (encL 1 az3) v.Points,encL 2 azi v.Edges]
def Uz6 (v:azw):Prop:=az2r v.Points/\az2s v.Edges/\True
def tzv (v:azw):Nat:=(Mz3 v.Points+(Mz4 v.Edges+0))+1
theorem az4t:Rep Tryz.prog 36 Wzs Uz6 tzv:=
 (hzt (fs:=[(30,0),(34,1)]) (by kernel_rfl) (by kernel_rfl) (by kernel_rfl) (.cons (sz:=1) az4r (by kernel_rfl) (.cons (sz:=1) az4s (by kernel_rfl) .nil))).map (fun p=>⟨p.1,p.2.1⟩) (fun _=>rfl) (fun _ h=>h) (fun _=>Nat.le_refl _)
theorem izy {a b:Bool}(h:a=true)(k:b=true):(a&&b)=true:=by rw[h,k];rfl
set_option maxRecDepth 100000 in
theorem az5z:joinedFacts Tryz.pinned.checked.prog 5 Tryz.f5 (Rows.OpenSpec.upto Rows.pathShortensSpec).bare Rows.pathShortensUptoRow=true:=by
 unfold joinedFacts
 exact(izy (izy (izy (izy (izy (izy (izy (izy (izy (izy (izy (izy (izy (izy (izy (izy (izy (izy (izy (izy (izy (izy (izy (izy (izy (izy (izy (izy (izy (izy (izy az7m az47) Pzq) Xzw) az0v) Xzt) az0x) Xzs) az0t) Vzb) az6h) az6f) az4a) az49) Xzu) Vzc) az0u) az4b) az0y) az6g) Pzp) Sz8) Pzr) az0w) az0r) Sz9) Xzv) az48) az0s) Xzx) Xzy) az46)
theorem own:ownKnob Tryz.prog.godebug=none:=by kernel_rfl
set_option maxRecDepth 100000 in
theorem az07 (plain:∀ (a0:az9) (a1:azw) (a2:(List Int)) (a3:(List Int)) (a4:Int) (a5:Int) (a6:Int) (a7:Int),Uz5 a0->Uz6 a1->Fzz a2->Fzz a3->rzp a4->rzp a5->rzp a6->rzp a7->Cz6 a0+tzv a1+hzc a2+hzc a3+dzi a4+dzi a5+dzi a6+dzi a7≤1048576->(dzf a0 a1 a2 a3 a4 a5 a6 a7).o=some true)(H:Type)(enc:TypeId×Value->H)(W:World)(base:Nat)(args:Array Value)(ds gs:List (DataW H))(before:List MemPlace)
 (hval:∀ (j:Nat) t v,Tryz.f5.params[j]?=some t->args[j]?=some v->Value.okWide Tryz.prog W .any base t v)
 (hW:DataW.Whole enc Tryz.prog Tryz.f5.params.toList Rows.pathShortensSpec.vars false W args.toList ds gs before) (hk:Rows.uptoSmall H (ds++gs)=true):
 Calls Tryz.prog 5 args W fun e W'=>∃v,e=.returned v/\Rows.pathShortensSpec.post enc Tryz.prog Tryz.f5 false true false false W args v W':=by
 have hW':=hW
 obtain⟨p,q,hA0,hV,rfl,hfz,hnd⟩:=hW
 have hA:DataW.TrodAll enc Tryz.prog W 0 (fun _=>true) true Tryz.f5.params.toList args.toList ds p:=hA0
 rw[Tryz.params5]at hA hval
 obtain⟨v0,vs0,d0,ds0,p0,q0,hargs,rfl,rfl,h0,r0⟩:=trodAll_cons hA
 obtain⟨v1,vs1,d1,ds1,p1,q1,hargs1,rfl,rfl,h1,r1⟩:=trodAll_cons r0
 subst hargs1
 obtain⟨v2,vs2,d2,ds2,p2,q2,hargs2,rfl,rfl,h2,r2⟩:=trodAll_cons r1
 subst hargs2
 obtain⟨v3,vs3,d3,ds3,p3,q3,hargs3,rfl,rfl,h3,r3⟩:=trodAll_cons r2
 subst hargs3
 obtain⟨v4,vs4,d4,ds4,p4,q4,hargs4,rfl,rfl,h4,r4⟩:=trodAll_cons r3
 subst hargs4
 obtain⟨v5,vs5,d5,ds5,p5,q5,hargs5,rfl,rfl,h5,r5⟩:=trodAll_cons r4
 subst hargs5
 obtain⟨v6,vs6,d6,ds6,p6,q6,hargs6,rfl,rfl,h6,r6⟩:=trodAll_cons r5
 subst hargs6
 obtain⟨v7,vs7,d7,ds7,p7,q7,hargs7,rfl,rfl,h7,r7⟩:=trodAll_cons r6
 subst hargs7
 obtain⟨rfl,rfl,rfl⟩:=trodAll_nil r7
 obtain rfl:args=#[v0,v1,v2,v3,v4,v5,v6,v7]:=by cases args;simp_all
 obtain⟨rfl,rfl⟩:=trodVars_none hV
 obtain⟨n0,h0⟩:=h0
 obtain⟨a0,c0,o0,b0⟩:=az4q H enc W _ _ _ h0
 obtain⟨n1,h1⟩:=h1
 obtain⟨a1,c1,o1,b1⟩:=az4t H enc W _ _ _ h1
 obtain⟨n2,h2⟩:=h2
 obtain⟨a2,c2,o2,b2⟩:=Szv H enc W _ _ _ h2
 obtain⟨n3,h3⟩:=h3
 obtain⟨a3,c3,o3,b3⟩:=Szv H enc W _ _ _ h3
 obtain⟨n4,h4⟩:=h4
 obtain⟨a4,c4,o4,b4⟩:=wzj H enc W _ _ _ h4
 obtain⟨n5,h5⟩:=h5
 obtain⟨a5,c5,o5,b5⟩:=wzj H enc W _ _ _ h5
 obtain⟨n6,h6⟩:=h6
 obtain⟨a6,c6,o6,b6⟩:=wzj H enc W _ _ _ h6
 obtain⟨n7,h7⟩:=h7
 obtain⟨a7,c7,o7,b7⟩:=wzj H enc W _ _ _ h7
 have hb:Rows.uptoBulkAll ([d0,d1,d2,d3,d4,d5,d6,d7]++[]:List (DataW H))≤1048576:=of_decide_eq_true hk
 simp only[List.append_nil,Rows.uptoBulkAll]at hb
 have htrue:=plain a0 a1 a2 a3 a4 a5 a6 a7 o0 o1 o2 o3 o4 o5 o6 o7 (by simp only at b0 b1 b2 b3 b4 b5 b6 b7;omega)
 refine Qze (bt:=4) ((dzf a0 a1 a2 a3 a4 a5 a6 a7).ok _ htrue) (fun ρ=>jz7 (Wz6 (P:=Tryz.prog) (hval 0 29 v0 rfl rfl) (by kernel_rfl) c0) (jz7 (Wz6 (P:=Tryz.prog) (hval 1 36 v1 rfl rfl) (by kernel_rfl) c1) (jz7 (Ezz (P:=Tryz.prog) (hval 2 31 v2 rfl rfl) (by kernel_rfl) c2) (jz7 (Ezz (P:=Tryz.prog) (hval 3 31 v3 rfl rfl) (by kernel_rfl) c3) (jz7 (Ezz (P:=Tryz.prog) (hval 4 3 v4 rfl rfl) (by kernel_rfl) c4) (jz7 (Ezz (P:=Tryz.prog) (hval 5 3 v5 rfl rfl) (by kernel_rfl) c5) (jz7 (Ezz (P:=Tryz.prog) (hval 6 3 v6 rfl rfl) (by kernel_rfl) c6) (jz7 (Ezz (P:=Tryz.prog) (hval 7 3 v7 rfl rfl) (by kernel_rfl) c7) (Wz8))))))))) hW' rfl rfl (by kernel_rfl) (by kernel_rfl) (slices_full_of _ (by kernel_rfl)) ?_ (by kernel_rfl) (by kernel_rfl)
 have hs:Tryz.prog.types.size=348:=by kernel_rfl
 rw[Tryz.params5,hs];simp only[List.mem_cons,List.not_mem_nil,or_false]
 rintro t (rfl|rfl|rfl|rfl|rfl|rfl|rfl|rfl)<;>decide
set_option maxRecDepth 100000 in
theorem lifted (plain:∀ (a0:az9) (a1:azw) (a2:(List Int)) (a3:(List Int)) (a4:Int) (a5:Int) (a6:Int) (a7:Int),Uz5 a0->Uz6 a1->Fzz a2->Fzz a3->rzp a4->rzp a5->rzp a6->rzp a7->Cz6 a0+tzv a1+hzc a2+hzc a3+dzi a4+dzi a5+dzi a6+dzi a7≤1048576->(dzf a0 a1 a2 a3 a4 a5 a6 a7).o=some true)(os:Os)(started:os.Started)(H:Type)(enc:TypeId×Value->H)(F:Stop.Interp):
 ReturnsInHanded {} Tryz.checked os 5 .any ((Rows.OpenSpec.upto Rows.pathShortensSpec).pre6 enc Tryz.prog Tryz.f5 Rows.pathShortensUptoRow.domain false) (((Rows.OpenSpec.upto Rows.pathShortensSpec).at F).post enc Tryz.prog Tryz.f5 false true false false):=by
 refine returnsInHanded_of_cond (C:=Tryz.checked) (s:=Rows.OpenSpec.upto Rows.pathShortensSpec) (k:=Rows.uptoSmall) rfl own started (by kernel_rfl) Tryz.func5
  (OpenSpec.witness (enc:=enc) (C:=Tryz.checked) (s:=Rows.OpenSpec.upto Rows.pathShortensSpec) (k:=Rows.uptoSmall) rfl false ⟨#[],#[.agg #[.slice none 0 0,.slice none 0 0,.slice none 0 0,.slice none 0 0],.agg #[.slice none 0 0,.slice none 0 0],.slice none 0 0,.slice none 0 0,.int .i64 0,.int .i64 0,.int .i64 0,.int .i64 0],[]⟩ 8 (by kernel_rfl) (by kernel_rfl) (by kernel_rfl)
   (x:=([.agg [.agg [.nil,.nil],.nil,.nil],.agg [.nil,.nil],.nil,.nil,.lit (.int .i64 0),.lit (.int .i64 0),.lit (.int .i64 0),.lit (.int .i64 0)],[],[])) (by kernel_rfl) rfl (by kernel_rfl)) ?_
 intro W base args ds gs before hval hW _ hk _
 exact az07 plain H enc W base args ds gs before hval hW hk
theorem over (plain:∀ (a0:az9) (a1:azw) (a2:(List Int)) (a3:(List Int)) (a4:Int) (a5:Int) (a6:Int) (a7:Int),Uz5 a0->Uz6 a1->Fzz a2->Fzz a3->rzp a4->rzp a5->rzp a6->rzp a7->Cz6 a0+tzv a1+hzc a2+hzc a3+dzi a4+dzi a5+dzi a6+dzi a7≤1048576->(dzf a0 a1 a2 a3 a4 a5 a6 a7).o=some true):Rows.pathShortensUptoRow.holds Tryz.pinned (Rows.OpenSpec.upto Rows.pathShortensSpec):=
 OpenClaim.holds_of_cond 5 Tryz.f5 rfl rfl rfl rfl rfl rfl rfl ⟨rfl,rfl,rfl,rfl,rfl⟩ rfl rfl rfl rfl rfl (by kernel_rfl) Tryz.func5 az5z
  (of_decide_eq_true (by kernel_rfl)) (by unfold Func.isWrapper;first|(rw[if_pos (by decide+kernel)];kernel_rfl)|(rw[if_neg (by decide+kernel)];exact⟨rfl,rfl⟩))
  (fun os started H enc _ F=>lifted plain os started H enc F)
end pathShortens
end Go.Abs
