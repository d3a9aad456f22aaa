import Derived.Test.YtjonhijmljhjlaaGreatYITop
import Derived.Test.YtjonhijmljhjlaaGreatYID3
import Derived.Test.YtjonhijmljhjlaaGreatYIJSearchPathsb
open Nat renaming le_refl->ql
namespace Go.Abs
open Go.Proofs Go.Proofs.YtjonhijmljhjlaaGreat Go.ChangeShapes Go.WideShapes Go.ChangeAt Go.RowKit
namespace searchPaths
def az5m (v:ByteArray):List PVal:=[.str v]
def azd3 (_:ByteArray):Prop:=True
def az12 (v:ByteArray):Nat:=v.size+1
theorem azdb:Rep Tryz.prog 9 az5m azd3 az12:=az0f (by kernel_rfl)
def Yz0 (v:Int):List PVal:=[.int .i64 v]
def vz7 (v:Int):Prop:=(Lit.int .i64 v).wf=true
def dzw (_:Int):Nat:=1
theorem rz1:Rep Tryz.prog 3 Yz0 vz7 dzw:=az44 (by kernel_rfl)
def Xzz (v:Int):List PVal:=[.int .i64 v]
def Cz7 (v:Int):Prop:=(Lit.int .i64 v).wf=true
def gzl (_:Int):Nat:=1
theorem rz0:Rep Tryz.prog 2 Xzz Cz7 gzl:=az44 (by kernel_rfl)
def Szg (v:(Int×Int×Int)):List PVal:=[.int .i64 v.1,.int .i64 v.2.1,.int .i64 v.2.2]
def Yzu (v:(Int×Int×Int)):Prop:=Cz7 v.1/\Cz7 v.2.1/\Cz7 v.2.2/\True
def vzx (v:(Int×Int×Int)):Nat:=(gzl v.1+(gzl v.2.1+(gzl v.2.2+0)))+1
theorem Xz1:Rep Tryz.prog 96 Szg Yzu vzx:=
 (az43 (e:=2) (n:=3) (sz:=1) (fs:=[(2,0),(2,1),(2,2)]) (by kernel_rfl) (by kernel_rfl) (by kernel_rfl) (by kernel_rfl) (.cons (sz:=1) rz0 (by kernel_rfl) (.cons (sz:=1) rz0 (by kernel_rfl) (.cons (sz:=1) rz0 (by kernel_rfl) .nil)))).map (λp=>(p.1,p.2.1,p.2.2.1)) (λ_=>rfl) (λ_ h=>h) (λ_=>ql _)
def Oz7 (v:azz):List PVal:=[.str v.XA,.int .i64 v.Xm,.int .i64 v.Xt,.int .i64 v.Xw.1,.int .i64 v.Xw.2.1,.int .i64 v.Xw.2.2,.int .i64 v.Lo,.int .i64 v.Hi,.int .i64 v.XB,.int .i64 v.XF,.int .i64 v.XG,.int .i64 v.XE]
def az3f (v:azz):Prop:=azd3 v.XA/\vz7 v.Xm/\vz7 v.Xt/\Yzu v.Xw/\Cz7 v.Lo/\Cz7 v.Hi/\Cz7 v.XB/\Cz7 v.XF/\Cz7 v.XG/\Cz7 v.XE/\True
def Sz8 (v:azz):Nat:=(az12 v.XA+(dzw v.Xm+(dzw v.Xt+(vzx v.Xw+(gzl v.Lo+(gzl v.Hi+(gzl v.XB+(gzl v.XF+(gzl v.XG+(gzl v.XE+0))))))))))+1
theorem az72:Rep Tryz.prog 126 Oz7 az3f Sz8:=
 (fzj (fs:=[(9,0),(3,1),(3,2),(96,3),(2,6),(2,7),(2,8),(2,9),(2,10),(2,11)]) (by kernel_rfl) (by kernel_rfl) (by kernel_rfl) (.cons (sz:=1) azdb (by kernel_rfl) (.cons (sz:=1) rz1 (by kernel_rfl) (.cons (sz:=1) rz1 (by kernel_rfl) (.cons (sz:=3) Xz1 (by kernel_rfl) (.cons (sz:=1) rz0 (by kernel_rfl) (.cons (sz:=1) rz0 (by kernel_rfl) (.cons (sz:=1) rz0 (by kernel_rfl) (.cons (sz:=1) rz0 (by kernel_rfl) (.cons (sz:=1) rz0 (by kernel_rfl) (.cons (sz:=1) rz0 (by kernel_rfl) .nil))))))))))).map (λp=>⟨p.1,p.2.1,p.2.2.1,p.2.2.2.1,p.2.2.2.2.1,p.2.2.2.2.2.1,p.2.2.2.2.2.2.1,p.2.2.2.2.2.2.2.1,p.2.2.2.2.2.2.2.2.1,p.2.2.2.2.2.2.2.2.2.1⟩) (λ_=>rfl) (λ_ h=>h) (λ_=>ql _)
def az17 (v:(List azz)):List PVal:=[encL 12 azc v]
def az8i (v:(List azz)):Prop:=∀a∈v,az3f a
def Xzp (v:(List azz)):Nat:=(v.map Sz8).sum+1
theorem azam:Rep Tryz.prog 22 az17 az8i Xzp:=jze (cells:=Oz7) (enc:=azc) (sz:=12) (by kernel_rfl) (by kernel_rfl) (by decide) (λ_=>rfl) (λ_=>rfl) az72
def Oz8 (v:cz6):List PVal:=[.int .i64 v.Xp,.int .i64 v.XH,.int .i64 v.XD.1,.int .i64 v.XD.2.1,.int .i64 v.XD.2.2]
def az3g (v:cz6):Prop:=vz7 v.Xp/\Cz7 v.XH/\Yzu v.XD/\True
def Sz9 (v:cz6):Nat:=(dzw v.Xp+(gzl v.XH+(vzx v.XD+0)))+1
theorem az73:Rep Tryz.prog 146 Oz8 az3g Sz9:=
 (fzj (fs:=[(3,0),(2,1),(96,2)]) (by kernel_rfl) (by kernel_rfl) (by kernel_rfl) (.cons (sz:=1) rz1 (by kernel_rfl) (.cons (sz:=1) rz0 (by kernel_rfl) (.cons (sz:=3) Xz1 (by kernel_rfl) .nil)))).map (λp=>⟨p.1,p.2.1,p.2.2.1⟩) (λ_=>rfl) (λ_ h=>h) (λ_=>ql _)
def az18 (v:(List cz6)):List PVal:=[encL 5 azf v]
def az8j (v:(List cz6)):Prop:=∀a∈v,az3g a
def Xzq (v:(List cz6)):Nat:=(v.map Sz9).sum+1
theorem azan:Rep Tryz.prog 23 az18 az8j Xzq:=jze (cells:=Oz8) (enc:=azf) (sz:=5) (by kernel_rfl) (by kernel_rfl) (by decide) (λ_=>rfl) (λ_=>rfl) az73
def az19 (v:azo):List PVal:=[encL 12 azc v.Xb,encL 5 azf v.Xh]
def az8k (v:azo):Prop:=az8i v.Xb/\az8j v.Xh/\True
def Xzr (v:azo):Nat:=(Xzp v.Xb+(Xzq v.Xh+0))+1
theorem azao:Rep Tryz.prog 25 az19 az8k Xzr:=
 (fzj (fs:=[(22,0),(23,1)]) (by kernel_rfl) (by kernel_rfl) (by kernel_rfl) (.cons (sz:=1) azam (by kernel_rfl) (.cons (sz:=1) azan (by kernel_rfl) .nil))).map (λp=>⟨p.1,p.2.1⟩) (λ_=>rfl) (λ_ h=>h) (λ_=>ql _)
def az1j (v:(List (Int×Int×Int))):List PVal:=[encL 3 az1 v]
def az3h (v:(List (Int×Int×Int))):Prop:=∀a∈v,Yzu a
def Pzd (v:(List (Int×Int×Int))):Nat:=(v.map vzx).sum+1
theorem az45:Rep Tryz.prog 78 az1j az3h Pzd:=jze (cells:=Szg) (enc:=az1) (sz:=3) (by kernel_rfl) (by kernel_rfl) (by decide) (λ_=>rfl) (λ_=>rfl) Xz1
def Szh (v:bz7):List PVal:=[.int .i64 v.Xp,.int .i64 v.Xs,encL 3 az1 v.Xc]
def az8t (v:bz7):Prop:=vz7 v.Xp/\Cz7 v.Xs/\az3h v.Xc/\True
def Xzw (v:bz7):Nat:=(dzw v.Xp+(gzl v.Xs+(Pzd v.Xc+0)))+1
theorem azb0:Rep Tryz.prog 98 Szh az8t Xzw:=
 (fzj (fs:=[(3,0),(2,1),(78,2)]) (by kernel_rfl) (by kernel_rfl) (by kernel_rfl) (.cons (sz:=1) rz1 (by kernel_rfl) (.cons (sz:=1) rz0 (by kernel_rfl) (.cons (sz:=1) az45 (by kernel_rfl) .nil)))).map (λp=>⟨p.1,p.2.1,p.2.2.1⟩) (λ_=>rfl) (λ_ h=>h) (λ_=>ql _)
def az1a (v:(List bz7)):List PVal:=[encL 3 azk v]
def az8l (v:(List bz7)):Prop:=∀a∈v,az8t a
def Xzs (v:(List bz7)):Nat:=(v.map Xzw).sum+1
theorem azap:Rep Tryz.prog 26 az1a az8l Xzs:=jze (cells:=Szh) (enc:=azk) (sz:=3) (by kernel_rfl) (by kernel_rfl) (by decide) (λ_=>rfl) (λ_=>rfl) azb0
def Oz6 (v:gz3):List PVal:=[.int .i64 v.A,.int .i64 v.B]
def az3e (v:gz3):Prop:=vz7 v.A/\vz7 v.B/\True
def Sz7 (v:gz3):Nat:=(dzw v.A+(dzw v.B+0))+1
theorem az71:Rep Tryz.prog 101 Oz6 az3e Sz7:=
 (fzj (fs:=[(3,0),(3,1)]) (by kernel_rfl) (by kernel_rfl) (by kernel_rfl) (.cons (sz:=1) rz1 (by kernel_rfl) (.cons (sz:=1) rz1 (by kernel_rfl) .nil))).map (λp=>⟨p.1,p.2.1⟩) (λ_=>rfl) (λ_ h=>h) (λ_=>ql _)
def az1b (v:(List gz3)):List PVal:=[encL 2 azu v]
def az8m (v:(List gz3)):Prop:=∀a∈v,az3e a
def Xzt (v:(List gz3)):Nat:=(v.map Sz7).sum+1
theorem azaq:Rep Tryz.prog 27 az1b az8m Xzt:=jze (cells:=Oz6) (enc:=azu) (sz:=2) (by kernel_rfl) (by kernel_rfl) (by decide) (λ_=>rfl) (λ_=>rfl) az71
def az1c (v:azd):List PVal:=[encL 12 azc v.Xf.Xb,encL 5 azf v.Xf.Xh,encL 3 azk v.Xd,encL 2 azu v.Xj]
def Yzq (v:azd):Prop:=az8k v.Xf/\az8l v.Xd/\az8m v.Xj/\True
def Ezj (v:azd):Nat:=(Xzr v.Xf+(Xzs v.Xd+(Xzt v.Xj+0)))+1
theorem azar:Rep Tryz.prog 29 az1c Yzq Ezj:=
 (fzj (fs:=[(25,0),(26,2),(27,3)]) (by kernel_rfl) (by kernel_rfl) (by kernel_rfl) (.cons (sz:=2) azao (by kernel_rfl) (.cons (sz:=1) azap (by kernel_rfl) (.cons (sz:=1) azaq (by kernel_rfl) .nil)))).map (λp=>⟨p.1,p.2.1,p.2.2.1⟩) (λ_=>rfl) (λ_ h=>h) (λ_=>ql _)
def Szd (v:(List Int)):List PVal:=[encL 1 az2 v]
def Yzt (v:(List Int)):Prop:=∀a∈v,Cz7 a
def vzw (v:(List Int)):Nat:=(v.map gzl).sum+1
theorem Xz0:Rep Tryz.prog 62 Szd Yzt vzw:=jze (cells:=Xzz) (enc:=az2) (sz:=1) (by kernel_rfl) (by kernel_rfl) (by decide) (λ_=>rfl) (λ_=>rfl) rz0
def az1d (v:(List (List Int))):List PVal:=[encL 1 (encL 1 az2) v]
def az8n (v:(List (List Int))):Prop:=∀a∈v,Yzt a
def Pzb (v:(List (List Int))):Nat:=(v.map vzw).sum+1
theorem azas:Rep Tryz.prog 30 az1d az8n Pzb:=jze (cells:=Szd) (enc:=(encL 1 az2)) (sz:=1) (by kernel_rfl) (by kernel_rfl) (by decide) (λ_=>rfl) (λ_=>rfl) Xz0
def Sze (v:az8):List PVal:=[.int .i64 v.Xg,.int .i64 v.Xk,encL 3 az1 v.Xe]
def az3i (v:az8):Prop:=vz7 v.Xg/\Cz7 v.Xk/\az3h v.Xe/\True
def pz9 (v:az8):Nat:=(dzw v.Xg+(gzl v.Xk+(Pzd v.Xe+0)))+1
theorem az46:Rep Tryz.prog 80 Sze az3i pz9:=
 (fzj (fs:=[(3,0),(2,1),(78,2)]) (by kernel_rfl) (by kernel_rfl) (by kernel_rfl) (.cons (sz:=1) rz1 (by kernel_rfl) (.cons (sz:=1) rz0 (by kernel_rfl) (.cons (sz:=1) az45 (by kernel_rfl) .nil)))).map (λp=>⟨p.1,p.2.1,p.2.2.1⟩) (λ_=>rfl) (λ_ h=>h) (λ_=>ql _)
def az1i (v:(List az8)):List PVal:=[encL 3 azl v]
def az8p (v:(List az8)):Prop:=∀a∈v,az3i a
def Xzu (v:(List az8)):Nat:=(v.map pz9).sum+1
theorem azaw:Rep Tryz.prog 77 az1i az8p Xzu:=jze (cells:=Sze) (enc:=azl) (sz:=3) (by kernel_rfl) (by kernel_rfl) (by decide) (λ_=>rfl) (λ_=>rfl) az46
def az1k (v:bzj):List PVal:=[.int .i64 v.XC,encL 1 az2 v.Left,encL 1 az2 v.Xv]
def az8q (v:bzj):Prop:=vz7 v.XC/\Yzt v.Left/\Yzt v.Xv/\True
def Pze (v:bzj):Nat:=(dzw v.XC+(vzw v.Left+(vzw v.Xv+0)))+1
theorem azax:Rep Tryz.prog 82 az1k az8q Pze:=
 (fzj (fs:=[(3,0),(62,1),(62,2)]) (by kernel_rfl) (by kernel_rfl) (by kernel_rfl) (.cons (sz:=1) rz1 (by kernel_rfl) (.cons (sz:=1) Xz0 (by kernel_rfl) (.cons (sz:=1) Xz0 (by kernel_rfl) .nil)))).map (λp=>⟨p.1,p.2.1,p.2.2.1⟩) (λ_=>rfl) (λ_ h=>h) (λ_=>ql _)
def az1l (v:azr):List PVal:=[.int .i64 v.Xm,encL 3 azl v.Xo,.int .i64 v.At.Xg,.int .i64 v.At.Xk,encL 3 az1 v.At.Xe,.int .i64 v.Xl.XC,encL 1 az2 v.Xl.Left,encL 1 az2 v.Xl.Xv]
def az8r (v:azr):Prop:=vz7 v.Xm/\az8p v.Xo/\az3i v.At/\az8q v.Xl/\True
def Xzv (v:azr):Nat:=(dzw v.Xm+(Xzu v.Xo+(pz9 v.At+(Pze v.Xl+0))))+1
theorem azay:Rep Tryz.prog 84 az1l az8r Xzv:=
 (fzj (fs:=[(3,0),(77,1),(80,2),(82,5)]) (by kernel_rfl) (by kernel_rfl) (by kernel_rfl) (.cons (sz:=1) rz1 (by kernel_rfl) (.cons (sz:=1) azaw (by kernel_rfl) (.cons (sz:=3) az46 (by kernel_rfl) (.cons (sz:=3) azax (by kernel_rfl) .nil))))).map (λp=>⟨p.1,p.2.1,p.2.2.1,p.2.2.2.1⟩) (λ_=>rfl) (λ_ h=>h) (λ_=>ql _)
def Szf (v:az4):List PVal:=[.int .i64 v.U,.int .i64 v.V,.int .i64 v.Xi,.int .i64 v.Xr,.int .i64 v.Xn.Xm,encL 3 azl v.Xn.Xo,.int .i64 v.Xn.At.Xg,.int .i64 v.Xn.At.Xk,encL 3 az1 v.Xn.At.Xe,.int .i64 v.Xn.Xl.XC,encL 1 az2 v.Xn.Xl.Left,encL 1 az2 v.Xn.Xl.Xv]
def az8s (v:az4):Prop:=vz7 v.U/\vz7 v.V/\Cz7 v.Xi/\vz7 v.Xr/\az8r v.Xn/\True
def Ezl (v:az4):Nat:=(dzw v.U+(dzw v.V+(gzl v.Xi+(dzw v.Xr+(Xzv v.Xn+0)))))+1
theorem azaz:Rep Tryz.prog 86 Szf az8s Ezl:=
 (fzj (fs:=[(3,0),(3,1),(2,2),(3,3),(84,4)]) (by kernel_rfl) (by kernel_rfl) (by kernel_rfl) (.cons (sz:=1) rz1 (by kernel_rfl) (.cons (sz:=1) rz1 (by kernel_rfl) (.cons (sz:=1) rz0 (by kernel_rfl) (.cons (sz:=1) rz1 (by kernel_rfl) (.cons (sz:=8) azay (by kernel_rfl) .nil)))))).map (λp=>⟨p.1,p.2.1,p.2.2.1,p.2.2.2.1,p.2.2.2.2.1⟩) (λ_=>rfl) (λ_ h=>h) (λ_=>ql _)
def az1e (v:(List az4)):List PVal:=[encL 12 az9 v]
def az8o (v:(List az4)):Prop:=∀a∈v,az8s a
def Pzc (v:(List az4)):Nat:=(v.map Ezl).sum+1
theorem azat:Rep Tryz.prog 31 az1e az8o Pzc:=jze (cells:=Szf) (enc:=az9) (sz:=12) (by kernel_rfl) (by kernel_rfl) (by decide) (λ_=>rfl) (λ_=>rfl) azaz
def az1f (v:aze):List PVal:=[encL 1 (encL 1 az2) v.Xc,encL 12 az9 v.Xa]
def Yzr (v:aze):Prop:=az8n v.Xc/\az8o v.Xa/\True
def vzv (v:aze):Nat:=(Pzb v.Xc+(Pzc v.Xa+0))+1
theorem azau:Rep Tryz.prog 33 az1f Yzr vzv:=
 (fzj (fs:=[(30,0),(31,1)]) (by kernel_rfl) (by kernel_rfl) (by kernel_rfl) (.cons (sz:=1) azas (by kernel_rfl) (.cons (sz:=1) azat (by kernel_rfl) .nil))).map (λp=>⟨p.1,p.2.1⟩) (λ_=>rfl) (λ_ h=>h) (λ_=>ql _)
def az1g (v:(List Int)):List PVal:=[encL 1 az2 v]
def Izk (v:(List Int)):Prop:=∀a∈v,vz7 a
def kz8 (v:(List Int)):Nat:=(v.map dzw).sum+1
theorem Wzz:Rep Tryz.prog 34 az1g Izk kz8:=jze (cells:=Yz0) (enc:=az2) (sz:=1) (by kernel_rfl) (by kernel_rfl) (by decide) (λ_=>rfl) (λ_=>rfl) rz1
def az1h (v:bzy):List PVal:=[encL 1 az2 v.Xq,.int .i64 v.Xi]
def Yzs (v:bzy):Prop:=Izk v.Xq/\Cz7 v.Xi/\True
def Ezk (v:bzy):Nat:=(kz8 v.Xq+(gzl v.Xi+0))+1
theorem azav:Rep Tryz.prog 36 az1h Yzs Ezk:=
 (fzj (fs:=[(34,0),(2,1)]) (by kernel_rfl) (by kernel_rfl) (by kernel_rfl) (.cons (sz:=1) Wzz (by kernel_rfl) (.cons (sz:=1) rz0 (by kernel_rfl) .nil))).map (λp=>⟨p.1,p.2.1⟩) (λ_=>rfl) (λ_ h=>h) (λ_=>ql _)
theorem jzn {a b:Bool}(h:a=true)(k:b=true):(a&&b)=true:=by rw[h,k];rfl
set_option maxRecDepth 100000 in
theorem azc3:joinedFacts Tryz.pinned.checked.prog 3 Tryz.f3 (Rows.OpenSpec.upto Rows.searchPathsSpec).bare Rows.searchPathsUptoRow=true:=by
 unfold joinedFacts;exact(jzn (jzn (jzn (jzn (jzn (jzn (jzn (jzn (jzn (jzn (jzn (jzn (jzn (jzn (jzn (jzn (jzn (jzn (jzn (jzn (jzn (jzn (jzn (jzn (jzn (jzn (jzn (jzn (jzn (jzn (jzn azdz aza1) Tzl) az2p) az6m) az2m) az6o) az2l) az6k) Zzz) azcq) azco) aza4) aza3) az2n) az00) az6l) aza5) az6p) azcp) Tzk) Wzb) Tzm) az6n) az6i) Wzc) az2o) aza2) az6j) az2q) az2r) aza0)
theorem own:ownKnob Tryz.prog.godebug=none:=by kernel_rfl
set_option maxRecDepth 100000 in
theorem az5o (plain:∀ (a0:azd) (a1:aze) (a2:bzy) (a3:(List Int)) (a4:(List Int)) (a5:Int) (a6:Int),Yzq a0->Yzr a1->Yzs a2->Izk a3->Izk a4->vz7 a5->vz7 a6->Ezj a0+vzv a1+Ezk a2+kz8 a3+kz8 a4+dzw a5+dzw a6<=1048576->(ez7 a0 a1 a2 a3 a4 a5 a6).o=some true)(H:Type)(enc:TypeId×Value->H)(W:World)(base:Nat)(args:Array Value)(ds gs:List (DataW H))(before:List MemPlace)
 (hval:∀ (j:Nat) t v,Tryz.f3.params[j]?=some t->args[j]?=some v->Value.okWide Tryz.prog W .any base t v)
 (hW:DataW.Whole enc Tryz.prog Tryz.f3.params.toList Rows.searchPathsSpec.vars false W args.toList ds gs before) (hk:Rows.uptoSmall H (ds++gs)=true):
 Calls Tryz.prog 3 args W λe W'=>∃v,e=.returned v/\Rows.searchPathsSpec.post enc Tryz.prog Tryz.f3 false true false false W args v W':=by
 have hW':=hW;obtain⟨p,q,hA0,hV,rfl,hfz,hnd⟩:=hW;have hA:DataW.TrodAll enc Tryz.prog W 0 (λ_=>true) true Tryz.f3.params.toList args.toList ds p:=hA0;rw[Tryz.params3]at hA hval;obtain⟨v0,vs0,d0,ds0,p0,q0,hargs,rfl,rfl,h0,r0⟩:=trodAll_cons hA;obtain⟨v1,vs1,d1,ds1,p1,q1,hargs1,rfl,rfl,h1,r1⟩:=trodAll_cons r0;subst hargs1;obtain⟨v2,vs2,d2,ds2,p2,q2,hargs2,rfl,rfl,h2,r2⟩:=trodAll_cons r1;subst hargs2;obtain⟨v3,vs3,d3,ds3,p3,q3,hargs3,rfl,rfl,h3,r3⟩:=trodAll_cons r2;subst hargs3;obtain⟨v4,vs4,d4,ds4,p4,q4,hargs4,rfl,rfl,h4,r4⟩:=trodAll_cons r3;subst hargs4;obtain⟨v5,vs5,d5,ds5,p5,q5,hargs5,rfl,rfl,h5,r5⟩:=trodAll_cons r4;subst hargs5;obtain⟨v6,vs6,d6,ds6,p6,q6,hargs6,rfl,rfl,h6,r6⟩:=trodAll_cons r5;subst hargs6;obtain⟨rfl,rfl,rfl⟩:=trodAll_nil r6;obtain rfl:args=#[v0,v1,v2,v3,v4,v5,v6]:=by cases args;simp_all
 obtain⟨rfl,rfl⟩:=trodVars_none hV;obtain⟨n0,h0⟩:=h0;obtain⟨a0,c0,o0,b0⟩:=azar H enc W _ _ _ h0;obtain⟨n1,h1⟩:=h1;obtain⟨a1,c1,o1,b1⟩:=azau H enc W _ _ _ h1;obtain⟨n2,h2⟩:=h2;obtain⟨a2,c2,o2,b2⟩:=azav H enc W _ _ _ h2;obtain⟨n3,h3⟩:=h3;obtain⟨a3,c3,o3,b3⟩:=Wzz H enc W _ _ _ h3;obtain⟨n4,h4⟩:=h4;obtain⟨a4,c4,o4,b4⟩:=Wzz H enc W _ _ _ h4;obtain⟨n5,h5⟩:=h5;obtain⟨a5,c5,o5,b5⟩:=rz1 H enc W _ _ _ h5;obtain⟨n6,h6⟩:=h6;obtain⟨a6,c6,o6,b6⟩:=rz1 H enc W _ _ _ h6;have hb:Rows.uptoBulkAll ([d0,d1,d2,d3,d4,d5,d6]++[]:List (DataW H))<=1048576:=of_decide_eq_true hk;simp only[List.append_nil,Rows.uptoBulkAll]at hb;have htrue:=plain a0 a1 a2 a3 a4 a5 a6 o0 o1 o2 o3 o4 o5 o6 (by simp only at b0 b1 b2 b3 b4 b5 b6;omega);refine Uza (bt:=4) ((ez7 a0 a1 a2 a3 a4 a5 a6).ok _ htrue) (λρ=>mz1 (Vzh (P:=Tryz.prog) (hval 0 29 v0 rfl rfl) (by kernel_rfl) c0) (mz1 (Vzh (P:=Tryz.prog) (hval 1 33 v1 rfl rfl) (by kernel_rfl) c1) (mz1 (Vzh (P:=Tryz.prog) (hval 2 36 v2 rfl rfl) (by kernel_rfl) c2) (mz1 (Qzw (P:=Tryz.prog) (hval 3 34 v3 rfl rfl) (by kernel_rfl) c3) (mz1 (Qzw (P:=Tryz.prog) (hval 4 34 v4 rfl rfl) (by kernel_rfl) c4) (mz1 (Qzw (P:=Tryz.prog) (hval 5 3 v5 rfl rfl) (by kernel_rfl) c5) (mz1 (Qzw (P:=Tryz.prog) (hval 6 3 v6 rfl rfl) (by kernel_rfl) c6) (az0y)))))))) hW' rfl rfl (by kernel_rfl) (by kernel_rfl) (slices_full_of _ (by kernel_rfl)) ?_ (by kernel_rfl) (by kernel_rfl);have hs:Tryz.prog.types.size=413:=by kernel_rfl
 rw[Tryz.params3,hs];simp only[List.mem_cons,List.not_mem_nil,or_false];rintro t (rfl|rfl|rfl|rfl|rfl|rfl|rfl)<;>decide
set_option maxRecDepth 100000 in
theorem lifted (plain:∀ (a0:azd) (a1:aze) (a2:bzy) (a3:(List Int)) (a4:(List Int)) (a5:Int) (a6:Int),Yzq a0->Yzr a1->Yzs a2->Izk a3->Izk a4->vz7 a5->vz7 a6->Ezj a0+vzv a1+Ezk a2+kz8 a3+kz8 a4+dzw a5+dzw a6<=1048576->(ez7 a0 a1 a2 a3 a4 a5 a6).o=some true)(os:Os)(started:os.Started)(H:Type)(enc:TypeId×Value->H)(F:Stop.Interp):
 ReturnsInHanded {} Tryz.checked os 3 .any ((Rows.OpenSpec.upto Rows.searchPathsSpec).pre6 enc Tryz.prog Tryz.f3 Rows.searchPathsUptoRow.domain false) (((Rows.OpenSpec.upto Rows.searchPathsSpec).at F).post enc Tryz.prog Tryz.f3 false true false false):=by
 refine returnsInHanded_of_cond (C:=Tryz.checked) (s:=Rows.OpenSpec.upto Rows.searchPathsSpec) (k:=Rows.uptoSmall) rfl own started (by kernel_rfl) Tryz.func3
  (OpenSpec.witness (enc:=enc) (C:=Tryz.checked) (s:=Rows.OpenSpec.upto Rows.searchPathsSpec) (k:=Rows.uptoSmall) rfl false ⟨#[],#[.agg #[.slice none 0 0,.slice none 0 0,.slice none 0 0,.slice none 0 0],.agg #[.slice none 0 0,.slice none 0 0],.agg #[.slice none 0 0,.int .i64 0],.slice none 0 0,.slice none 0 0,.int .i64 0,.int .i64 0],[]⟩ 8 (by kernel_rfl) (by kernel_rfl) (by kernel_rfl)
   (x:=([.agg [.agg [.nil,.nil],.nil,.nil],.agg [.nil,.nil],.agg [.nil,.lit (.int .i64 0)],.nil,.nil,.lit (.int .i64 0),.lit (.int .i64 0)],[],[])) (by kernel_rfl) rfl (by kernel_rfl)) ?_
 intro W base args ds gs before hval hW _ hk _;exact az5o plain H enc W base args ds gs before hval hW hk
theorem over (plain:∀ (a0:azd) (a1:aze) (a2:bzy) (a3:(List Int)) (a4:(List Int)) (a5:Int) (a6:Int),Yzq a0->Yzr a1->Yzs a2->Izk a3->Izk a4->vz7 a5->vz7 a6->Ezj a0+vzv a1+Ezk a2+kz8 a3+kz8 a4+dzw a5+dzw a6<=1048576->(ez7 a0 a1 a2 a3 a4 a5 a6).o=some true):Rows.searchPathsUptoRow.holds Tryz.pinned (Rows.OpenSpec.upto Rows.searchPathsSpec):=
 OpenClaim.holds_of_cond 3 Tryz.f3 rfl rfl rfl rfl rfl rfl rfl ⟨rfl,rfl,rfl,rfl,rfl⟩ rfl rfl rfl rfl rfl (by kernel_rfl) Tryz.func3 azc3
  (of_decide_eq_true (by kernel_rfl)) (by unfold Func.isWrapper;first|(rw[qc (by decide+kernel)];kernel_rfl)|(rw[qb (by decide+kernel)];exact⟨rfl,rfl⟩))
  (λos started H enc _ F=>lifted plain os started H enc F)
end searchPaths
end Go.Abs
