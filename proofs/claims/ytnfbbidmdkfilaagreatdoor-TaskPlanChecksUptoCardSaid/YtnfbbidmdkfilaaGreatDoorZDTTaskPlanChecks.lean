import Derived.Test.YtnfbbidmdkfilaaGreatDoorZDTop
import Derived.Test.YtnfbbidmdkfilaaGreatDoorZDD4
import Derived.Test.YtnfbbidmdkfilaaGreatDoorZDJTaskPlanChecksb
import Derived.Test.YtnfbbidmdkfilaaGreatDoorCards
import Derived.Test.YtnfbbidmdkfilaaGreatDoorTie
import Derived.Lib.LaidTab
import Derived.Deep.DeepHandedRow
open Nat renaming le_refl->qk
namespace Go.Abs
open Go.Proofs Go.Proofs.YtnfbbidmdkfilaaGreatDoor Go.ChangeShapes Go.WideShapes Go.ChangeAt Go.RowKit
namespace taskPlanChecks
def azfp (v:ByteArray):List PVal:=[.str v]
def azm2 (_:ByteArray):Prop:=True
def Xzb (v:ByteArray):Nat:=v.size+1
theorem azkg:Rep Tryz.prog 9 azfp azm2 Xzb:=az9g ju
def az6l (v:Int):List PVal:=[.int .i64 v]
def mz5 (v:Int):Prop:=(Lit.int .i64 v).wf=true
def czj (_:Int):Nat:=1
theorem mzd:Rep Tryz.prog 3 az6l mz5 czj:=aze6 ju
def az6k (v:Int):List PVal:=[.int .i64 v]
def Izh (v:Int):Prop:=(Lit.int .i64 v).wf=true
def gzx (_:Int):Nat:=1
theorem vz1:Rep Tryz.prog 2 az6k Izh gzx:=aze6 ju
def az0o (v:(Int×Int×Int)):List PVal:=[.int .i64 v.1,.int .i64 v.2.1,.int .i64 v.2.2]
def az21 (v:(Int×Int×Int)):Prop:=Izh v.1/\Izh v.2.1/\Izh v.2.2/\True
def uz7 (v:(Int×Int×Int)):Nat:=(gzx v.1+(gzx v.2.1+(gzx v.2.2+0)))+1
theorem Zzc:Rep Tryz.prog 89 az0o az21 uz7:=
 (aze5 (e:=2) (n:=3) (sz:=1) (fs:=[(2,0),(2,1),(2,2)]) ju ju ju ju (.cons (sz:=1) vz1 ju (.cons (sz:=1) vz1 ju (.cons (sz:=1) vz1 ju .nil)))).map (λp=>(p.1,p.2.1,p.2.2.1)) (λ_=>rfl) (λ_ h=>h) (λ_=>qk _)
def Vzz (v:azt):List PVal:=[.str v.XG,.int .i64 v.Xo,.int .i64 v.XD,.int .i64 v.XA.1,.int .i64 v.XA.2.1,.int .i64 v.XA.2.2,.int .i64 v.Lo,.int .i64 v.Hi,.int .i64 v.XP,.int .i64 v.XS,.int .i64 v.XT,.int .i64 v.XQ]
def azd5 (v:azt):Prop:=azm2 v.XG/\mz5 v.Xo/\mz5 v.XD/\az21 v.XA/\Izh v.Lo/\Izh v.Hi/\Izh v.XP/\Izh v.XS/\Izh v.XT/\Izh v.XQ/\True
def az0g (v:azt):Nat:=(Xzb v.XG+(czj v.Xo+(czj v.XD+(uz7 v.XA+(gzx v.Lo+(gzx v.Hi+(gzx v.XP+(gzx v.XS+(gzx v.XT+(gzx v.XQ+0))))))))))+1
theorem azhv:Rep Tryz.prog 113 Vzz azd5 az0g:=
 (ez0 (fs:=[(9,0),(3,1),(3,2),(89,3),(2,6),(2,7),(2,8),(2,9),(2,10),(2,11)]) ju ju ju (.cons (sz:=1) azkg ju (.cons (sz:=1) mzd ju (.cons (sz:=1) mzd ju (.cons (sz:=3) Zzc ju (.cons (sz:=1) vz1 ju (.cons (sz:=1) vz1 ju (.cons (sz:=1) vz1 ju (.cons (sz:=1) vz1 ju (.cons (sz:=1) vz1 ju (.cons (sz:=1) vz1 ju .nil))))))))))).map (λp=>⟨p.1,p.2.1,p.2.2.1,p.2.2.2.1,p.2.2.2.2.1,p.2.2.2.2.2.1,p.2.2.2.2.2.2.1,p.2.2.2.2.2.2.2.1,p.2.2.2.2.2.2.2.2.1,p.2.2.2.2.2.2.2.2.2.1⟩) (λ_=>rfl) (λ_ h=>h) (λ_=>qk _)
def azac (v:(List azt)):List PVal:=[encL 12 hz2 v]
def azjs (v:(List azt)):Prop:=∀a∈v,azd5 a
def az6e (v:(List azt)):Nat:=(v.map az0g).sum+1
theorem azmc:Rep Tryz.prog 22 azac azjs az6e:=fzv (cells:=Vzz) (enc:=hz2) (sz:=12) ju ju jp (λ_=>rfl) (λ_=>rfl) azhv
def Wz1 (v:bzm):List PVal:=[.int .i64 v.Xz,.int .i64 v.XU,.int .i64 v.XM.1,.int .i64 v.XM.2.1,.int .i64 v.XM.2.2]
def azd7 (v:bzm):Prop:=mz5 v.Xz/\Izh v.XU/\az21 v.XM/\True
def az0i (v:bzm):Nat:=(czj v.Xz+(gzx v.XU+(uz7 v.XM+0)))+1
theorem azhx:Rep Tryz.prog 233 Wz1 azd7 az0i:=
 (ez0 (fs:=[(3,0),(2,1),(89,2)]) ju ju ju (.cons (sz:=1) mzd ju (.cons (sz:=1) vz1 ju (.cons (sz:=3) Zzc ju .nil)))).map (λp=>⟨p.1,p.2.1,p.2.2.1⟩) (λ_=>rfl) (λ_ h=>h) (λ_=>qk _)
def azad (v:(List bzm)):List PVal:=[encL 5 kzw v]
def azjt (v:(List bzm)):Prop:=∀a∈v,azd7 a
def az6f (v:(List bzm)):Nat:=(v.map az0i).sum+1
theorem azmd:Rep Tryz.prog 23 azad azjt az6f:=fzv (cells:=Wz1) (enc:=kzw) (sz:=5) ju ju jp (λ_=>rfl) (λ_=>rfl) azhx
def azae (v:azl):List PVal:=[encL 12 hz2 v.Xc,encL 5 kzw v.Xv]
def azju (v:azl):Prop:=azjs v.Xc/\azjt v.Xv/\True
def az6g (v:azl):Nat:=(az6e v.Xc+(az6f v.Xv+0))+1
theorem azme:Rep Tryz.prog 25 azae azju az6g:=
 (ez0 (fs:=[(22,0),(23,1)]) ju ju ju (.cons (sz:=1) azmc ju (.cons (sz:=1) azmd ju .nil))).map (λp=>⟨p.1,p.2.1⟩) (λ_=>rfl) (λ_ h=>h) (λ_=>qk _)
def azaj (v:(List (Int×Int×Int))):List PVal:=[encL 3 azs v]
def az7h (v:(List (Int×Int×Int))):Prop:=∀a∈v,az21 a
def yzy (v:(List (Int×Int×Int))):Nat:=(v.map uz7).sum+1
theorem az5n:Rep Tryz.prog 31 azaj az7h yzy:=fzv (cells:=az0o) (enc:=azs) (sz:=3) ju ju jp (λ_=>rfl) (λ_=>rfl) Zzc
def az0p (v:azf):List PVal:=[.int .i64 v.Xz,.int .i64 v.XE,encL 3 azs v.Xa]
def azk6 (v:azf):Prop:=mz5 v.Xz/\Izh v.XE/\az7h v.Xa/\True
def Jzn (v:azf):Nat:=(czj v.Xz+(gzx v.XE+(yzy v.Xa+0)))+1
theorem azmt:Rep Tryz.prog 91 az0p azk6 Jzn:=
 (ez0 (fs:=[(3,0),(2,1),(31,2)]) ju ju ju (.cons (sz:=1) mzd ju (.cons (sz:=1) vz1 ju (.cons (sz:=1) az5n ju .nil)))).map (λp=>⟨p.1,p.2.1,p.2.2.1⟩) (λ_=>rfl) (λ_ h=>h) (λ_=>qk _)
def azaf (v:(List azf)):List PVal:=[encL 3 gzg v]
def azda (v:(List azf)):Prop:=∀a∈v,azk6 a
def Jzk (v:(List azf)):Nat:=(v.map Jzn).sum+1
theorem aze7:Rep Tryz.prog 26 azaf azda Jzk:=fzv (cells:=az0p) (enc:=gzg) (sz:=3) ju ju jp (λ_=>rfl) (λ_=>rfl) azmt
def Wz0 (v:dzo):List PVal:=[.int .i64 v.A,.int .i64 v.B]
def azd6 (v:dzo):Prop:=mz5 v.A/\mz5 v.B/\True
def az0h (v:dzo):Nat:=(czj v.A+(czj v.B+0))+1
theorem azhw:Rep Tryz.prog 208 Wz0 azd6 az0h:=
 (ez0 (fs:=[(3,0),(3,1)]) ju ju ju (.cons (sz:=1) mzd ju (.cons (sz:=1) mzd ju .nil))).map (λp=>⟨p.1,p.2.1⟩) (λ_=>rfl) (λ_ h=>h) (λ_=>qk _)
def azag (v:(List dzo)):List PVal:=[encL 2 qzh v]
def azjv (v:(List dzo)):Prop:=∀a∈v,azd6 a
def az6h (v:(List dzo)):Nat:=(v.map az0h).sum+1
theorem azmf:Rep Tryz.prog 27 azag azjv az6h:=fzv (cells:=Wz0) (enc:=qzh) (sz:=2) ju ju jp (λ_=>rfl) (λ_=>rfl) azhw
def azah (v:az7):List PVal:=[encL 12 hz2 v.Xg.Xc,encL 5 kzw v.Xg.Xv,encL 3 gzg v.Xe,encL 2 qzh v.Xs]
def azjw (v:az7):Prop:=azju v.Xg/\azda v.Xe/\azjv v.Xs/\True
def Xz7 (v:az7):Nat:=(az6g v.Xg+(Jzk v.Xe+(az6h v.Xs+0)))+1
theorem azmg:Rep Tryz.prog 29 azah azjw Xz7:=
 (ez0 (fs:=[(25,0),(26,2),(27,3)]) ju ju ju (.cons (sz:=2) azme ju (.cons (sz:=1) aze7 ju (.cons (sz:=1) azmf ju .nil)))).map (λp=>⟨p.1,p.2.1,p.2.2.1⟩) (λ_=>rfl) (λ_ h=>h) (λ_=>qk _)
def az0n (v:azx):List PVal:=[.str v.XG,encL 3 gzg v.Xe]
def azk5 (v:azx):Prop:=azm2 v.XG/\azda v.Xe/\True
def Jzm (v:azx):Nat:=(Xzb v.XG+(Jzk v.Xe+0))+1
theorem azms:Rep Tryz.prog 87 az0n azk5 Jzm:=
 (ez0 (fs:=[(9,0),(26,1)]) ju ju ju (.cons (sz:=1) azkg ju (.cons (sz:=1) aze7 ju .nil))).map (λp=>⟨p.1,p.2.1⟩) (λ_=>rfl) (λ_ h=>h) (λ_=>qk _)
def azai (v:(List azx)):List PVal:=[encL 2 rzc v]
def azjx (v:(List azx)):Prop:=∀a∈v,azk5 a
def Qz9 (v:(List azx)):Nat:=(v.map Jzm).sum+1
theorem azmh:Rep Tryz.prog 30 azai azjx Qz9:=fzv (cells:=az0n) (enc:=rzc) (sz:=2) ju ju jp (λ_=>rfl) (λ_=>rfl) azms
def az0q (v:dzn):List PVal:=[.int .i64 v.Xz,.int .i64 v.XA.1,.int .i64 v.XA.2.1,.int .i64 v.XA.2.2]
def azk7 (v:dzn):Prop:=mz5 v.Xz/\az21 v.XA/\True
def az6i (v:dzn):Nat:=(czj v.Xz+(uz7 v.XA+0))+1
theorem azmu:Rep Tryz.prog 93 az0q azk7 az6i:=
 (ez0 (fs:=[(3,0),(89,1)]) ju ju ju (.cons (sz:=1) mzd ju (.cons (sz:=3) Zzc ju .nil))).map (λp=>⟨p.1,p.2.1⟩) (λ_=>rfl) (λ_ h=>h) (λ_=>qk _)
def azak (v:(List dzn)):List PVal:=[encL 4 Jzs v]
def azjy (v:(List dzn)):Prop:=∀a∈v,azk7 a
def Xz8 (v:(List dzn)):Nat:=(v.map az6i).sum+1
theorem azmi:Rep Tryz.prog 32 azak azjy Xz8:=fzv (cells:=az0q) (enc:=Jzs) (sz:=4) ju ju jp (λ_=>rfl) (λ_=>rfl) azmu
def az0l (v:(List Int)):List PVal:=[encL 1 azy v]
def Szc (v:(List Int)):Prop:=∀a∈v,Izh a
def izc (v:(List Int)):Nat:=(v.map gzx).sum+1
theorem az5o:Rep Tryz.prog 39 az0l Szc izc:=fzv (cells:=az6k) (enc:=azy) (sz:=1) ju ju jp (λ_=>rfl) (λ_=>rfl) vz1
def Vzy (v:cz4):List PVal:=[.int .i64 v.Xt,.int .i64 v.Place,encL 1 azy v.At]
def azd4 (v:cz4):Prop:=mz5 v.Xt/\mz5 v.Place/\Szc v.At/\True
def az0f (v:cz4):Nat:=(czj v.Xt+(czj v.Place+(izc v.At+0)))+1
theorem azhu:Rep Tryz.prog 110 Vzy azd4 az0f:=
 (ez0 (fs:=[(3,0),(3,1),(39,2)]) ju ju ju (.cons (sz:=1) mzd ju (.cons (sz:=1) mzd ju (.cons (sz:=1) az5o ju .nil)))).map (λp=>⟨p.1,p.2.1,p.2.2.1⟩) (λ_=>rfl) (λ_ h=>h) (λ_=>qk _)
def azal (v:(List cz4)):List PVal:=[encL 3 Jzr v]
def azjz (v:(List cz4)):Prop:=∀a∈v,azd4 a
def Xz9 (v:(List cz4)):Nat:=(v.map az0f).sum+1
theorem azmj:Rep Tryz.prog 33 azal azjz Xz9:=fzv (cells:=Vzy) (enc:=Jzr) (sz:=3) ju ju jp (λ_=>rfl) (λ_=>rfl) azhu
def azam (v:az2):List PVal:=[encL 12 hz2 v.Xl.Xg.Xc,encL 5 kzw v.Xl.Xg.Xv,encL 3 gzg v.Xl.Xe,encL 2 qzh v.Xl.Xs,encL 2 rzc v.Xd,encL 3 azs v.Xh,encL 4 Jzs v.Xj,encL 3 Jzr v.Xi,.int .i64 v.Xq]
def az1y (v:az2):Prop:=azjw v.Xl/\azjx v.Xd/\az7h v.Xh/\azjy v.Xj/\azjz v.Xi/\Izh v.Xq/\True
def yzz (v:az2):Nat:=(Xz7 v.Xl+(Qz9 v.Xd+(yzy v.Xh+(Xz8 v.Xj+(Xz9 v.Xi+(gzx v.Xq+0))))))+1
theorem azmk:Rep Tryz.prog 35 azam az1y yzz:=
 (ez0 (fs:=[(29,0),(30,4),(31,5),(32,6),(33,7),(2,8)]) ju ju ju (.cons (sz:=4) azmg ju (.cons (sz:=1) azmh ju (.cons (sz:=1) az5n ju (.cons (sz:=1) azmi ju (.cons (sz:=1) azmj ju (.cons (sz:=1) vz1 ju .nil))))))).map (λp=>⟨p.1,p.2.1,p.2.2.1,p.2.2.2.1,p.2.2.2.2.1,p.2.2.2.2.2.1⟩) (λ_=>rfl) (λ_ h=>h) (λ_=>qk _)
def azan (v:(List Int)):List PVal:=[encL 1 azy v]
def iz3 (v:(List Int)):Prop:=∀a∈v,mz5 a
def cz9 (v:(List Int)):Nat:=(v.map czj).sum+1
theorem Jz4:Rep Tryz.prog 36 azan iz3 cz9:=fzv (cells:=az6l) (enc:=azy) (sz:=1) ju ju jp (λ_=>rfl) (λ_=>rfl) mzd
def azao (v:azk):List PVal:=[encL 1 azy v.Xf]
def az1z (v:azk):Prop:=iz3 v.Xf/\True
def Fzu (v:azk):Nat:=(cz9 v.Xf+0)+1
theorem azml:Rep Tryz.prog 38 azao az1z Fzu:=
 (ez0 (fs:=[(36,0)]) ju ju ju (.cons (sz:=1) Jz4 ju .nil)).map (λp=>⟨p.1⟩) (λ_=>rfl) (λ_ h=>h) (λ_=>qk _)
def azaq (v:aza):List PVal:=[.int .i64 v.Xo,.int .i64 v.Xt,.int .i64 v.Place]
def azk0 (v:aza):Prop:=mz5 v.Xo/\mz5 v.Xt/\mz5 v.Place/\True
def Xza (v:aza):Nat:=(czj v.Xo+(czj v.Xt+(czj v.Place+0)))+1
theorem azmn:Rep Tryz.prog 62 azaq azk0 Xza:=
 (ez0 (fs:=[(3,0),(3,1),(3,2)]) ju ju ju (.cons (sz:=1) mzd ju (.cons (sz:=1) mzd ju (.cons (sz:=1) mzd ju .nil)))).map (λp=>⟨p.1,p.2.1,p.2.2.1⟩) (λ_=>rfl) (λ_ h=>h) (λ_=>qk _)
def azar (v:(List (List Int))):List PVal:=[encL 1 (encL 1 azy) v]
def azk1 (v:(List (List Int))):Prop:=∀a∈v,Szc a
def Qza (v:(List (List Int))):Nat:=(v.map izc).sum+1
theorem azmo:Rep Tryz.prog 63 azar azk1 Qza:=fzv (cells:=az0l) (enc:=(encL 1 azy)) (sz:=1) ju ju jp (λ_=>rfl) (λ_=>rfl) az5o
def Wz3 (v:dzq):List PVal:=[.int .i64 v.Xk,.int .i64 v.Xu,encL 1 azy v.Xr]
def azdb (v:dzq):Prop:=mz5 v.Xk/\Izh v.Xu/\iz3 v.Xr/\True
def rzq (v:dzq):Nat:=(czj v.Xk+(gzx v.Xu+(cz9 v.Xr+0)))+1
theorem azi0:Rep Tryz.prog 316 Wz3 azdb rzq:=
 (ez0 (fs:=[(3,0),(2,1),(36,2)]) ju ju ju (.cons (sz:=1) mzd ju (.cons (sz:=1) vz1 ju (.cons (sz:=1) Jz4 ju .nil)))).map (λp=>⟨p.1,p.2.1,p.2.2.1⟩) (λ_=>rfl) (λ_ h=>h) (λ_=>qk _)
def az8g (v:(List dzq)):List PVal:=[encL 3 Rzh v]
def azd8 (v:(List dzq)):Prop:=∀a∈v,azdb a
def Jzj (v:(List dzq)):Nat:=(v.map rzq).sum+1
theorem azhy:Rep Tryz.prog 249 az8g azd8 Jzj:=fzv (cells:=Wz3) (enc:=Rzh) (sz:=3) ju ju jp (λ_=>rfl) (λ_=>rfl) azi0
def Wz2 (v:azp):List PVal:=[encL 3 azs v.XB,encL 3 Rzh v.XH]
def azd9 (v:azp):Prop:=az7h v.XB/\azd8 v.XH/\True
def rzp (v:azp):Nat:=(yzy v.XB+(Jzj v.XH+0))+1
theorem azhz:Rep Tryz.prog 251 Wz2 azd9 rzp:=
 (ez0 (fs:=[(31,0),(249,1)]) ju ju ju (.cons (sz:=1) az5n ju (.cons (sz:=1) azhy ju .nil))).map (λp=>⟨p.1,p.2.1⟩) (λ_=>rfl) (λ_ h=>h) (λ_=>qk _)
def azas (v:(List azp)):List PVal:=[encL 2 izg v]
def azk2 (v:(List azp)):Prop:=∀a∈v,azd9 a
def Qzb (v:(List azp)):Nat:=(v.map rzp).sum+1
theorem azmp:Rep Tryz.prog 64 azas azk2 Qzb:=fzv (cells:=Wz2) (enc:=izg) (sz:=2) ju ju jp (λ_=>rfl) (λ_=>rfl) azhz
def azat (v:bz6):List PVal:=[encL 1 (encL 1 azy) v.Xa,encL 2 izg v.Xb]
def azk3 (v:bz6):Prop:=azk1 v.Xa/\azk2 v.Xb/\True
def Jzl (v:bz6):Nat:=(Qza v.Xa+(Qzb v.Xb+0))+1
theorem azmq:Rep Tryz.prog 66 azat azk3 Jzl:=
 (ez0 (fs:=[(63,0),(64,1)]) ju ju ju (.cons (sz:=1) azmo ju (.cons (sz:=1) azmp ju .nil))).map (λp=>⟨p.1,p.2.1⟩) (λ_=>rfl) (λ_ h=>h) (λ_=>qk _)
def az0m (v:az9):List PVal:=[.int .i64 v.Xm.Xo,.int .i64 v.Xm.Xt,.int .i64 v.Xm.Place,.int .i64 v.XF,encL 1 (encL 1 azy) v.Path.Xa,encL 2 izg v.Path.Xb]
def azk4 (v:az9):Prop:=azk0 v.Xm/\mz5 v.XF/\azk3 v.Path/\True
def zz1 (v:az9):Nat:=(Xza v.Xm+(czj v.XF+(Jzl v.Path+0)))+1
theorem azmr:Rep Tryz.prog 68 az0m azk4 zz1:=
 (ez0 (fs:=[(62,0),(3,3),(66,4)]) ju ju ju (.cons (sz:=3) azmn ju (.cons (sz:=1) mzd ju (.cons (sz:=2) azmq ju .nil)))).map (λp=>⟨p.1,p.2.1,p.2.2.1⟩) (λ_=>rfl) (λ_ h=>h) (λ_=>qk _)
def azap (v:(List az9)):List PVal:=[encL 6 bzd v]
def az20 (v:(List az9)):Prop:=∀a∈v,azk4 a
def zz0 (v:(List az9)):Nat:=(v.map zz1).sum+1
theorem azmm:Rep Tryz.prog 40 azap az20 zz0:=fzv (cells:=az0m) (enc:=bzd) (sz:=6) ju ju jp (λ_=>rfl) (λ_=>rfl) azmr
theorem jzr {a b:Bool}(h:a=true)(k:b=true):(a&&b)=true:=by rw[h,k];rfl
set_option maxRecDepth 100000 in
theorem azo4:joinedFacts Tryz.pinned.checked.prog 3 Tryz.f3 (Rows.OpenSpec.upto Rows.taskPlanChecksSpec).bare Rows.taskPlanChecksUptoRow=true:=by
 unfold joinedFacts;exact(jzr (jzr (jzr (jzr (jzr (jzr (jzr (jzr (jzr (jzr (jzr (jzr (jzr (jzr (jzr (jzr (jzr (jzr (jzr (jzr (jzr (jzr (jzr (jzr (jzr (jzr (jzr (jzr (jzr (jzr (jzr azq3 azlm) az1n) azcb) azh3) azc8) azh5) azc7) azh1) az8w) azos) azoq) azlp) azlo) azc9) az8x) azh2) azlq) azh6) azor) az1m) az51) az1o) azh4) azgz) az52) azca) azln) azh0) azcc) azcd) azll)
theorem own:ownKnob Tryz.prog.godebug=none:=ju
theorem azof:Tryz.prog.globalNamed "armplan/sampler.primes" =some 0:=ju
theorem azqj {W:World}(h:laidMetH Tryz.prog Rows.taskPlanChecksUptoRow.laid W):Lib.TabIs Tryz.prog W "armplan/sampler.primes" .u64 [2,3,5,7,11,13,17,19,23,29]:=
 Lib.tabIs_of_head (rest:=[]) azof (t:=381) (e:=301) (n:=10) ju ju ju ju ju h
theorem azpm {W:World}(h:laidMetH Tryz.prog Rows.taskPlanChecksUptoRow.laid W):TabOk (oldF W) W:=by
 intro g k l hg i n hi;unfold gTab at hg;split at hg
 ·obtain⟨rfl,rfl⟩:=Prod.mk.inj (Option.some.inj hg);have hc:=(azqj h).cell azof i (List.getElem?_eq_some_iff.1 hi).1;refine⟨(azab hc).2,?_⟩;rw[hc,List.getD_eq_getElem?_getD,hi];rfl
 ·cases hg
noncomputable def Sz0 (os:Os):World:=
 {World.holding Tryz.prog os ⟨#[],#[],[]⟩with heap:=(World.holding Tryz.prog os ⟨#[],#[],[]⟩).heap.modify 0 fun
  | .cells _ t frozen=>.cells #[.int .u64 2,.int .u64 3,.int .u64 5,.int .u64 7,.int .u64 11,.int .u64 13,.int .u64 17,.int .u64 19,.int .u64 23,.int .u64 29] t frozen
  |o=>o}
theorem azh8 (os:Os):laidMet Tryz.prog Rows.taskPlanChecksUptoRow.laid ((Sz0 os).forCall (λ_ _=>0) ⟨#[],#[.agg #[.slice none 0 0,.slice none 0 0,.slice none 0 0,.slice none 0 0,.slice none 0 0,.slice none 0 0,.slice none 0 0,.slice none 0 0,.int .i64 0],.agg #[.slice none 0 0],.slice none 0 0,.slice none 0 0,.slice none 0 0,.slice none 0 0,.slice none 0 0,.slice none 0 0,.slice none 0 0,.int .i64 0,.int .i64 0,.int .i64 0],[]⟩).memory:=
 laidMet_of_run' 12 ju ju
theorem azqa (os:Os){H:Type}(enc:TypeId×Value->H):∃places,DataW.whole enc Tryz.prog ((Sz0 os).forCall (λ_ _=>0) ⟨#[],#[.agg #[.slice none 0 0,.slice none 0 0,.slice none 0 0,.slice none 0 0,.slice none 0 0,.slice none 0 0,.slice none 0 0,.slice none 0 0,.int .i64 0],.agg #[.slice none 0 0],.slice none 0 0,.slice none 0 0,.slice none 0 0,.slice none 0 0,.slice none 0 0,.slice none 0 0,.slice none 0 0,.int .i64 0,.int .i64 0,.int .i64 0],[]⟩).memory Tryz.f3.params.toList Rows.taskPlanChecksSpec.vars false (#[.agg #[.slice none 0 0,.slice none 0 0,.slice none 0 0,.slice none 0 0,.slice none 0 0,.slice none 0 0,.slice none 0 0,.slice none 0 0,.int .i64 0],.agg #[.slice none 0 0],.slice none 0 0,.slice none 0 0,.slice none 0 0,.slice none 0 0,.slice none 0 0,.slice none 0 0,.slice none 0 0,.int .i64 0,.int .i64 0,.int .i64 0]:Array Value).toList 8=some ([.agg [.agg [.agg [.nil,.nil],.nil,.nil],.nil,.nil,.nil,.nil,.lit (.int .i64 0)],.agg [.nil],.nil,.nil,.nil,.nil,.nil,.nil,.nil,.lit (.int .i64 0),.lit (.int .i64 0),.lit (.int .i64 0)],[],places):=
 ⟨[],ju⟩
set_option maxRecDepth 100000 in
theorem azfu (plain:∀ (a0:az2) (a1:azk) (a2:(List Int)) (a3:(List Int)) (a4:(List az9)) (a5:(List Int)) (a6:(List Int)) (a7:(List Int)) (a8:(List Int)) (a9:Int) (a10:Int) (a11:Int),az1y a0->az1z a1->Szc a2->iz3 a3->az20 a4->iz3 a5->iz3 a6->iz3 a7->iz3 a8->mz5 a9->mz5 a10->mz5 a11->yzz a0+Fzu a1+izc a2+cz9 a3+zz0 a4+cz9 a5+cz9 a6+cz9 a7+cz9 a8+czj a9+czj a10+czj a11<=1048576->(czk a0 a1 a2 a3 a4 a5 a6 a7 a8 a9 a10 a11).o=some true)(H:Type)(enc:TypeId×Value->H)(W:World)(base:Nat)(args:Array Value)(ds gs:List (DataW H))(before:List MemPlace)
 (hval:∀ (j:Nat) t v,Tryz.f3.params[j]?=some t->args[j]?=some v->Value.okWide Tryz.prog W .any base t v)
 (hW:DataW.Whole enc Tryz.prog Tryz.f3.params.toList Rows.taskPlanChecksSpec.vars false W args.toList ds gs before) (hk:Rows.uptoSmall H (ds++gs)=true) (hL:laidMetH Tryz.prog Rows.taskPlanChecksUptoRow.laid W):
 Calls Tryz.prog 3 args W λe W'=>∃v,e=.returned v/\Rows.taskPlanChecksSpec.post enc Tryz.prog Tryz.f3 false true false false W args v W':=by
 have hW':=hW;obtain⟨p,q,hA0,hV,rfl,hfz,hnd⟩:=hW;have hA:DataW.TrodAll enc Tryz.prog W 0 (λ_=>true) true Tryz.f3.params.toList args.toList ds p:=hA0;rw[Tryz.params3]at hA hval;obtain⟨v0,vs0,d0,ds0,p0,q0,hargs,rfl,rfl,h0,r0⟩:=trodAll_cons hA;obtain⟨v1,vs1,d1,ds1,p1,q1,hargs1,rfl,rfl,h1,r1⟩:=trodAll_cons r0;subst hargs1;obtain⟨v2,vs2,d2,ds2,p2,q2,hargs2,rfl,rfl,h2,r2⟩:=trodAll_cons r1;subst hargs2;obtain⟨v3,vs3,d3,ds3,p3,q3,hargs3,rfl,rfl,h3,r3⟩:=trodAll_cons r2;subst hargs3;obtain⟨v4,vs4,d4,ds4,p4,q4,hargs4,rfl,rfl,h4,r4⟩:=trodAll_cons r3;subst hargs4;obtain⟨v5,vs5,d5,ds5,p5,q5,hargs5,rfl,rfl,h5,r5⟩:=trodAll_cons r4;subst hargs5;obtain⟨v6,vs6,d6,ds6,p6,q6,hargs6,rfl,rfl,h6,r6⟩:=trodAll_cons r5;subst hargs6;obtain⟨v7,vs7,d7,ds7,p7,q7,hargs7,rfl,rfl,h7,r7⟩:=trodAll_cons r6;subst hargs7;obtain⟨v8,vs8,d8,ds8,p8,q8,hargs8,rfl,rfl,h8,r8⟩:=trodAll_cons r7;subst hargs8;obtain⟨v9,vs9,d9,ds9,p9,q9,hargs9,rfl,rfl,h9,r9⟩:=trodAll_cons r8;subst hargs9;obtain⟨v10,vs10,d10,ds10,p10,q10,hargs10,rfl,rfl,h10,r10⟩:=trodAll_cons r9;subst hargs10;obtain⟨v11,vs11,d11,ds11,p11,q11,hargs11,rfl,rfl,h11,r11⟩:=trodAll_cons r10;subst hargs11;obtain⟨rfl,rfl,rfl⟩:=trodAll_nil r11;obtain rfl:args=#[v0,v1,v2,v3,v4,v5,v6,v7,v8,v9,v10,v11]:=by cases args;simp_all
 obtain⟨rfl,rfl⟩:=trodVars_none hV;obtain⟨n0,h0⟩:=h0;obtain⟨a0,c0,o0,b0⟩:=azmk H enc W _ _ _ h0;obtain⟨n1,h1⟩:=h1;obtain⟨a1,c1,o1,b1⟩:=azml H enc W _ _ _ h1;obtain⟨n2,h2⟩:=h2;obtain⟨a2,c2,o2,b2⟩:=az5o H enc W _ _ _ h2;obtain⟨n3,h3⟩:=h3;obtain⟨a3,c3,o3,b3⟩:=Jz4 H enc W _ _ _ h3;obtain⟨n4,h4⟩:=h4;obtain⟨a4,c4,o4,b4⟩:=azmm H enc W _ _ _ h4;obtain⟨n5,h5⟩:=h5;obtain⟨a5,c5,o5,b5⟩:=Jz4 H enc W _ _ _ h5;obtain⟨n6,h6⟩:=h6;obtain⟨a6,c6,o6,b6⟩:=Jz4 H enc W _ _ _ h6;obtain⟨n7,h7⟩:=h7;obtain⟨a7,c7,o7,b7⟩:=Jz4 H enc W _ _ _ h7;obtain⟨n8,h8⟩:=h8;obtain⟨a8,c8,o8,b8⟩:=Jz4 H enc W _ _ _ h8;obtain⟨n9,h9⟩:=h9;obtain⟨a9,c9,o9,b9⟩:=mzd H enc W _ _ _ h9;obtain⟨n10,h10⟩:=h10;obtain⟨a10,c10,o10,b10⟩:=mzd H enc W _ _ _ h10;obtain⟨n11,h11⟩:=h11;obtain⟨a11,c11,o11,b11⟩:=mzd H enc W _ _ _ h11;have hb:Rows.uptoBulkAll ([d0,d1,d2,d3,d4,d5,d6,d7,d8,d9,d10,d11]++[]:List (DataW H))<=1048576:=of_decide_eq_true hk;simp only[List.append_nil,Rows.uptoBulkAll]at hb;have htrue:=plain a0 a1 a2 a3 a4 a5 a6 a7 a8 a9 a10 a11 o0 o1 o2 o3 o4 o5 o6 o7 o8 o9 o10 o11 (by simp only at b0 b1 b2 b3 b4 b5 b6 b7 b8 b9 b10 b11;omega);refine az2i (bt:=4) ((czk a0 a1 a2 a3 a4 a5 a6 a7 a8 a9 a10 a11).ok _ htrue) (azpm hL) (λρ=>fzp (az9w (P:=Tryz.prog) (hval 0 35 v0 rfl rfl) ju c0) (fzp (az9w (P:=Tryz.prog) (hval 1 38 v1 rfl rfl) ju c1) (fzp (vzy (P:=Tryz.prog) (hval 2 39 v2 rfl rfl) ju c2) (fzp (vzy (P:=Tryz.prog) (hval 3 36 v3 rfl rfl) ju c3) (fzp (vzy (P:=Tryz.prog) (hval 4 40 v4 rfl rfl) ju c4) (fzp (vzy (P:=Tryz.prog) (hval 5 36 v5 rfl rfl) ju c5) (fzp (vzy (P:=Tryz.prog) (hval 6 36 v6 rfl rfl) ju c6) (fzp (vzy (P:=Tryz.prog) (hval 7 36 v7 rfl rfl) ju c7) (fzp (vzy (P:=Tryz.prog) (hval 8 36 v8 rfl rfl) ju c8) (fzp (vzy (P:=Tryz.prog) (hval 9 3 v9 rfl rfl) ju c9) (fzp (vzy (P:=Tryz.prog) (hval 10 3 v10 rfl rfl) ju c10) (fzp (vzy (P:=Tryz.prog) (hval 11 3 v11 rfl rfl) ju c11) (az9z))))))))))))) hW' rfl rfl ju ju (slices_full_of _ ju) ?_ ju ju;have hs:Tryz.prog.types.size=594:=ju
 rw[Tryz.params3,hs];simp only[List.mem_cons,List.not_mem_nil,or_false];rintro t (rfl|rfl|rfl|rfl|rfl|rfl|rfl|rfl|rfl|rfl|rfl|rfl)<;>decide
set_option maxRecDepth 100000 in
theorem lifted (plain:∀ (a0:az2) (a1:azk) (a2:(List Int)) (a3:(List Int)) (a4:(List az9)) (a5:(List Int)) (a6:(List Int)) (a7:(List Int)) (a8:(List Int)) (a9:Int) (a10:Int) (a11:Int),az1y a0->az1z a1->Szc a2->iz3 a3->az20 a4->iz3 a5->iz3 a6->iz3 a7->iz3 a8->mz5 a9->mz5 a10->mz5 a11->yzz a0+Fzu a1+izc a2+cz9 a3+zz0 a4+cz9 a5+cz9 a6+cz9 a7+cz9 a8+czj a9+czj a10+czj a11<=1048576->(czk a0 a1 a2 a3 a4 a5 a6 a7 a8 a9 a10 a11).o=some true)(os:Os)(started:os.Started)(H:Type)(enc:TypeId×Value->H)(F:Stop.Interp):
 ReturnsInHanded {} Tryz.checked os 3 .any ((Rows.OpenSpec.upto Rows.taskPlanChecksSpec).preRow enc Tryz.prog Tryz.f3 Rows.taskPlanChecksUptoRow.domain false Rows.taskPlanChecksUptoRow.laid) (((Rows.OpenSpec.upto Rows.taskPlanChecksSpec).at F).post enc Tryz.prog Tryz.f3 false true false false):=by
 obtain⟨places,hx⟩:=azqa os enc
 refine returnsInHanded_of_row (C:=Tryz.checked) (s:=Rows.OpenSpec.upto Rows.taskPlanChecksSpec) own started ju Tryz.func3
  (witness_row_at (enc:=enc) (C:=Tryz.checked) false (Sz0 os) #[.agg #[.slice none 0 0,.slice none 0 0,.slice none 0 0,.slice none 0 0,.slice none 0 0,.slice none 0 0,.slice none 0 0,.slice none 0 0,.int .i64 0],.agg #[.slice none 0 0],.slice none 0 0,.slice none 0 0,.slice none 0 0,.slice none 0 0,.slice none 0 0,.slice none 0 0,.slice none 0 0,.int .i64 0,.int .i64 0,.int .i64 0] rfl ju ju ju
   (OpenSpec.preRow_of_cond 8 hx ju (λk hk=>by cases hk;kernel_rfl) ju (azh8 os))) ?_
 intro W base args ds gs before hval hW _ hk _ hL _ _;exact azfu plain H enc W base args ds gs before hval hW (hk _ rfl) hL
theorem over (plain:∀ (a0:az2) (a1:azk) (a2:(List Int)) (a3:(List Int)) (a4:(List az9)) (a5:(List Int)) (a6:(List Int)) (a7:(List Int)) (a8:(List Int)) (a9:Int) (a10:Int) (a11:Int),az1y a0->az1z a1->Szc a2->iz3 a3->az20 a4->iz3 a5->iz3 a6->iz3 a7->iz3 a8->mz5 a9->mz5 a10->mz5 a11->yzz a0+Fzu a1+izc a2+cz9 a3+zz0 a4+cz9 a5+cz9 a6+cz9 a7+cz9 a8+czj a9+czj a10+czj a11<=1048576->(czk a0 a1 a2 a3 a4 a5 a6 a7 a8 a9 a10 a11).o=some true):Rows.taskPlanChecksUptoRow.holds Tryz.pinned (Rows.OpenSpec.upto Rows.taskPlanChecksSpec):=
 OpenClaim.holds_of_cond 3 Tryz.f3 rfl rfl rfl rfl rfl rfl rfl ⟨rfl,rfl,rfl,rfl,rfl⟩ rfl rfl rfl rfl rfl ju Tryz.func3 azo4
  (of_decide_eq_true ju) (by unfold Func.isWrapper;first|(rw[qc (by decide+kernel)];kernel_rfl)|(rw[qb (by decide+kernel)];exact⟨rfl,rfl⟩))
  (λos started H enc _ F=>by rw[OpenClaim.pre_eq_preRow];exact lifted plain os started H enc F)
theorem seen (f:FuncId)(fn:Func)(hf:Tryz.pinned.checked.prog.funcNamed "armplan/armplanlaw39.TaskPlanChecks" =some f)(hfn:Tryz.pinned.checked.prog.funcs[f]?=some fn):
 true=Tryz.pinned.checked.prog.looks []/\∀ (j:Nat) t,fn.params[j]?=some t->Tryz.pinned.checked.prog.wantsStandIn t=false:=by
 obtain rfl:f=3:=Option.some.inj ((show Tryz.prog.funcNamed "armplan/armplanlaw39.TaskPlanChecks" =some 3 by kernel_rfl).symm.trans hf)|>.symm;obtain rfl:fn=Tryz.f3:=(Option.some.inj (Tryz.func3.symm.trans hfn)).symm;have h:(Tryz.f3.params.all λt=> !(Tryz.prog.wantsStandIn t))=true:=ju
 refine⟨ju,λj t ht=>?_⟩;have:=Array.all_eq_true_iff_forall_mem.1 h t (Array.mem_of_getElem? ht);rwa[Bool.not_eq_true']at this
theorem fHw:Rows.taskPlanChecksUptoRow.wfByText (Rows.OpenSpec.upto Rows.taskPlanChecksSpec)=true:=ju
theorem fHm:Tryz.pinned.checked.prog.mainIs=some (true, "1873635d42ab48319c0713f22b45bb1411002ee6cc85179116194e11e678dfaf".toList):=ju
theorem azbs {P:Program}(h:P.funcs.any Func.goes=false)(f:FuncId):P.goes f=false:=by
 have h':∀g:FuncId,(P.funcs[g]?).any Func.goes=false:=λg=>by
  cases e:P.funcs[g]? with
  |none=>rfl
  |some fn=>
   obtain⟨hg,rfl⟩:=Array.getElem?_eq_some_iff.1 e;simpa using Array.any_eq_false.1 h g hg
 simp[Program.goes,h,h']
theorem azg9:Tryz.pinned.checked.prog.funcs.any Func.goes=false:=ju
theorem az4x {P:Program}(h:P.funcs.any Func.goes=false)(c:OpenClaim)(hs:c.start=.entering):c.goesBy P=false:=by
 unfold OpenClaim.goesBy Program.goesAt Program.goesFrom;rw[hs];cases P.funcNamed c.func with
 |none=>rfl
 |some f=>simp[azbs h]
theorem fHg:false=Rows.taskPlanChecksUptoRow.goesBy Tryz.pinned.checked.prog:=(az4x azg9 _ rfl).symm
theorem card (plain:∀ (a0:az2) (a1:azk) (a2:(List Int)) (a3:(List Int)) (a4:(List az9)) (a5:(List Int)) (a6:(List Int)) (a7:(List Int)) (a8:(List Int)) (a9:Int) (a10:Int) (a11:Int),az1y a0->az1z a1->Szc a2->iz3 a3->az20 a4->iz3 a5->iz3 a6->iz3 a7->iz3 a8->mz5 a9->mz5 a10->mz5 a11->yzz a0+Fzu a1+izc a2+cz9 a3+zz0 a4+cz9 a5+cz9 a6+cz9 a7+cz9 a8+czj a9+czj a10+czj a11<=1048576->(czk a0 a1 a2 a3 a4 a5 a6 a7 a8 a9 a10 a11).o=some true):Rows.TaskPlanChecksUptoCardSaid:=
 Claim7.holds_tied_plain_at .later [] _ _ _ _ (over plain) (λ_ h=>by cases h) fHw (λ_ h=>by cases h) taskPlanChecksUpto_row_tie rfl ⟨rfl,rfl⟩ fHm rfl seen fHg
end taskPlanChecks
end Go.Abs
