/-
  TTaskPlanReady (a part of a claim: our own text).
-/
import Derived.Test.YtlmicknhpllbdaaGreatDoorYMTop
import Derived.Test.YtlmicknhpllbdaaGreatDoorYMD4
import Derived.Test.YtlmicknhpllbdaaGreatDoorYMJTaskPlanReadyb
import Derived.Test.YtlmicknhpllbdaaGreatDoorCards
import Derived.Test.YtlmicknhpllbdaaGreatDoorTie
import Derived.Lib.LaidTab
import Derived.Deep.DeepHandedRow
namespace Go.Abs
open Go.Proofs Go.Proofs.YtlmicknhpllbdaaGreatDoor Go.ChangeShapes Go.WideShapes Go.ChangeAt Go.RowKit
namespace taskPlanReady
def az8k (v:ByteArray):List PVal:=[.str v]
def azdz (_:ByteArray):Prop:=True
def az07 (v:ByteArray):Nat:=v.size+1
theorem azcm:Rep Tryz.prog 9 az8k azdz az07:=az46 (by kernel_rfl)
def az2c (v:Int):List PVal:=[.int .i64 v]
def szu (v:Int):Prop:=(Lit.int .i64 v).wf=true
def ez3 (_:Int):Nat:=1
theorem sz0:Rep Tryz.prog 3 az2c szu ez3:=az7g (by kernel_rfl)
def az2b (v:Int):List PVal:=[.int .i64 v]
def Hz9 (v:Int):Prop:=(Lit.int .i64 v).wf=true
def kzw (_:Int):Nat:=1
theorem wz0:Rep Tryz.prog 2 az2b Hz9 kzw:=az7g (by kernel_rfl)
def Szz (v:(Int×Int×Int)):List PVal:=[.int .i64 v.1,.int .i64 v.2.1,.int .i64 v.2.2]
def Pza (v:(Int×Int×Int)):Prop:=Hz9 v.1/\Hz9 v.2.1/\Hz9 v.2.2/\True
def zzy (v:(Int×Int×Int)):Nat:=(kzw v.1+(kzw v.2.1+(kzw v.2.2+0)))+1
theorem Nzk:Rep Tryz.prog 100 Szz Pza zzy:=
 (az7f (e:=2) (n:=3) (sz:=1) (fs:=[(2,0),(2,1),(2,2)]) (by kernel_rfl) (by kernel_rfl) (by kernel_rfl) (by kernel_rfl) (.cons (sz:=1) wz0 (by kernel_rfl) (.cons (sz:=1) wz0 (by kernel_rfl) (.cons (sz:=1) wz0 (by kernel_rfl) .nil)))).map (fun p=>(p.1,p.2.1,p.2.2.1)) (fun _=>rfl) (fun _ h=>h) (fun _=>Nat.le_refl _)
def Tz3 (v:azk):List PVal:=[.str v.Name,.int .i64 v.Kind,.int .i64 v.Parent,.int .i64 v.Offset.1,.int .i64 v.Offset.2.1,.int .i64 v.Offset.2.2,.int .i64 v.Lo,.int .i64 v.Hi,.int .i64 v.Weight,.int .i64 v.Speed,.int .i64 v.Accel,.int .i64 v.Torque]
def az6y (v:azk):Prop:=azdz v.Name/\szu v.Kind/\szu v.Parent/\Pza v.Offset/\Hz9 v.Lo/\Hz9 v.Hi/\Hz9 v.Weight/\Hz9 v.Speed/\Hz9 v.Accel/\Hz9 v.Torque/\True
def Xz8 (v:azk):Nat:=(az07 v.Name+(ez3 v.Kind+(ez3 v.Parent+(zzy v.Offset+(kzw v.Lo+(kzw v.Hi+(kzw v.Weight+(kzw v.Speed+(kzw v.Accel+(kzw v.Torque+0))))))))))+1
theorem azai:Rep Tryz.prog 126 Tz3 az6y Xz8:=
 (fze (fs:=[(9,0),(3,1),(3,2),(100,3),(2,6),(2,7),(2,8),(2,9),(2,10),(2,11)]) (by kernel_rfl) (by kernel_rfl) (by kernel_rfl) (.cons (sz:=1) azcm (by kernel_rfl) (.cons (sz:=1) sz0 (by kernel_rfl) (.cons (sz:=1) sz0 (by kernel_rfl) (.cons (sz:=3) Nzk (by kernel_rfl) (.cons (sz:=1) wz0 (by kernel_rfl) (.cons (sz:=1) wz0 (by kernel_rfl) (.cons (sz:=1) wz0 (by kernel_rfl) (.cons (sz:=1) wz0 (by kernel_rfl) (.cons (sz:=1) wz0 (by kernel_rfl) (.cons (sz:=1) wz0 (by kernel_rfl) .nil))))))))))).map (fun p=>⟨p.1,p.2.1,p.2.2.1,p.2.2.2.1,p.2.2.2.2.1,p.2.2.2.2.2.1,p.2.2.2.2.2.2.1,p.2.2.2.2.2.2.2.1,p.2.2.2.2.2.2.2.2.1,p.2.2.2.2.2.2.2.2.2.1⟩) (fun _=>rfl) (fun _ h=>h) (fun _=>Nat.le_refl _)
def az4y (v:(List azk)):List PVal:=[encL 12 gzo v]
def azc9 (v:(List azk)):Prop:=∀a∈v,az6y a
def az22 (v:(List azk)):Nat:=(v.map Xz8).sum+1
theorem aze2:Rep Tryz.prog 22 az4y azc9 az22:=jzn (cells:=Tz3) (enc:=gzo) (sz:=12) (by kernel_rfl) (by kernel_rfl) (by decide) (fun _=>rfl) (fun _=>rfl) azai
def Tz5 (v:bz5):List PVal:=[.int .i64 v.Link,.int .i64 v.Mass,.int .i64 v.Point.1,.int .i64 v.Point.2.1,.int .i64 v.Point.2.2]
def az70 (v:bz5):Prop:=szu v.Link/\Hz9 v.Mass/\Pza v.Point/\True
def Xza (v:bz5):Nat:=(ez3 v.Link+(kzw v.Mass+(zzy v.Point+0)))+1
theorem azak:Rep Tryz.prog 186 Tz5 az70 Xza:=
 (fze (fs:=[(3,0),(2,1),(100,2)]) (by kernel_rfl) (by kernel_rfl) (by kernel_rfl) (.cons (sz:=1) sz0 (by kernel_rfl) (.cons (sz:=1) wz0 (by kernel_rfl) (.cons (sz:=3) Nzk (by kernel_rfl) .nil)))).map (fun p=>⟨p.1,p.2.1,p.2.2.1⟩) (fun _=>rfl) (fun _ h=>h) (fun _=>Nat.le_refl _)
def az4z (v:(List bz5)):List PVal:=[encL 5 kzy v]
def azca (v:(List bz5)):Prop:=∀a∈v,az70 a
def az23 (v:(List bz5)):Nat:=(v.map Xza).sum+1
theorem aze3:Rep Tryz.prog 23 az4z azca az23:=jzn (cells:=Tz5) (enc:=kzy) (sz:=5) (by kernel_rfl) (by kernel_rfl) (by decide) (fun _=>rfl) (fun _=>rfl) azak
def az50 (v:azn):List PVal:=[encL 12 gzo v.Joints,encL 5 kzy v.Masses]
def azcb (v:azn):Prop:=azc9 v.Joints/\azca v.Masses/\True
def az24 (v:azn):Nat:=(az22 v.Joints+(az23 v.Masses+0))+1
theorem aze4:Rep Tryz.prog 25 az50 azcb az24:=
 (fze (fs:=[(22,0),(23,1)]) (by kernel_rfl) (by kernel_rfl) (by kernel_rfl) (.cons (sz:=1) aze2 (by kernel_rfl) (.cons (sz:=1) aze3 (by kernel_rfl) .nil))).map (fun p=>⟨p.1,p.2.1⟩) (fun _=>rfl) (fun _ h=>h) (fun _=>Nat.le_refl _)
def az57 (v:(List (Int×Int×Int))):List PVal:=[encL 3 azh v]
def az72 (v:(List (Int×Int×Int))):Prop:=∀a∈v,Pza a
def Uz7 (v:(List (Int×Int×Int))):Nat:=(v.map zzy).sum+1
theorem az7i:Rep Tryz.prog 43 az57 az72 Uz7:=jzn (cells:=Szz) (enc:=azh) (sz:=3) (by kernel_rfl) (by kernel_rfl) (by decide) (fun _=>rfl) (fun _=>rfl) Nzk
def Tz0 (v:aza):List PVal:=[.int .i64 v.Link,.int .i64 v.Radius,encL 3 azh v.Points]
def az6v (v:aza):Prop:=szu v.Link/\Hz9 v.Radius/\az72 v.Points/\True
def Gz3 (v:aza):Nat:=(ez3 v.Link+(kzw v.Radius+(Uz7 v.Points+0)))+1
theorem azaf:Rep Tryz.prog 102 Tz0 az6v Gz3:=
 (fze (fs:=[(3,0),(2,1),(43,2)]) (by kernel_rfl) (by kernel_rfl) (by kernel_rfl) (.cons (sz:=1) sz0 (by kernel_rfl) (.cons (sz:=1) wz0 (by kernel_rfl) (.cons (sz:=1) az7i (by kernel_rfl) .nil)))).map (fun p=>⟨p.1,p.2.1,p.2.2.1⟩) (fun _=>rfl) (fun _ h=>h) (fun _=>Nat.le_refl _)
def az51 (v:(List aza)):List PVal:=[encL 3 gz0 v]
def az71 (v:(List aza)):Prop:=∀a∈v,az6v a
def Gz4 (v:(List aza)):Nat:=(v.map Gz3).sum+1
theorem az7h:Rep Tryz.prog 26 az51 az71 Gz4:=jzn (cells:=Tz0) (enc:=gz0) (sz:=3) (by kernel_rfl) (by kernel_rfl) (by decide) (fun _=>rfl) (fun _=>rfl) azaf
def Tz2 (v:cz7):List PVal:=[.int .i64 v.A,.int .i64 v.B]
def az6x (v:cz7):Prop:=szu v.A/\szu v.B/\True
def Xz7 (v:cz7):Nat:=(ez3 v.A+(ez3 v.B+0))+1
theorem azah:Rep Tryz.prog 120 Tz2 az6x Xz7:=
 (fze (fs:=[(3,0),(3,1)]) (by kernel_rfl) (by kernel_rfl) (by kernel_rfl) (.cons (sz:=1) sz0 (by kernel_rfl) (.cons (sz:=1) sz0 (by kernel_rfl) .nil))).map (fun p=>⟨p.1,p.2.1⟩) (fun _=>rfl) (fun _ h=>h) (fun _=>Nat.le_refl _)
def az52 (v:(List cz7)):List PVal:=[encL 2 qz4 v]
def azcc (v:(List cz7)):Prop:=∀a∈v,az6x a
def az25 (v:(List cz7)):Nat:=(v.map Xz7).sum+1
theorem aze5:Rep Tryz.prog 27 az52 azcc az25:=jzn (cells:=Tz2) (enc:=qz4) (sz:=2) (by kernel_rfl) (by kernel_rfl) (by decide) (fun _=>rfl) (fun _=>rfl) azah
def az53 (v:azc):List PVal:=[encL 12 gzo v.Robot.Joints,encL 5 kzy v.Robot.Masses,encL 3 gz0 v.Shapes,encL 2 qz4 v.Skips]
def azcd (v:azc):Prop:=azcb v.Robot/\az71 v.Shapes/\azcc v.Skips/\True
def az26 (v:azc):Nat:=(az24 v.Robot+(Gz4 v.Shapes+(az25 v.Skips+0)))+1
theorem aze6:Rep Tryz.prog 29 az53 azcd az26:=
 (fze (fs:=[(25,0),(26,2),(27,3)]) (by kernel_rfl) (by kernel_rfl) (by kernel_rfl) (.cons (sz:=2) aze4 (by kernel_rfl) (.cons (sz:=1) az7h (by kernel_rfl) (.cons (sz:=1) aze5 (by kernel_rfl) .nil)))).map (fun p=>⟨p.1,p.2.1,p.2.2.1⟩) (fun _=>rfl) (fun _ h=>h) (fun _=>Nat.le_refl _)
def Xzd (v:azq):List PVal:=[.str v.Name,encL 3 gz0 v.Shapes]
def azci (v:azq):Prop:=azdz v.Name/\az71 v.Shapes/\True
def Czq (v:azq):Nat:=(az07 v.Name+(Gz4 v.Shapes+0))+1
theorem azee:Rep Tryz.prog 98 Xzd azci Czq:=
 (fze (fs:=[(9,0),(26,1)]) (by kernel_rfl) (by kernel_rfl) (by kernel_rfl) (.cons (sz:=1) azcm (by kernel_rfl) (.cons (sz:=1) az7h (by kernel_rfl) .nil))).map (fun p=>⟨p.1,p.2.1⟩) (fun _=>rfl) (fun _ h=>h) (fun _=>Nat.le_refl _)
def az56 (v:(List azq)):List PVal:=[encL 2 qzr v]
def azcf (v:(List azq)):Prop:=∀a∈v,azci a
def Uz6 (v:(List azq)):Nat:=(v.map Czq).sum+1
theorem aze8:Rep Tryz.prog 42 az56 azcf Uz6:=jzn (cells:=Xzd) (enc:=qzr) (sz:=2) (by kernel_rfl) (by kernel_rfl) (by decide) (fun _=>rfl) (fun _=>rfl) azee
def Tz1 (v:dz9):List PVal:=[.int .i64 v.Link,.int .i64 v.Offset.1,.int .i64 v.Offset.2.1,.int .i64 v.Offset.2.2]
def az6w (v:dz9):Prop:=szu v.Link/\Pza v.Offset/\True
def Xz6 (v:dz9):Nat:=(ez3 v.Link+(zzy v.Offset+0))+1
theorem azag:Rep Tryz.prog 104 Tz1 az6w Xz6:=
 (fze (fs:=[(3,0),(100,1)]) (by kernel_rfl) (by kernel_rfl) (by kernel_rfl) (.cons (sz:=1) sz0 (by kernel_rfl) (.cons (sz:=3) Nzk (by kernel_rfl) .nil))).map (fun p=>⟨p.1,p.2.1⟩) (fun _=>rfl) (fun _ h=>h) (fun _=>Nat.le_refl _)
def az58 (v:(List dz9)):List PVal:=[encL 4 Gzc v]
def azcg (v:(List dz9)):Prop:=∀a∈v,az6w a
def az28 (v:(List dz9)):Nat:=(v.map Xz6).sum+1
theorem aze9:Rep Tryz.prog 44 az58 azcg az28:=jzn (cells:=Tz1) (enc:=Gzc) (sz:=4) (by kernel_rfl) (by kernel_rfl) (by decide) (fun _=>rfl) (fun _=>rfl) azag
def az54 (v:(List Int)):List PVal:=[encL 1 azs v]
def azce (v:(List Int)):Prop:=∀a∈v,Hz9 a
def az27 (v:(List Int)):Nat:=(v.map kzw).sum+1
theorem aze7:Rep Tryz.prog 30 az54 azce az27:=jzn (cells:=az2b) (enc:=azs) (sz:=1) (by kernel_rfl) (by kernel_rfl) (by decide) (fun _=>rfl) (fun _=>rfl) wz0
def Tz4 (v:bzy):List PVal:=[.int .i64 v.Hand,.int .i64 v.Place,encL 1 azs v.At]
def az6z (v:bzy):Prop:=szu v.Hand/\szu v.Place/\azce v.At/\True
def Xz9 (v:bzy):Nat:=(ez3 v.Hand+(ez3 v.Place+(az27 v.At+0)))+1
theorem azaj:Rep Tryz.prog 129 Tz4 az6z Xz9:=
 (fze (fs:=[(3,0),(3,1),(30,2)]) (by kernel_rfl) (by kernel_rfl) (by kernel_rfl) (.cons (sz:=1) sz0 (by kernel_rfl) (.cons (sz:=1) sz0 (by kernel_rfl) (.cons (sz:=1) aze7 (by kernel_rfl) .nil)))).map (fun p=>⟨p.1,p.2.1,p.2.2.1⟩) (fun _=>rfl) (fun _ h=>h) (fun _=>Nat.le_refl _)
def az59 (v:(List bzy)):List PVal:=[encL 3 Gzb v]
def azch (v:(List bzy)):Prop:=∀a∈v,az6z a
def az29 (v:(List bzy)):Nat:=(v.map Xz9).sum+1
theorem azea:Rep Tryz.prog 45 az59 azch az29:=jzn (cells:=Tz4) (enc:=Gzb) (sz:=3) (by kernel_rfl) (by kernel_rfl) (by decide) (fun _=>rfl) (fun _=>rfl) azaj
def az5a (v:az1):List PVal:=[encL 12 gzo v.Scene.Robot.Joints,encL 5 kzy v.Scene.Robot.Masses,encL 3 gz0 v.Scene.Shapes,encL 2 qz4 v.Scene.Skips,encL 2 qzr v.Objects,encL 3 azh v.Places,encL 4 Gzc v.Hands,encL 3 Gzb v.Grips,.int .i64 v.Slack]
def Yzh (v:az1):Prop:=azcd v.Scene/\azcf v.Objects/\az72 v.Places/\azcg v.Hands/\azch v.Grips/\Hz9 v.Slack/\True
def wzq (v:az1):Nat:=(az26 v.Scene+(Uz6 v.Objects+(Uz7 v.Places+(az28 v.Hands+(az29 v.Grips+(kzw v.Slack+0))))))+1
theorem azeb:Rep Tryz.prog 47 az5a Yzh wzq:=
 (fze (fs:=[(29,0),(42,4),(43,5),(44,6),(45,7),(2,8)]) (by kernel_rfl) (by kernel_rfl) (by kernel_rfl) (.cons (sz:=4) aze6 (by kernel_rfl) (.cons (sz:=1) aze8 (by kernel_rfl) (.cons (sz:=1) az7i (by kernel_rfl) (.cons (sz:=1) aze9 (by kernel_rfl) (.cons (sz:=1) azea (by kernel_rfl) (.cons (sz:=1) wz0 (by kernel_rfl) .nil))))))).map (fun p=>⟨p.1,p.2.1,p.2.2.1,p.2.2.2.1,p.2.2.2.2.1,p.2.2.2.2.2.1⟩) (fun _=>rfl) (fun _ h=>h) (fun _=>Nat.le_refl _)
def az55 (v:(List Int)):List PVal:=[encL 1 azs v]
def Dzz (v:(List Int)):Prop:=∀a∈v,szu a
def izg (v:(List Int)):Nat:=(v.map ez3).sum+1
theorem az1h:Rep Tryz.prog 33 az55 Dzz izg:=jzn (cells:=az2c) (enc:=azs) (sz:=1) (by kernel_rfl) (by kernel_rfl) (by decide) (fun _=>rfl) (fun _=>rfl) sz0
def az5b (v:azg):List PVal:=[encL 1 azs v.Where]
def Yzi (v:azg):Prop:=Dzz v.Where/\True
def Czo (v:azg):Nat:=(izg v.Where+0)+1
theorem azec:Rep Tryz.prog 49 az5b Yzi Czo:=
 (fze (fs:=[(33,0)]) (by kernel_rfl) (by kernel_rfl) (by kernel_rfl) (.cons (sz:=1) az1h (by kernel_rfl) .nil)).map (fun p=>⟨p.1⟩) (fun _=>rfl) (fun _ h=>h) (fun _=>Nat.le_refl _)
def az5c (v:az6):List PVal:=[.int .i64 v.Kind,.int .i64 v.Hand,.int .i64 v.Place]
def Yzj (v:az6):Prop:=szu v.Kind/\szu v.Hand/\szu v.Place/\True
def Czp (v:az6):Nat:=(ez3 v.Kind+(ez3 v.Hand+(ez3 v.Place+0)))+1
theorem azed:Rep Tryz.prog 51 az5c Yzj Czp:=
 (fze (fs:=[(3,0),(3,1),(3,2)]) (by kernel_rfl) (by kernel_rfl) (by kernel_rfl) (.cons (sz:=1) sz0 (by kernel_rfl) (.cons (sz:=1) sz0 (by kernel_rfl) (.cons (sz:=1) sz0 (by kernel_rfl) .nil)))).map (fun p=>⟨p.1,p.2.1,p.2.2.1⟩) (fun _=>rfl) (fun _ h=>h) (fun _=>Nat.le_refl _)
theorem kz5 {a b:Bool}(h:a=true)(k:b=true):(a&&b)=true:=by rw[h,k];rfl
set_option maxRecDepth 100000 in
theorem azff:joinedFacts Tryz.pinned.checked.prog 4 Tryz.f4 (Rows.OpenSpec.upto Rows.taskPlanReadySpec).bare Rows.taskPlanReadyUptoRow=true:=by
 unfold joinedFacts
 exact(kz5 (kz5 (kz5 (kz5 (kz5 (kz5 (kz5 (kz5 (kz5 (kz5 (kz5 (kz5 (kz5 (kz5 (kz5 (kz5 (kz5 (kz5 (kz5 (kz5 (kz5 (kz5 (kz5 (kz5 (kz5 (kz5 (kz5 (kz5 (kz5 (kz5 (kz5 azh4 azdn) Yz5) az6f) az9y) az6c) aza0) az6b) az9w) az3y) azfz) azfx) azdq) azdp) az6d) az3z) az9x) azdr) aza1) azfy) Yz4) az0y) Yz6) az9z) az9u) az0z) az6e) azdo) az9v) az6g) az6h) azdm)
theorem own:ownKnob Tryz.prog.godebug=none:=by kernel_rfl
theorem azfp:Tryz.prog.globalNamed "armplan/sampler.primes" =some 0:=by kernel_rfl
theorem azhg {W:World}(h:laidMetH Tryz.prog Rows.taskPlanReadyUptoRow.laid W):Lib.TabIs Tryz.prog W "armplan/sampler.primes" .u64 [2,3,5,7,11,13,17,19,23,29]:=
 Lib.tabIs_of_head (rest:=[]) azfp (t:=366) (e:=189) (n:=10) (by kernel_rfl) (by kernel_rfl) (by kernel_rfl) (by kernel_rfl) (by kernel_rfl) h
theorem azgm {W:World}(h:laidMetH Tryz.prog Rows.taskPlanReadyUptoRow.laid W):TabOk (oldF W) W:=by
 intro g k l hg i n hi
 unfold gTab at hg
 split at hg
 ·obtain⟨rfl,rfl⟩:=Prod.mk.inj (Option.some.inj hg)
  have hc:=(azhg h).cell azfp i (List.getElem?_eq_some_iff.1 hi).1
  refine⟨(az4x hc).2,?_⟩
  rw[hc,List.getD_eq_getElem?_getD,hi];rfl
 ·cases hg
noncomputable def Ozv (os:Os):World:=
 {World.holding Tryz.prog os ⟨#[],#[],[]⟩with heap:=(World.holding Tryz.prog os ⟨#[],#[],[]⟩).heap.modify 0 fun
  | .cells _ t frozen=>.cells #[.int .u64 2,.int .u64 3,.int .u64 5,.int .u64 7,.int .u64 11,.int .u64 13,.int .u64 17,.int .u64 19,.int .u64 23,.int .u64 29] t frozen
  |o=>o}
theorem aza2 (os:Os):laidMet Tryz.prog Rows.taskPlanReadyUptoRow.laid ((Ozv os).forCall (fun _ _=>0) ⟨#[],#[.agg #[.slice none 0 0,.slice none 0 0,.slice none 0 0,.slice none 0 0,.slice none 0 0,.slice none 0 0,.slice none 0 0,.slice none 0 0,.int .i64 0],.agg #[.slice none 0 0],.agg #[.int .i64 0,.int .i64 0,.int .i64 0],.int .i64 0,.slice none 0 0,.slice none 0 0,.int .i64 0],[]⟩).memory:=
 laidMet_of_run' 12 (by kernel_rfl) (by kernel_rfl)
theorem azha (os:Os){H:Type}(enc:TypeId×Value->H):∃places,DataW.whole enc Tryz.prog ((Ozv os).forCall (fun _ _=>0) ⟨#[],#[.agg #[.slice none 0 0,.slice none 0 0,.slice none 0 0,.slice none 0 0,.slice none 0 0,.slice none 0 0,.slice none 0 0,.slice none 0 0,.int .i64 0],.agg #[.slice none 0 0],.agg #[.int .i64 0,.int .i64 0,.int .i64 0],.int .i64 0,.slice none 0 0,.slice none 0 0,.int .i64 0],[]⟩).memory Tryz.f4.params.toList Rows.taskPlanReadySpec.vars false (#[.agg #[.slice none 0 0,.slice none 0 0,.slice none 0 0,.slice none 0 0,.slice none 0 0,.slice none 0 0,.slice none 0 0,.slice none 0 0,.int .i64 0],.agg #[.slice none 0 0],.agg #[.int .i64 0,.int .i64 0,.int .i64 0],.int .i64 0,.slice none 0 0,.slice none 0 0,.int .i64 0]:Array Value).toList 8=some ([.agg [.agg [.agg [.nil,.nil],.nil,.nil],.nil,.nil,.nil,.nil,.lit (.int .i64 0)],.agg [.nil],.agg [.lit (.int .i64 0),.lit (.int .i64 0),.lit (.int .i64 0)],.lit (.int .i64 0),.nil,.nil,.lit (.int .i64 0)],[],places):=
 ⟨[],by kernel_rfl⟩
set_option maxRecDepth 100000 in
theorem az8m (plain:∀ (a0:az1) (a1:azg) (a2:az6) (a3:Int) (a4:(List Int)) (a5:(List Int)) (a6:Int),Yzh a0->Yzi a1->Yzj a2->szu a3->Dzz a4->Dzz a5->szu a6->wzq a0+Czo a1+Czp a2+ez3 a3+izg a4+izg a5+ez3 a6≤1048576->(czh a0 a1 a2 a3 a4 a5 a6).o=some true)(H:Type)(enc:TypeId×Value->H)(W:World)(base:Nat)(args:Array Value)(ds gs:List (DataW H))(before:List MemPlace)
 (hval:∀ (j:Nat) t v,Tryz.f4.params[j]?=some t->args[j]?=some v->Value.okWide Tryz.prog W .any base t v)
 (hW:DataW.Whole enc Tryz.prog Tryz.f4.params.toList Rows.taskPlanReadySpec.vars false W args.toList ds gs before) (hk:Rows.uptoSmall H (ds++gs)=true) (hL:laidMetH Tryz.prog Rows.taskPlanReadyUptoRow.laid W):
 Calls Tryz.prog 4 args W fun e W'=>∃v,e=.returned v/\Rows.taskPlanReadySpec.post enc Tryz.prog Tryz.f4 false true false false W args v W':=by
 have hW':=hW
 obtain⟨p,q,hA0,hV,rfl,hfz,hnd⟩:=hW
 have hA:DataW.TrodAll enc Tryz.prog W 0 (fun _=>true) true Tryz.f4.params.toList args.toList ds p:=hA0
 rw[Tryz.params4]at hA hval
 obtain⟨v0,vs0,d0,ds0,p0,q0,hargs,rfl,rfl,h0,r0⟩:=trodAll_cons hA
 obtain⟨v1,vs1,d1,ds1,p1,q1,hargs1,rfl,rfl,h1,r1⟩:=trodAll_cons r0
 subst hargs1
 obtain⟨v2,vs2,d2,ds2,p2,q2,hargs2,rfl,rfl,h2,r2⟩:=trodAll_cons r1
 subst hargs2
 obtain⟨v3,vs3,d3,ds3,p3,q3,hargs3,rfl,rfl,h3,r3⟩:=trodAll_cons r2
 subst hargs3
 obtain⟨v4,vs4,d4,ds4,p4,q4,hargs4,rfl,rfl,h4,r4⟩:=trodAll_cons r3
 subst hargs4
 obtain⟨v5,vs5,d5,ds5,p5,q5,hargs5,rfl,rfl,h5,r5⟩:=trodAll_cons r4
 subst hargs5
 obtain⟨v6,vs6,d6,ds6,p6,q6,hargs6,rfl,rfl,h6,r6⟩:=trodAll_cons r5
 subst hargs6
 obtain⟨rfl,rfl,rfl⟩:=trodAll_nil r6
 obtain rfl:args=#[v0,v1,v2,v3,v4,v5,v6]:=by cases args;simp_all
 obtain⟨rfl,rfl⟩:=trodVars_none hV
 obtain⟨n0,h0⟩:=h0
 obtain⟨a0,c0,o0,b0⟩:=azeb H enc W _ _ _ h0
 obtain⟨n1,h1⟩:=h1
 obtain⟨a1,c1,o1,b1⟩:=azec H enc W _ _ _ h1
 obtain⟨n2,h2⟩:=h2
 obtain⟨a2,c2,o2,b2⟩:=azed H enc W _ _ _ h2
 obtain⟨n3,h3⟩:=h3
 obtain⟨a3,c3,o3,b3⟩:=sz0 H enc W _ _ _ h3
 obtain⟨n4,h4⟩:=h4
 obtain⟨a4,c4,o4,b4⟩:=az1h H enc W _ _ _ h4
 obtain⟨n5,h5⟩:=h5
 obtain⟨a5,c5,o5,b5⟩:=az1h H enc W _ _ _ h5
 obtain⟨n6,h6⟩:=h6
 obtain⟨a6,c6,o6,b6⟩:=sz0 H enc W _ _ _ h6
 have hb:Rows.uptoBulkAll ([d0,d1,d2,d3,d4,d5,d6]++[]:List (DataW H))≤1048576:=of_decide_eq_true hk
 simp only[List.append_nil,Rows.uptoBulkAll]at hb
 have htrue:=plain a0 a1 a2 a3 a4 a5 a6 o0 o1 o2 o3 o4 o5 o6 (by simp only at b0 b1 b2 b3 b4 b5 b6;omega)
 refine Yzu (bt:=4) ((czh a0 a1 a2 a3 a4 a5 a6).ok _ htrue) (azgm hL) (fun ρ=>mzo (az01 (P:=Tryz.prog) (hval 0 47 v0 rfl rfl) (by kernel_rfl) c0) (mzo (az01 (P:=Tryz.prog) (hval 1 49 v1 rfl rfl) (by kernel_rfl) c1) (mzo (az01 (P:=Tryz.prog) (hval 2 51 v2 rfl rfl) (by kernel_rfl) c2) (mzo (Vzl (P:=Tryz.prog) (hval 3 3 v3 rfl rfl) (by kernel_rfl) c3) (mzo (Vzl (P:=Tryz.prog) (hval 4 33 v4 rfl rfl) (by kernel_rfl) c4) (mzo (Vzl (P:=Tryz.prog) (hval 5 33 v5 rfl rfl) (by kernel_rfl) c5) (mzo (Vzl (P:=Tryz.prog) (hval 6 3 v6 rfl rfl) (by kernel_rfl) c6) (az4m)))))))) hW' rfl rfl (by kernel_rfl) (by kernel_rfl) (slices_full_of _ (by kernel_rfl)) ?_ (by kernel_rfl) (by kernel_rfl)
 have hs:Tryz.prog.types.size=611:=by kernel_rfl
 rw[Tryz.params4,hs];simp only[List.mem_cons,List.not_mem_nil,or_false]
 rintro t (rfl|rfl|rfl|rfl|rfl|rfl|rfl)<;>decide
set_option maxRecDepth 100000 in
theorem lifted (plain:∀ (a0:az1) (a1:azg) (a2:az6) (a3:Int) (a4:(List Int)) (a5:(List Int)) (a6:Int),Yzh a0->Yzi a1->Yzj a2->szu a3->Dzz a4->Dzz a5->szu a6->wzq a0+Czo a1+Czp a2+ez3 a3+izg a4+izg a5+ez3 a6≤1048576->(czh a0 a1 a2 a3 a4 a5 a6).o=some true)(os:Os)(started:os.Started)(H:Type)(enc:TypeId×Value->H)(F:Stop.Interp):
 ReturnsInHanded {} Tryz.checked os 4 .any ((Rows.OpenSpec.upto Rows.taskPlanReadySpec).preRow enc Tryz.prog Tryz.f4 Rows.taskPlanReadyUptoRow.domain false Rows.taskPlanReadyUptoRow.laid) (((Rows.OpenSpec.upto Rows.taskPlanReadySpec).at F).post enc Tryz.prog Tryz.f4 false true false false):=by
 obtain⟨places,hx⟩:=azha os enc
 refine returnsInHanded_of_row (C:=Tryz.checked) (s:=Rows.OpenSpec.upto Rows.taskPlanReadySpec) own started (by kernel_rfl) Tryz.func4
  (witness_row_at (enc:=enc) (C:=Tryz.checked) false (Ozv os) #[.agg #[.slice none 0 0,.slice none 0 0,.slice none 0 0,.slice none 0 0,.slice none 0 0,.slice none 0 0,.slice none 0 0,.slice none 0 0,.int .i64 0],.agg #[.slice none 0 0],.agg #[.int .i64 0,.int .i64 0,.int .i64 0],.int .i64 0,.slice none 0 0,.slice none 0 0,.int .i64 0] rfl (by kernel_rfl) (by kernel_rfl) (by kernel_rfl)
   (OpenSpec.preRow_of_cond 8 hx (by kernel_rfl) (fun k hk=>by cases hk;kernel_rfl) (by kernel_rfl) (aza2 os))) ?_
 intro W base args ds gs before hval hW _ hk _ hL _ _
 exact az8m plain H enc W base args ds gs before hval hW (hk _ rfl) hL
theorem over (plain:∀ (a0:az1) (a1:azg) (a2:az6) (a3:Int) (a4:(List Int)) (a5:(List Int)) (a6:Int),Yzh a0->Yzi a1->Yzj a2->szu a3->Dzz a4->Dzz a5->szu a6->wzq a0+Czo a1+Czp a2+ez3 a3+izg a4+izg a5+ez3 a6≤1048576->(czh a0 a1 a2 a3 a4 a5 a6).o=some true):Rows.taskPlanReadyUptoRow.holds Tryz.pinned (Rows.OpenSpec.upto Rows.taskPlanReadySpec):=
 OpenClaim.holds_of_cond 4 Tryz.f4 rfl rfl rfl rfl rfl rfl rfl ⟨rfl,rfl,rfl,rfl,rfl⟩ rfl rfl rfl rfl rfl (by kernel_rfl) Tryz.func4 azff
  (of_decide_eq_true (by kernel_rfl)) (by unfold Func.isWrapper;first|(rw[if_pos (by decide+kernel)];kernel_rfl)|(rw[if_neg (by decide+kernel)];exact⟨rfl,rfl⟩))
  (fun os started H enc _ F=>by rw[OpenClaim.pre_eq_preRow];exact lifted plain os started H enc F)
theorem seen (f:FuncId)(fn:Func)(hf:Tryz.pinned.checked.prog.funcNamed "armplan/armplanlaw39.TaskPlanReady" =some f)(hfn:Tryz.pinned.checked.prog.funcs[f]?=some fn):
 true=Tryz.pinned.checked.prog.looks []/\∀ (j:Nat) t,fn.params[j]?=some t->Tryz.pinned.checked.prog.wantsStandIn t=false:=by
 obtain rfl:f=4:=Option.some.inj ((show Tryz.prog.funcNamed "armplan/armplanlaw39.TaskPlanReady" =some 4 by kernel_rfl).symm.trans hf)|>.symm
 obtain rfl:fn=Tryz.f4:=(Option.some.inj (Tryz.func4.symm.trans hfn)).symm
 have h:(Tryz.f4.params.all fun t=> !(Tryz.prog.wantsStandIn t))=true:=by kernel_rfl
 refine⟨by kernel_rfl,fun j t ht=>?_⟩
 have:=Array.all_eq_true_iff_forall_mem.1 h t (Array.mem_of_getElem? ht)
 rwa[Bool.not_eq_true']at this
theorem fHw:Rows.taskPlanReadyUptoRow.wfByText (Rows.OpenSpec.upto Rows.taskPlanReadySpec)=true:=by kernel_rfl
theorem fHm:Tryz.pinned.checked.prog.mainIs=some (true, "fc6ed5f3ec88a8cb7dbdebfd152d2f7713ffe8fa7f0a761f1c00437152281145".toList):=by kernel_rfl
theorem az5y {P:Program}(h:P.funcs.any Func.goes=false)(f:FuncId):P.goes f=false:=by
 have h':∀g:FuncId,(P.funcs[g]?).any Func.goes=false:=fun g=>by
  cases e:P.funcs[g]? with
  |none=>rfl
  |some fn=>
   obtain⟨hg,rfl⟩:=Array.getElem?_eq_some_iff.1 e
   simpa using Array.any_eq_false.1 h g hg
 simp[Program.goes,h,h']
theorem az8z:Tryz.pinned.checked.prog.funcs.any Func.goes=false:=by kernel_rfl
theorem az0w {P:Program}(h:P.funcs.any Func.goes=false)(c:OpenClaim)(hs:c.start=.entering):c.goesBy P=false:=by
 unfold OpenClaim.goesBy Program.goesAt Program.goesFrom
 rw[hs]
 cases P.funcNamed c.func with
 |none=>rfl
 |some f=>simp[az5y h]
theorem fHg:false=Rows.taskPlanReadyUptoRow.goesBy Tryz.pinned.checked.prog:=(az0w az8z _ rfl).symm
theorem card (plain:∀ (a0:az1) (a1:azg) (a2:az6) (a3:Int) (a4:(List Int)) (a5:(List Int)) (a6:Int),Yzh a0->Yzi a1->Yzj a2->szu a3->Dzz a4->Dzz a5->szu a6->wzq a0+Czo a1+Czp a2+ez3 a3+izg a4+izg a5+ez3 a6≤1048576->(czh a0 a1 a2 a3 a4 a5 a6).o=some true):Rows.TaskPlanReadyUptoCardSaid:=
 Claim7.holds_tied_plain_at .later [] _ _ _ _ (over plain) (fun _ h=>by cases h) fHw (fun _ h=>by cases h) taskPlanReadyUpto_row_tie rfl ⟨rfl,rfl⟩ fHm rfl seen fHg
end taskPlanReady
end Go.Abs
