/-
  M2 (a part of a claim: our own text).
-/
import Derived.Test.YtciomjhdpbiaeaaGreatYEM1
namespace Go.Abs
open IntKind (i64)
open Go.Proofs
noncomputable def Bz9 (c:az0)(d:az0)(e:az0)(f:Int)(g:Int):T az0:=
 .cc (dzh c) fun h=>
 .br (!h)
 (.ret (⟨0,0⟩:az0))
 (.br (decide ((i64.wrap (c.Hi-c.Lo))≥65536))
 (.ret (⟨(-65536),65536⟩:az0))
 (.cc (uz9 d e) fun i=>
 .cut 0 (fun (j:Ah)=>⟨[(4,pz g),(5,.ptr 0 0),(10,.ptr 1 0),(11,.ptr 2 0)],[(0,.box [pz c.Lo,pz c.Hi]),(1,.box [pz 0,pz 0]),(2,.box [pz j.1,pz j.2])],[],3⟩)
 (.cc (xzi c f) fun j=>
 .br j
 (.cc (lzs 65536) fun k=>
 .cc (uz9 i k) fun l=>
 .oo (l.Lo,l.Hi))
 (.oo (i.Lo,i.Hi))) fun j=>
 .cut 0 (fun (k:Ah)=>⟨[(10,.ptr 0 0),(11,.ptr 1 0)],[(0,.box [pz 0,pz 0]),(1,.box [pz k.1,pz k.2])],[],2⟩)
 (.cc (xzi c g) fun k=>
 .br k
 (.cc (lzs (-65536)) fun l=>
 .cc (uz9 (⟨j.1,j.2⟩:az0) l) fun m=>
 .oo (m.Lo,m.Hi))
 (.oo (j.1,j.2))) fun k=>
 .ret (⟨k.1,k.2⟩:az0)))
noncomputable def Bz8 (c)(d)(e)(f)(g):=
 mkD Tryz.func272 (Bz9 c d e f g) 0 [.pure (az7 c),.pure (az7 d),.pure (az7 e),pz f,pz g] [] (fun r=>.pure (az7 r)) (fun _=>[])
noncomputable def rzd (c:az0):T az0:=
 .cc (Ezm c.Lo) fun d=>
 .cc (Ezm c.Hi) fun e=>
 .cc (Bz8 c (⟨d.Lo,d.Hi⟩:az0) (⟨e.Lo,e.Hi⟩:az0) 0 32768) fun f=>
 .ret f
noncomputable def zzv (c):=
 mkD Tryz.func259 (rzd c) 0 [.pure (az7 c)] [] (fun r=>.pure (az7 r)) (fun _=>[])
noncomputable def rzf (c:az0):T az0:=
 .cc (yzm c.Lo) fun d=>
 .cc (yzm c.Hi) fun e=>
 .cc (Bz8 c d e 16384 49152) fun f=>
 .ret f
noncomputable def zzx (c):=
 mkD Tryz.func260 (rzf c) 0 [.pure (az7 c)] [] (fun r=>.pure (az7 r)) (fun _=>[])
noncomputable def Bz7 (c:Int)(d:az0):T B2:=let e:=(⟨d.Lo,d.Hi⟩:az0);.cc (dzh d) fun f=>
 .br (!f)
 (.ret (((⟨0,0⟩:az0),(⟨0,0⟩:az0),(⟨0,0⟩:az0)),((⟨0,0⟩:az0),(⟨0,0⟩:az0),(⟨0,0⟩:az0)),((⟨0,0⟩:az0),(⟨0,0⟩:az0),(⟨0,0⟩:az0))))
 (.cc (lzs 65536) fun g=>
 .cc (zzv e) fun h=>
 .cc (zzx e) fun i=>
 .cc (yzl i) fun j=>
 .br (c==0)
 (.ret ((g,(⟨0,0⟩:az0),(⟨0,0⟩:az0)),((⟨0,0⟩:az0),h,j),((⟨0,0⟩:az0),i,h)))
 (.br (c==1)
 (.ret ((h,(⟨0,0⟩:az0),i),((⟨0,0⟩:az0),g,(⟨0,0⟩:az0)),(j,(⟨0,0⟩:az0),h)))
 (.br (c==2)
 (.ret ((h,j,(⟨0,0⟩:az0)),(i,h,(⟨0,0⟩:az0)),((⟨0,0⟩:az0),(⟨0,0⟩:az0),g)))
 (.ret (((⟨0,0⟩:az0),(⟨0,0⟩:az0),(⟨0,0⟩:az0)),((⟨0,0⟩:az0),(⟨0,0⟩:az0),(⟨0,0⟩:az0)),((⟨0,0⟩:az0),(⟨0,0⟩:az0),(⟨0,0⟩:az0)))))))
noncomputable def Jz0 (c)(d):=
 mkD Tryz.func247 (Bz7 c d) 0 [pz c,.pure (az7 d)] [] (fun r=>.pure (bza r)) (fun _=>[])
noncomputable def ozx (c:Int)(d:az0):T azr:=
 .cc (Jz0 c (⟨d.Lo,d.Hi⟩:az0)) fun e=>
 .ret (⟨e,((⟨0,0⟩:az0),(⟨0,0⟩:az0),(⟨0,0⟩:az0))⟩:azr)
noncomputable def xzg (c)(d):=
 mkD Tryz.func230 (ozx c d) 0 [pz c,.pure (az7 d)] [] (fun r=>.pure (bzj r)) (fun _=>[])
noncomputable def xze (c:Az):T azr:=
 .cc (ref1_Unit_C) fun d=>
 .ret (⟨d,c⟩:azr)
noncomputable def xzd (c):=
 mkD Tryz.func231 (xze c) 0 [.pure (az2 c)] [] (fun r=>.pure (bzj r)) (fun _=>[])
noncomputable def xzc (c:Aw):T Az:=
 .ix 0 3 rfl<|
 .cc (lzs c.1) fun d=>
 .ix 1 3 rfl<|
 .cc (lzs c.2.1) fun e=>
 .ix 2 3 rfl<|
 .cc (lzs c.2.2) fun f=>
 .ret (d,e,f)
noncomputable def xzb (c):=
 mkD Tryz.func203 (xzc c) 0 [.pure (az3 c)] [] (fun r=>.pure (az2 r)) (fun _=>[])
noncomputable def rzh (c:Int)(d:Int):T az0:=
 .cc (lzr c) fun e=>
 .cc (lzr d) fun f=>
 .ret (⟨e,f⟩:az0)
noncomputable def rzg (c)(d):=
 mkD Tryz.func262 (rzh c d) 0 [pz c,pz d] [] (fun r=>.pure (az7 r)) (fun _=>[])
noncomputable def Ezr (c:az0)(d:az0):T az0:=let e:=i64.wrap (c.Lo * d.Lo);let f:=i64.wrap (c.Lo * d.Hi);let g:=i64.wrap (c.Hi * d.Lo);let h:=i64.wrap (c.Hi * d.Hi);.cut 2 (fun (i:Bool)=>⟨[(2,.ptr 0 0),(3,.ptr 1 0),(4,.ptr 2 0),(16,.pure (.bool i))],[(0,.box [pz c.Lo,pz c.Hi]),(1,.box [pz d.Lo,pz d.Hi]),(2,.box [pz 0,pz 0])],[],3⟩)
 (.cc (dzh (⟨c.Lo,c.Hi⟩:az0)) fun i=>
 .br (!i)
 (.oo true)
 (.cc (dzh (⟨d.Lo,d.Hi⟩:az0)) fun j=>
 .oo (!j))) fun i=>
 .br i
 (.ret (⟨0,0⟩:az0))
 (.name 4004 ((min (min (min e f) g) h)) fun j=>
 .cc (bz9 j 65536) fun k=>
 .name 4010 ((max (max (max e f) g) h)) fun l=>
 .cc (azv l 65536) fun m=>
 .cc (rzg k m) fun n=>
 .ret n)
noncomputable def bz1 (c)(d):=
 mkD Tryz.func249 (Ezr c d) 0 [.pure (az7 c),.pure (az7 d)] [] (fun r=>.pure (az7 r)) (fun _=>[])
noncomputable def Ezj (c:az0)(d:az0):T az0:=
 .cut 2 (fun (e:Bool)=>⟨[(2,.ptr 0 0),(3,.ptr 1 0),(4,.ptr 2 0),(12,.pure (.bool e))],[(0,.box [pz c.Lo,pz c.Hi]),(1,.box [pz d.Lo,pz d.Hi]),(2,.box [pz 0,pz 0])],[],3⟩)
 (.cc (dzh c) fun e=>
 .br (!e)
 (.oo true)
 (.cc (dzh d) fun f=>
 .oo (!f))) fun e=>
 .br e
 (.ret (⟨0,0⟩:az0))
 (.cc (rzg (i64.wrap (c.Lo+d.Lo)) (i64.wrap (c.Hi+d.Hi))) fun f=>
 .ret f)
noncomputable def bzi (c)(d):=
 mkD Tryz.func248 (Ezj c d) 0 [.pure (az7 c),.pure (az7 d)] [] (fun r=>.pure (az7 r)) (fun _=>[])
noncomputable def kzl (c:B2)(d:B2):T B2:=
 .unroll 4<|
 .known true<|
 .unroll 4<|
 .known true<|
 .ix 0 3 rfl<|
 .ix 0 3 rfl<|
 .ix 0 3 rfl<|
 .ix 0 3 rfl<|
 .cc (bz1 c.1.1 d.1.1) fun e=>
 .ix 0 3 rfl<|
 .ix 1 3 rfl<|
 .ix 1 3 rfl<|
 .ix 0 3 rfl<|
 .cc (bz1 c.1.2.1 d.2.1.1) fun f=>
 .cc (bzi e f) fun g=>
 .ix 0 3 rfl<|
 .ix 2 3 rfl<|
 .ix 2 3 rfl<|
 .ix 0 3 rfl<|
 .cc (bz1 c.1.2.2 d.2.2.1) fun h=>
 .cc (bzi g h) fun i=>
 .ix 0 3 rfl<|
 .ix 0 3 rfl<|
 .lit 7001 (1)<|
 .known true<|
 .ix 0 3 rfl<|
 .ix 0 3 rfl<|
 .ix 0 3 rfl<|
 .ix 1 3 rfl<|
 .cc (bz1 c.1.1 d.1.2.1) fun j=>
 .ix 0 3 rfl<|
 .ix 1 3 rfl<|
 .ix 1 3 rfl<|
 .ix 1 3 rfl<|
 .cc (bz1 c.1.2.1 d.2.1.2.1) fun k=>
 .cc (bzi j k) fun l=>
 .ix 0 3 rfl<|
 .ix 2 3 rfl<|
 .ix 2 3 rfl<|
 .ix 1 3 rfl<|
 .cc (bz1 c.1.2.2 d.2.2.2.1) fun m=>
 .cc (bzi l m) fun n=>
 .ix 0 3 rfl<|
 .ix 1 3 rfl<|
 .lit 7001 (2)<|
 .known true<|
 .ix 0 3 rfl<|
 .ix 0 3 rfl<|
 .ix 0 3 rfl<|
 .ix 2 3 rfl<|
 .cc (bz1 c.1.1 d.1.2.2) fun s=>
 .ix 0 3 rfl<|
 .ix 1 3 rfl<|
 .ix 1 3 rfl<|
 .ix 2 3 rfl<|
 .cc (bz1 c.1.2.1 d.2.1.2.2) fun t=>
 .cc (bzi s t) fun w=>
 .ix 0 3 rfl<|
 .ix 2 3 rfl<|
 .ix 2 3 rfl<|
 .ix 2 3 rfl<|
 .cc (bz1 c.1.2.2 d.2.2.2.2) fun y=>
 .cc (bzi w y) fun z=>
 .ix 0 3 rfl<|
 .ix 2 3 rfl<|
 .lit 7001 (3)<|
 .known false<|
 .lit 4001 (1)<|
 .known true<|
 .unroll 4<|
 .known true<|
 .ix 1 3 rfl<|
 .ix 0 3 rfl<|
 .ix 0 3 rfl<|
 .ix 0 3 rfl<|
 .cc (bz1 c.2.1.1 d.1.1) fun aa=>
 .ix 1 3 rfl<|
 .ix 1 3 rfl<|
 .ix 1 3 rfl<|
 .ix 0 3 rfl<|
 .cc (bz1 c.2.1.2.1 d.2.1.1) fun ab=>
 .cc (bzi aa ab) fun ac=>
 .ix 1 3 rfl<|
 .ix 2 3 rfl<|
 .ix 2 3 rfl<|
 .ix 0 3 rfl<|
 .cc (bz1 c.2.1.2.2 d.2.2.1) fun ad=>
 .cc (bzi ac ad) fun ae=>
 .ix 1 3 rfl<|
 .ix 0 3 rfl<|
 .lit 7001 (1)<|
 .known true<|
 .ix 1 3 rfl<|
 .ix 0 3 rfl<|
 .ix 0 3 rfl<|
 .ix 1 3 rfl<|
 .cc (bz1 c.2.1.1 d.1.2.1) fun af=>
 .ix 1 3 rfl<|
 .ix 1 3 rfl<|
 .ix 1 3 rfl<|
 .ix 1 3 rfl<|
 .cc (bz1 c.2.1.2.1 d.2.1.2.1) fun ag=>
 .cc (bzi af ag) fun ah=>
 .ix 1 3 rfl<|
 .ix 2 3 rfl<|
 .ix 2 3 rfl<|
 .ix 1 3 rfl<|
 .cc (bz1 c.2.1.2.2 d.2.2.2.1) fun ai=>
 .cc (bzi ah ai) fun aj=>
 .ix 1 3 rfl<|
 .ix 1 3 rfl<|
 .lit 7001 (2)<|
 .known true<|
 .ix 1 3 rfl<|
 .ix 0 3 rfl<|
 .ix 0 3 rfl<|
 .ix 2 3 rfl<|
 .cc (bz1 c.2.1.1 d.1.2.2) fun ak=>
 .ix 1 3 rfl<|
 .ix 1 3 rfl<|
 .ix 1 3 rfl<|
 .ix 2 3 rfl<|
 .cc (bz1 c.2.1.2.1 d.2.1.2.2) fun al=>
 .cc (bzi ak al) fun am=>
 .ix 1 3 rfl<|
 .ix 2 3 rfl<|
 .ix 2 3 rfl<|
 .ix 2 3 rfl<|
 .cc (bz1 c.2.1.2.2 d.2.2.2.2) fun an=>
 .cc (bzi am an) fun ao=>
 .ix 1 3 rfl<|
 .ix 2 3 rfl<|
 .lit 7001 (3)<|
 .known false<|
 .lit 4001 (2)<|
 .known true<|
 .unroll 4<|
 .known true<|
 .ix 2 3 rfl<|
 .ix 0 3 rfl<|
 .ix 0 3 rfl<|
 .ix 0 3 rfl<|
 .cc (bz1 c.2.2.1 d.1.1) fun ap=>
 .ix 2 3 rfl<|
 .ix 1 3 rfl<|
 .ix 1 3 rfl<|
 .ix 0 3 rfl<|
 .cc (bz1 c.2.2.2.1 d.2.1.1) fun aq=>
 .cc (bzi ap aq) fun ar=>
 .ix 2 3 rfl<|
 .ix 2 3 rfl<|
 .ix 2 3 rfl<|
 .ix 0 3 rfl<|
 .cc (bz1 c.2.2.2.2 d.2.2.1) fun au=>
 .cc (bzi ar au) fun av=>
 .ix 2 3 rfl<|
 .ix 0 3 rfl<|
 .lit 7001 (1)<|
 .known true<|
 .ix 2 3 rfl<|
 .ix 0 3 rfl<|
 .ix 0 3 rfl<|
 .ix 1 3 rfl<|
 .cc (bz1 c.2.2.1 d.1.2.1) fun aw=>
 .ix 2 3 rfl<|
 .ix 1 3 rfl<|
 .ix 1 3 rfl<|
 .ix 1 3 rfl<|
 .cc (bz1 c.2.2.2.1 d.2.1.2.1) fun ax=>
 .cc (bzi aw ax) fun ay=>
 .ix 2 3 rfl<|
 .ix 2 3 rfl<|
 .ix 2 3 rfl<|
 .ix 1 3 rfl<|
 .cc (bz1 c.2.2.2.2 d.2.2.2.1) fun az=>
 .cc (bzi ay az) fun a0=>
 .ix 2 3 rfl<|
 .ix 1 3 rfl<|
 .lit 7001 (2)<|
 .known true<|
 .ix 2 3 rfl<|
 .ix 0 3 rfl<|
 .ix 0 3 rfl<|
 .ix 2 3 rfl<|
 .cc (bz1 c.2.2.1 d.1.2.2) fun a1=>
 .ix 2 3 rfl<|
 .ix 1 3 rfl<|
 .ix 1 3 rfl<|
 .ix 2 3 rfl<|
 .cc (bz1 c.2.2.2.1 d.2.1.2.2) fun a2=>
 .cc (bzi a1 a2) fun a3=>
 .ix 2 3 rfl<|
 .ix 2 3 rfl<|
 .ix 2 3 rfl<|
 .ix 2 3 rfl<|
 .cc (bz1 c.2.2.2.2 d.2.2.2.2) fun a4=>
 .cc (bzi a3 a4) fun a5=>
 .ix 2 3 rfl<|
 .ix 2 3 rfl<|
 .lit 7001 (3)<|
 .known false<|
 .lit 4001 (3)<|
 .known false<|
 .ret (((⟨(max (-65536) (min i.Lo 65536)),(max (-65536) (min i.Hi 65536))⟩:az0),(⟨(max (-65536) (min n.Lo 65536)),(max (-65536) (min n.Hi 65536))⟩:az0),(⟨(max (-65536) (min z.Lo 65536)),(max (-65536) (min z.Hi 65536))⟩:az0)),((⟨(max (-65536) (min ae.Lo 65536)),(max (-65536) (min ae.Hi 65536))⟩:az0),(⟨(max (-65536) (min aj.Lo 65536)),(max (-65536) (min aj.Hi 65536))⟩:az0),(⟨(max (-65536) (min ao.Lo 65536)),(max (-65536) (min ao.Hi 65536))⟩:az0)),((⟨(max (-65536) (min av.Lo 65536)),(max (-65536) (min av.Hi 65536))⟩:az0),(⟨(max (-65536) (min a0.Lo 65536)),(max (-65536) (min a0.Hi 65536))⟩:az0),(⟨(max (-65536) (min a5.Lo 65536)),(max (-65536) (min a5.Hi 65536))⟩:az0)))
noncomputable def szl (c)(d):=
 mkD Tryz.func232 (kzl c d) 0 [.pure (bza c),.pure (bza d)] [] (fun r=>.pure (bza r)) (fun _=>[])
noncomputable def ozv (c:B2)(d:Az):T Az:=
 .unroll 4<|
 .known true<|
 .ix 0 3 rfl<|
 .ix 0 3 rfl<|
 .ix 0 3 rfl<|
 .cc (bz1 c.1.1 d.1) fun e=>
 .ix 0 3 rfl<|
 .ix 1 3 rfl<|
 .ix 1 3 rfl<|
 .cc (bz1 c.1.2.1 d.2.1) fun f=>
 .cc (bzi e f) fun g=>
 .ix 0 3 rfl<|
 .ix 2 3 rfl<|
 .ix 2 3 rfl<|
 .cc (bz1 c.1.2.2 d.2.2) fun h=>
 .cc (bzi g h) fun i=>
 .ix 0 3 rfl<|
 .lit 4001 (1)<|
 .known true<|
 .ix 1 3 rfl<|
 .ix 0 3 rfl<|
 .ix 0 3 rfl<|
 .cc (bz1 c.2.1.1 d.1) fun j=>
 .ix 1 3 rfl<|
 .ix 1 3 rfl<|
 .ix 1 3 rfl<|
 .cc (bz1 c.2.1.2.1 d.2.1) fun k=>
 .cc (bzi j k) fun l=>
 .ix 1 3 rfl<|
 .ix 2 3 rfl<|
 .ix 2 3 rfl<|
 .cc (bz1 c.2.1.2.2 d.2.2) fun m=>
 .cc (bzi l m) fun n=>
 .ix 1 3 rfl<|
 .lit 4001 (2)<|
 .known true<|
 .ix 2 3 rfl<|
 .ix 0 3 rfl<|
 .ix 0 3 rfl<|
 .cc (bz1 c.2.2.1 d.1) fun s=>
 .ix 2 3 rfl<|
 .ix 1 3 rfl<|
 .ix 1 3 rfl<|
 .cc (bz1 c.2.2.2.1 d.2.1) fun t=>
 .cc (bzi s t) fun w=>
 .ix 2 3 rfl<|
 .ix 2 3 rfl<|
 .ix 2 3 rfl<|
 .cc (bz1 c.2.2.2.2 d.2.2) fun y=>
 .cc (bzi w y) fun z=>
 .ix 2 3 rfl<|
 .lit 4001 (3)<|
 .known false<|
 .ret (i,n,z)
noncomputable def ozu (c)(d):=
 mkD Tryz.func234 (ozv c d) 0 [.pure (bza c),.pure (az2 d)] [] (fun r=>.pure (az2 r)) (fun _=>[])
noncomputable def uz8 (c:Az)(d:Az):T Az:=
 .ix 0 3 rfl<|
 .ix 0 3 rfl<|
 .cc (bzi c.1 d.1) fun e=>
 .ix 1 3 rfl<|
 .ix 1 3 rfl<|
 .cc (bzi c.2.1 d.2.1) fun f=>
 .ix 2 3 rfl<|
 .ix 2 3 rfl<|
 .cc (bzi c.2.2 d.2.2) fun g=>
 .ret (e,f,g)
noncomputable def uz7 (c)(d):=
 mkD Tryz.func233 (uz8 c d) 0 [.pure (az2 c),.pure (az2 d)] [] (fun r=>.pure (az2 r)) (fun _=>[])
noncomputable def rzc (c:azr)(d:azr):T azr:=
 .cc (szl c.R d.R) fun e=>
 .cc (ozu c.R d.T) fun f=>
 .cc (uz7 c.T (f.1,f.2.1,f.2.2)) fun g=>
 .ret (⟨(e.1,e.2.1,e.2.2),g⟩:azr)
noncomputable def rzb (c)(d):=
 mkD Tryz.func199 (rzc c d) 0 [.pure (bzj c),.pure (bzj d)] [] (fun r=>.pure (bzj r)) (fun _=>[])
set_option maxHeartbeats 8000000 in
set_option maxRecDepth 20000 in
noncomputable def tzu (c:azo)(d:az0):T azr:=let e:=i64.wrap (c.Kind-4);let f:Nat×Res:=(1,.box [pz d.Lo,pz d.Hi]);let g:Nat×Res:=(0,.box [.pure (.str c.Name),pz c.Kind,pz c.Parent,pz c.Offset.1,pz c.Offset.2.1,pz c.Offset.2.2,pz c.Lo,pz c.Hi,pz c.Weight,pz c.Speed,pz c.Accel,pz c.Torque]);.cc (ref1_Rest_C) fun h=>let i:Nat×Res:=(3,.box [pz h.R.1.1.Lo,pz h.R.1.1.Hi,pz h.R.1.2.1.Lo,pz h.R.1.2.1.Hi,pz h.R.1.2.2.Lo,pz h.R.1.2.2.Hi,pz h.R.2.1.1.Lo,pz h.R.2.1.1.Hi,pz h.R.2.1.2.1.Lo,pz h.R.2.1.2.1.Hi,pz h.R.2.1.2.2.Lo,pz h.R.2.1.2.2.Hi,pz h.R.2.2.1.Lo,pz h.R.2.2.1.Hi,pz h.R.2.2.2.1.Lo,pz h.R.2.2.2.1.Hi,pz h.R.2.2.2.2.Lo,pz h.R.2.2.2.2.Hi,pz h.T.1.Lo,pz h.T.1.Hi,pz h.T.2.1.Lo,pz h.T.2.1.Hi,pz h.T.2.2.Lo,pz h.T.2.2.Hi]);
 .cut 0 (fun (j:Bj)=>⟨[(2,.ptr 0 0),(4,.ptr 1 0),(5,.ptr 2 0)],[g,(1,.box [pz 0,pz 0,pz 0,pz 0,pz 0,pz 0,pz 0,pz 0,pz 0,pz 0,pz 0,pz 0,pz 0,pz 0,pz 0,pz 0,pz 0,pz 0,pz 0,pz 0,pz 0,pz 0,pz 0,pz 0]),(2,.box [pz j.1,pz j.2.1,pz j.2.2.1,pz j.2.2.2.1,pz j.2.2.2.2.1,pz j.2.2.2.2.2.1,pz j.2.2.2.2.2.2.1,pz j.2.2.2.2.2.2.2.1,pz j.2.2.2.2.2.2.2.2.1,pz j.2.2.2.2.2.2.2.2.2.1,pz j.2.2.2.2.2.2.2.2.2.2.1,pz j.2.2.2.2.2.2.2.2.2.2.2.1,pz j.2.2.2.2.2.2.2.2.2.2.2.2.1,pz j.2.2.2.2.2.2.2.2.2.2.2.2.2.1,pz j.2.2.2.2.2.2.2.2.2.2.2.2.2.2.1,pz j.2.2.2.2.2.2.2.2.2.2.2.2.2.2.2.1,pz j.2.2.2.2.2.2.2.2.2.2.2.2.2.2.2.2.1,pz j.2.2.2.2.2.2.2.2.2.2.2.2.2.2.2.2.2.1,pz j.2.2.2.2.2.2.2.2.2.2.2.2.2.2.2.2.2.2.1,pz j.2.2.2.2.2.2.2.2.2.2.2.2.2.2.2.2.2.2.2.1,pz j.2.2.2.2.2.2.2.2.2.2.2.2.2.2.2.2.2.2.2.2.1,pz j.2.2.2.2.2.2.2.2.2.2.2.2.2.2.2.2.2.2.2.2.2.1,pz j.2.2.2.2.2.2.2.2.2.2.2.2.2.2.2.2.2.2.2.2.2.2.1,pz j.2.2.2.2.2.2.2.2.2.2.2.2.2.2.2.2.2.2.2.2.2.2.2])],[],3⟩)
 (.cut 1 (fun (j:Bool)=>⟨[(2,.ptr 0 0),(3,.ptr 1 0),(4,.ptr 2 0),(5,.ptr 3 0),(9,pz c.Kind),(10,.pure (.bool j))],[g,f,(2,.box [pz 0,pz 0,pz 0,pz 0,pz 0,pz 0,pz 0,pz 0,pz 0,pz 0,pz 0,pz 0,pz 0,pz 0,pz 0,pz 0,pz 0,pz 0,pz 0,pz 0,pz 0,pz 0,pz 0,pz 0]),i],[],4⟩)
 (.br (c.Kind==1)
 (.oo (c.Kind==1))
 (.br (c.Kind==2)
 (.oo (c.Kind==2))
 (.oo (c.Kind==3)))) fun j=>
 .br j
 (.cc (xzg (i64.wrap (c.Kind-1)) (⟨d.Lo,d.Hi⟩:az0)) fun k=>
 .oo (k.R.1.1.Lo,k.R.1.1.Hi,k.R.1.2.1.Lo,k.R.1.2.1.Hi,k.R.1.2.2.Lo,k.R.1.2.2.Hi,k.R.2.1.1.Lo,k.R.2.1.1.Hi,k.R.2.1.2.1.Lo,k.R.2.1.2.1.Hi,k.R.2.1.2.2.Lo,k.R.2.1.2.2.Hi,k.R.2.2.1.Lo,k.R.2.2.1.Hi,k.R.2.2.2.1.Lo,k.R.2.2.2.1.Hi,k.R.2.2.2.2.Lo,k.R.2.2.2.2.Hi,k.T.1.Lo,k.T.1.Hi,k.T.2.1.Lo,k.T.2.1.Hi,k.T.2.2.Lo,k.T.2.2.Hi))
 (.cut 0 (fun (k:Bool)=>⟨[(2,.ptr 0 0),(3,.ptr 1 0),(4,.ptr 2 0),(5,.ptr 3 0),(19,.pure (.bool k))],[g,f,(2,.box [pz 0,pz 0,pz 0,pz 0,pz 0,pz 0,pz 0,pz 0,pz 0,pz 0,pz 0,pz 0,pz 0,pz 0,pz 0,pz 0,pz 0,pz 0,pz 0,pz 0,pz 0,pz 0,pz 0,pz 0]),i],[],4⟩)
 (.br (c.Kind==4)
 (.oo (c.Kind==4))
 (.br (c.Kind==5)
 (.oo (c.Kind==5))
 (.oo (c.Kind==6)))) fun k=>
 .br k
 (.cut 1 (fun (l:Bd)=>⟨[(2,.ptr 0 0),(4,.ptr 1 0),(5,.ptr 2 0),(6,.ptr 3 0)],[g,(1,.box [pz 0,pz 0,pz 0,pz 0,pz 0,pz 0,pz 0,pz 0,pz 0,pz 0,pz 0,pz 0,pz 0,pz 0,pz 0,pz 0,pz 0,pz 0,pz 0,pz 0,pz 0,pz 0,pz 0,pz 0]),(2,.box [pz h.R.1.1.Lo,pz h.R.1.1.Hi,pz h.R.1.2.1.Lo,pz h.R.1.2.1.Hi,pz h.R.1.2.2.Lo,pz h.R.1.2.2.Hi,pz h.R.2.1.1.Lo,pz h.R.2.1.1.Hi,pz h.R.2.1.2.1.Lo,pz h.R.2.1.2.1.Hi,pz h.R.2.1.2.2.Lo,pz h.R.2.1.2.2.Hi,pz h.R.2.2.1.Lo,pz h.R.2.2.1.Hi,pz h.R.2.2.2.1.Lo,pz h.R.2.2.2.1.Hi,pz h.R.2.2.2.2.Lo,pz h.R.2.2.2.2.Hi,pz h.T.1.Lo,pz h.T.1.Hi,pz h.T.2.1.Lo,pz h.T.2.1.Hi,pz h.T.2.2.Lo,pz h.T.2.2.Hi]),(3,.box [pz l.1,pz l.2.1,pz l.2.2.1,pz l.2.2.2.1,pz l.2.2.2.2.1,pz l.2.2.2.2.2])],[],4⟩)
 (.cas 11002 e 0
 (.ix 0 3 rfl<|
 .oo (d.Lo,d.Hi,0,0,0,0))
 (.cas 11002 e 1
 (.ix 1 3 rfl<|
 .oo (0,0,d.Lo,d.Hi,0,0))
 (.cas 11002 e 2
 (.ix 2 3 rfl<|
 .oo (0,0,0,0,d.Lo,d.Hi))
 (.stop)))) fun l=>
 .cc (xzd ((⟨l.1,l.2.1⟩:az0),(⟨l.2.2.1,l.2.2.2.1⟩:az0),(⟨l.2.2.2.2.1,l.2.2.2.2.2⟩:az0))) fun m=>
 .oo (m.R.1.1.Lo,m.R.1.1.Hi,m.R.1.2.1.Lo,m.R.1.2.1.Hi,m.R.1.2.2.Lo,m.R.1.2.2.Hi,m.R.2.1.1.Lo,m.R.2.1.1.Hi,m.R.2.1.2.1.Lo,m.R.2.1.2.1.Hi,m.R.2.1.2.2.Lo,m.R.2.1.2.2.Hi,m.R.2.2.1.Lo,m.R.2.2.1.Hi,m.R.2.2.2.1.Lo,m.R.2.2.2.1.Hi,m.R.2.2.2.2.Lo,m.R.2.2.2.2.Hi,m.T.1.Lo,m.T.1.Hi,m.T.2.1.Lo,m.T.2.1.Hi,m.T.2.2.Lo,m.T.2.2.Hi))
 (.oo (h.R.1.1.Lo,h.R.1.1.Hi,h.R.1.2.1.Lo,h.R.1.2.1.Hi,h.R.1.2.2.Lo,h.R.1.2.2.Hi,h.R.2.1.1.Lo,h.R.2.1.1.Hi,h.R.2.1.2.1.Lo,h.R.2.1.2.1.Hi,h.R.2.1.2.2.Lo,h.R.2.1.2.2.Hi,h.R.2.2.1.Lo,h.R.2.2.1.Hi,h.R.2.2.2.1.Lo,h.R.2.2.2.1.Hi,h.R.2.2.2.2.Lo,h.R.2.2.2.2.Hi,h.T.1.Lo,h.T.1.Hi,h.T.2.1.Lo,h.T.2.1.Hi,h.T.2.2.Lo,h.T.2.2.Hi)))) fun j=>
 .cc (xzb c.Offset) fun k=>
 .cc (xzd k) fun l=>
 .cc (rzb (⟨l.R,l.T⟩:azr) (⟨(((⟨j.1,j.2.1⟩:az0),(⟨j.2.2.1,j.2.2.2.1⟩:az0),(⟨j.2.2.2.2.1,j.2.2.2.2.2.1⟩:az0)),((⟨j.2.2.2.2.2.2.1,j.2.2.2.2.2.2.2.1⟩:az0),(⟨j.2.2.2.2.2.2.2.2.1,j.2.2.2.2.2.2.2.2.2.1⟩:az0),(⟨j.2.2.2.2.2.2.2.2.2.2.1,j.2.2.2.2.2.2.2.2.2.2.2.1⟩:az0)),((⟨j.2.2.2.2.2.2.2.2.2.2.2.2.1,j.2.2.2.2.2.2.2.2.2.2.2.2.2.1⟩:az0),(⟨j.2.2.2.2.2.2.2.2.2.2.2.2.2.2.1,j.2.2.2.2.2.2.2.2.2.2.2.2.2.2.2.1⟩:az0),(⟨j.2.2.2.2.2.2.2.2.2.2.2.2.2.2.2.2.1,j.2.2.2.2.2.2.2.2.2.2.2.2.2.2.2.2.2.1⟩:az0))),((⟨j.2.2.2.2.2.2.2.2.2.2.2.2.2.2.2.2.2.2.1,j.2.2.2.2.2.2.2.2.2.2.2.2.2.2.2.2.2.2.2.1⟩:az0),(⟨j.2.2.2.2.2.2.2.2.2.2.2.2.2.2.2.2.2.2.2.2.1,j.2.2.2.2.2.2.2.2.2.2.2.2.2.2.2.2.2.2.2.2.2.1⟩:az0),(⟨j.2.2.2.2.2.2.2.2.2.2.2.2.2.2.2.2.2.2.2.2.2.2.1,j.2.2.2.2.2.2.2.2.2.2.2.2.2.2.2.2.2.2.2.2.2.2.2⟩:az0))⟩:azr)) fun m=>
 .ret m
noncomputable def Czn (c)(d):=
 mkD Tryz.func198 (tzu c d) 0 [.pure (az9 c),.pure (az7 d)] [] (fun r=>.pure (bzj r)) (fun _=>[])
set_option maxHeartbeats 8000000 in
set_option maxRecDepth 20000 in
noncomputable def tzw (c:azf)(d:A9):T Aa:=let e:=encL 2 az7 d;let f:Nat×Res:=(0,.box [.pure (encL 12 az9 c.Joints),.pure (encL 5 aze c.Masses)]);.cut 2 (fun (g:Bool)=>⟨[(1,.pure e),(2,.ptr 0 0),(16,.pure (.bool g))],[f],[],1⟩)
 (.cc (czn c) fun g=>
 .br (g !=0)
 (.oo true)
 (.cc (nzf c d) fun h=>
 .oo (!h))) fun g=>
 .br g
 (.ret nl)
 (.loop (fun (h:(Aa×Int))=>⟨[(1,.pure e),(2,.ptr 0 0),(5,.vec 1),(6,pz h.2)],[f,(1,vecO 24 bzj h.1 225)],[],2⟩)
 (.exit 0) (fun (h:Aa)=>⟨[(5,.vec 0)],[(0,vecO 24 bzj h 225)],[],1⟩)
 (fun h=>let i:=(h.2).toNat;let j:=c.Joints.getD i default;let k:=j.Parent;.br (decide (h.2<(d.length:Int)))
 (.gh h.2 c.Joints.length<|
 .gh h.2 d.length<|
 .cc (Czn j (d.getD i default)) fun l=>
 .cut 0 (fun (m:Bj)=>⟨[(1,.pure e),(2,.ptr 0 0),(5,.vec 1),(6,pz h.2),(7,.ptr 2 0)],[f,(1,vecO 24 bzj h.1 225),(2,.box [pz m.1,pz m.2.1,pz m.2.2.1,pz m.2.2.2.1,pz m.2.2.2.2.1,pz m.2.2.2.2.2.1,pz m.2.2.2.2.2.2.1,pz m.2.2.2.2.2.2.2.1,pz m.2.2.2.2.2.2.2.2.1,pz m.2.2.2.2.2.2.2.2.2.1,pz m.2.2.2.2.2.2.2.2.2.2.1,pz m.2.2.2.2.2.2.2.2.2.2.2.1,pz m.2.2.2.2.2.2.2.2.2.2.2.2.1,pz m.2.2.2.2.2.2.2.2.2.2.2.2.2.1,pz m.2.2.2.2.2.2.2.2.2.2.2.2.2.2.1,pz m.2.2.2.2.2.2.2.2.2.2.2.2.2.2.2.1,pz m.2.2.2.2.2.2.2.2.2.2.2.2.2.2.2.2.1,pz m.2.2.2.2.2.2.2.2.2.2.2.2.2.2.2.2.2.1,pz m.2.2.2.2.2.2.2.2.2.2.2.2.2.2.2.2.2.2.1,pz m.2.2.2.2.2.2.2.2.2.2.2.2.2.2.2.2.2.2.2.1,pz m.2.2.2.2.2.2.2.2.2.2.2.2.2.2.2.2.2.2.2.2.1,pz m.2.2.2.2.2.2.2.2.2.2.2.2.2.2.2.2.2.2.2.2.2.1,pz m.2.2.2.2.2.2.2.2.2.2.2.2.2.2.2.2.2.2.2.2.2.2.1,pz m.2.2.2.2.2.2.2.2.2.2.2.2.2.2.2.2.2.2.2.2.2.2.2])],[],3⟩)
 (.gh h.2 c.Joints.length<|
 .br (k !=(-1))
 (.gh h.2 c.Joints.length<|
 .gg k h.1.length<|
 .call (rzb (h.1.getD (k.toNat) default) l) [] fun m=>
 .oo (m.R.1.1.Lo,m.R.1.1.Hi,m.R.1.2.1.Lo,m.R.1.2.1.Hi,m.R.1.2.2.Lo,m.R.1.2.2.Hi,m.R.2.1.1.Lo,m.R.2.1.1.Hi,m.R.2.1.2.1.Lo,m.R.2.1.2.1.Hi,m.R.2.1.2.2.Lo,m.R.2.1.2.2.Hi,m.R.2.2.1.Lo,m.R.2.2.1.Hi,m.R.2.2.2.1.Lo,m.R.2.2.2.1.Hi,m.R.2.2.2.2.Lo,m.R.2.2.2.2.Hi,m.T.1.Lo,m.T.1.Hi,m.T.2.1.Lo,m.T.2.1.Hi,m.T.2.2.Lo,m.T.2.2.Hi))
 (.oo (l.R.1.1.Lo,l.R.1.1.Hi,l.R.1.2.1.Lo,l.R.1.2.1.Hi,l.R.1.2.2.Lo,l.R.1.2.2.Hi,l.R.2.1.1.Lo,l.R.2.1.1.Hi,l.R.2.1.2.1.Lo,l.R.2.1.2.1.Hi,l.R.2.1.2.2.Lo,l.R.2.1.2.2.Hi,l.R.2.2.1.Lo,l.R.2.2.1.Hi,l.R.2.2.2.1.Lo,l.R.2.2.2.1.Hi,l.R.2.2.2.2.Lo,l.R.2.2.2.2.Hi,l.T.1.Lo,l.T.1.Hi,l.T.2.1.Lo,l.T.2.1.Hi,l.T.2.2.Lo,l.T.2.2.Hi))) fun m=>let n:=([(⟨(((⟨m.1,m.2.1⟩:az0),(⟨m.2.2.1,m.2.2.2.1⟩:az0),(⟨m.2.2.2.2.1,m.2.2.2.2.2.1⟩:az0)),((⟨m.2.2.2.2.2.2.1,m.2.2.2.2.2.2.2.1⟩:az0),(⟨m.2.2.2.2.2.2.2.2.1,m.2.2.2.2.2.2.2.2.2.1⟩:az0),(⟨m.2.2.2.2.2.2.2.2.2.2.1,m.2.2.2.2.2.2.2.2.2.2.2.1⟩:az0)),((⟨m.2.2.2.2.2.2.2.2.2.2.2.2.1,m.2.2.2.2.2.2.2.2.2.2.2.2.2.1⟩:az0),(⟨m.2.2.2.2.2.2.2.2.2.2.2.2.2.2.1,m.2.2.2.2.2.2.2.2.2.2.2.2.2.2.2.1⟩:az0),(⟨m.2.2.2.2.2.2.2.2.2.2.2.2.2.2.2.2.1,m.2.2.2.2.2.2.2.2.2.2.2.2.2.2.2.2.2.1⟩:az0))),((⟨m.2.2.2.2.2.2.2.2.2.2.2.2.2.2.2.2.2.2.1,m.2.2.2.2.2.2.2.2.2.2.2.2.2.2.2.2.2.2.2.1⟩:az0),(⟨m.2.2.2.2.2.2.2.2.2.2.2.2.2.2.2.2.2.2.2.2.1,m.2.2.2.2.2.2.2.2.2.2.2.2.2.2.2.2.2.2.2.2.2.1⟩:az0),(⟨m.2.2.2.2.2.2.2.2.2.2.2.2.2.2.2.2.2.2.2.2.2.2.1,m.2.2.2.2.2.2.2.2.2.2.2.2.2.2.2.2.2.2.2.2.2.2.2⟩:az0))⟩:azr)]:Aa);let s:=h.1.length+n.length;
 .conv 10002 (czk 24 bzj n 225)<|
 .conv 10003 (ez5 24 bzj h.1 n 225)<|
 .grd (s * 192≤140737488355328/\s≤maxLen)<|
 .nn ((h.1++n),(i64.wrap (h.2+1))))
 (.oo h.1))
 (nl,0) [] fun h=>
 .ret h)
noncomputable def Czp (c)(d):=
 mkD Tryz.func153 (tzw c d) 0 [.pure (bzg c),.pure (encL 2 az7 d)] [] (fun r=>.pure (encL 24 bzj r)) (fun _=>[])
noncomputable def jz6 (c:bz8):T Bool:=let d:=(c.Points.length:Int);let e:Nat×Res:=(0,.box [pz c.Link,pz c.Radius,.pure (encL 3 az3 c.Points)]);.cut 2 (fun (f:Bool)=>⟨[(1,.ptr 0 0),(23,.pure (.bool f))],[e],[],1⟩)
 (.br (decide (c.Radius<1))
 (.oo true)
 (.br (decide (c.Radius>1048576))
 (.oo true)
 (.br (decide (d<1))
 (.oo true)
 (.oo (decide (d>8)))))) fun f=>
 .br f
 (.ret false)
 (.loop (fun (g:Int)=>⟨[(1,.ptr 0 0),(3,pz g)],[e],[],1⟩)
 (.exit 0) (fun (_:U0)=>⟨[],[],[],0⟩)
 (fun g=>.br (decide (g<d))
 (.gh g c.Points.length<|
 .cc (fzi (c.Points.getD (g.toNat) default) 4194304) fun h=>
 .br (!h)
 (.ff false)
 (.nn (i64.wrap (g+1))))
 (.oo .u))
 0 [] fun _=>
 .ret true)
noncomputable def qz0 (c):=
 mkD Tryz.func201 (jz6 c) 0 [.pure (azj c)] [] (fun r=>.pure (.bool r)) (fun _=>[])
noncomputable def xz8 (c:azr)(d:Az):T Az:=
 .cc (ozu c.R d) fun e=>
 .cc (uz7 c.T e) fun f=>
 .ret f
noncomputable def Fzo (c)(d):=
 mkD Tryz.func202 (xz8 c d) 0 [.pure (bzj c),.pure (az2 d)] [] (fun r=>.pure (az2 r)) (fun _=>[])
noncomputable def tzy (c:bz8)(d:azr):T B0:=
 .cc (qz0 c) fun e=>
 .br (!e)
 (.ret nl)
 (.loop (fun (f:(B0×Int))=>⟨[(2,.ptr 0 0),(3,.ptr 1 0),(5,.vec 2),(6,pz f.2)],[(0,.box [pz c.Link,pz c.Radius,.pure (encL 3 az3 c.Points)]),(1,.box [pz d.R.1.1.Lo,pz d.R.1.1.Hi,pz d.R.1.2.1.Lo,pz d.R.1.2.1.Hi,pz d.R.1.2.2.Lo,pz d.R.1.2.2.Hi,pz d.R.2.1.1.Lo,pz d.R.2.1.1.Hi,pz d.R.2.1.2.1.Lo,pz d.R.2.1.2.1.Hi,pz d.R.2.1.2.2.Lo,pz d.R.2.1.2.2.Hi,pz d.R.2.2.1.Lo,pz d.R.2.2.1.Hi,pz d.R.2.2.2.1.Lo,pz d.R.2.2.2.1.Hi,pz d.R.2.2.2.2.Lo,pz d.R.2.2.2.2.Hi,pz d.T.1.Lo,pz d.T.1.Hi,pz d.T.2.1.Lo,pz d.T.2.1.Hi,pz d.T.2.2.Lo,pz d.T.2.2.Hi]),(2,vecO 6 az2 f.1 183)],[],3⟩)
 (.exit 0) (fun (f:B0)=>⟨[(5,.vec 0)],[(0,vecO 6 az2 f 183)],[],1⟩)
 (fun f=>.br (decide (f.2<(c.Points.length:Int)))
 (.gh f.2 c.Points.length<|
 .cc (xzb (c.Points.getD ((f.2).toNat) default)) fun g=>
 .cc (Fzo (⟨d.R,d.T⟩:azr) g) fun h=>let i:=([h]:B0);let j:=f.1.length+i.length;
 .conv 7009 (czk 6 az2 i 183)<|
 .conv 7010 (ez5 6 az2 f.1 i 183)<|
 .grd (j * 48≤140737488355328/\j≤maxLen)<|
 .nn ((f.1++i),(i64.wrap (f.2+1))))
 (.oo f.1))
 (nl,0) [] fun f=>
 .ret f)
noncomputable def Czr (c)(d):=
 mkD Tryz.func155 (tzy c d) 0 [.pure (azj c),.pure (bzj d)] [] (fun r=>.pure (encL 6 az2 r)) (fun _=>[])
set_option maxHeartbeats 8000000 in
set_option maxRecDepth 20000 in
noncomputable def rz6 (c:azd)(d:A9):T B1:=let e:Nat×Res:=(0,.box [.pure (encL 12 az9 c.Robot.Joints),.pure (encL 5 aze c.Robot.Masses),.pure (encL 3 azj c.Shapes),.pure (encL 2 azw c.Skips)]);.cut 2 (fun (f:Bool)=>⟨[(1,.pure (encL 2 az7 d)),(2,.ptr 0 0),(18,.pure (.bool f))],[e],[],1⟩)
 (.cc (fzd c) fun f=>
 .br (f !=0)
 (.oo true)
 (.cc (nzf c.Robot d) fun g=>
 .oo (!g))) fun f=>
 .br f
 (.ret nl)
 (.cc (Czp c.Robot d) fun g=>let h:=encL 24 bzj g;
 .loop (fun (i:(B1×Int))=>⟨[(2,.ptr 0 0),(5,.pure h),(6,.vec 1),(7,pz i.2)],[e,(1,vecO 1 (encL 6 az2) i.1 123)],[],2⟩)
 (.exit 0) (fun (i:B1)=>⟨[(6,.vec 0)],[(0,vecO 1 (encL 6 az2) i 123)],[],1⟩)
 (fun i=>let j:=c.Shapes.getD ((i.2).toNat) default;let k:=j.Link;let l:=g.getD (k.toNat) default;.br (decide (i.2<(c.Shapes.length:Int)))
 (.cc (ref1_Rest_C) fun m=>
 .cut 0 (fun (n:Bj)=>⟨[(2,.ptr 0 0),(5,.pure h),(6,.vec 1),(7,pz i.2),(8,.ptr 2 0)],[e,(1,vecO 1 (encL 6 az2) i.1 123),(2,.box [pz n.1,pz n.2.1,pz n.2.2.1,pz n.2.2.2.1,pz n.2.2.2.2.1,pz n.2.2.2.2.2.1,pz n.2.2.2.2.2.2.1,pz n.2.2.2.2.2.2.2.1,pz n.2.2.2.2.2.2.2.2.1,pz n.2.2.2.2.2.2.2.2.2.1,pz n.2.2.2.2.2.2.2.2.2.2.1,pz n.2.2.2.2.2.2.2.2.2.2.2.1,pz n.2.2.2.2.2.2.2.2.2.2.2.2.1,pz n.2.2.2.2.2.2.2.2.2.2.2.2.2.1,pz n.2.2.2.2.2.2.2.2.2.2.2.2.2.2.1,pz n.2.2.2.2.2.2.2.2.2.2.2.2.2.2.2.1,pz n.2.2.2.2.2.2.2.2.2.2.2.2.2.2.2.2.1,pz n.2.2.2.2.2.2.2.2.2.2.2.2.2.2.2.2.2.1,pz n.2.2.2.2.2.2.2.2.2.2.2.2.2.2.2.2.2.2.1,pz n.2.2.2.2.2.2.2.2.2.2.2.2.2.2.2.2.2.2.2.1,pz n.2.2.2.2.2.2.2.2.2.2.2.2.2.2.2.2.2.2.2.2.1,pz n.2.2.2.2.2.2.2.2.2.2.2.2.2.2.2.2.2.2.2.2.2.1,pz n.2.2.2.2.2.2.2.2.2.2.2.2.2.2.2.2.2.2.2.2.2.2.1,pz n.2.2.2.2.2.2.2.2.2.2.2.2.2.2.2.2.2.2.2.2.2.2.2])],[],3⟩)
 (.gh i.2 c.Shapes.length<|
 .br (k !=(-1))
 (.gh i.2 c.Shapes.length<|
 .gh k g.length<|
 .oo (l.R.1.1.Lo,l.R.1.1.Hi,l.R.1.2.1.Lo,l.R.1.2.1.Hi,l.R.1.2.2.Lo,l.R.1.2.2.Hi,l.R.2.1.1.Lo,l.R.2.1.1.Hi,l.R.2.1.2.1.Lo,l.R.2.1.2.1.Hi,l.R.2.1.2.2.Lo,l.R.2.1.2.2.Hi,l.R.2.2.1.Lo,l.R.2.2.1.Hi,l.R.2.2.2.1.Lo,l.R.2.2.2.1.Hi,l.R.2.2.2.2.Lo,l.R.2.2.2.2.Hi,l.T.1.Lo,l.T.1.Hi,l.T.2.1.Lo,l.T.2.1.Hi,l.T.2.2.Lo,l.T.2.2.Hi))
 (.oo (m.R.1.1.Lo,m.R.1.1.Hi,m.R.1.2.1.Lo,m.R.1.2.1.Hi,m.R.1.2.2.Lo,m.R.1.2.2.Hi,m.R.2.1.1.Lo,m.R.2.1.1.Hi,m.R.2.1.2.1.Lo,m.R.2.1.2.1.Hi,m.R.2.1.2.2.Lo,m.R.2.1.2.2.Hi,m.R.2.2.1.Lo,m.R.2.2.1.Hi,m.R.2.2.2.1.Lo,m.R.2.2.2.1.Hi,m.R.2.2.2.2.Lo,m.R.2.2.2.2.Hi,m.T.1.Lo,m.T.1.Hi,m.T.2.1.Lo,m.T.2.1.Hi,m.T.2.2.Lo,m.T.2.2.Hi))) fun n=>
 .gh i.2 c.Shapes.length<|
 .cc (Czr j (⟨(((⟨n.1,n.2.1⟩:az0),(⟨n.2.2.1,n.2.2.2.1⟩:az0),(⟨n.2.2.2.2.1,n.2.2.2.2.2.1⟩:az0)),((⟨n.2.2.2.2.2.2.1,n.2.2.2.2.2.2.2.1⟩:az0),(⟨n.2.2.2.2.2.2.2.2.1,n.2.2.2.2.2.2.2.2.2.1⟩:az0),(⟨n.2.2.2.2.2.2.2.2.2.2.1,n.2.2.2.2.2.2.2.2.2.2.2.1⟩:az0)),((⟨n.2.2.2.2.2.2.2.2.2.2.2.2.1,n.2.2.2.2.2.2.2.2.2.2.2.2.2.1⟩:az0),(⟨n.2.2.2.2.2.2.2.2.2.2.2.2.2.2.1,n.2.2.2.2.2.2.2.2.2.2.2.2.2.2.2.1⟩:az0),(⟨n.2.2.2.2.2.2.2.2.2.2.2.2.2.2.2.2.1,n.2.2.2.2.2.2.2.2.2.2.2.2.2.2.2.2.2.1⟩:az0))),((⟨n.2.2.2.2.2.2.2.2.2.2.2.2.2.2.2.2.2.2.1,n.2.2.2.2.2.2.2.2.2.2.2.2.2.2.2.2.2.2.2.1⟩:az0),(⟨n.2.2.2.2.2.2.2.2.2.2.2.2.2.2.2.2.2.2.2.2.1,n.2.2.2.2.2.2.2.2.2.2.2.2.2.2.2.2.2.2.2.2.2.1⟩:az0),(⟨n.2.2.2.2.2.2.2.2.2.2.2.2.2.2.2.2.2.2.2.2.2.2.1,n.2.2.2.2.2.2.2.2.2.2.2.2.2.2.2.2.2.2.2.2.2.2.2⟩:az0))⟩:azr)) fun s=>let t:=([s]:B1);let w:=i.1.length+t.length;
 .conv 11008 (czk 1 (encL 6 az2) t 123)<|
 .conv 11009 (ez5 1 (encL 6 az2) i.1 t 123)<|
 .grd (w * 24≤140737488355328/\w≤maxLen)<|
 .nn ((i.1++t),(i64.wrap (i.2+1))))
 (.oo i.1))
 (nl,0) [] fun i=>
 .ret i)
noncomputable def zzr (c)(d):=
 mkD Tryz.func98 (rz6 c d) 0 [.pure (cz6 c),.pure (encL 2 az7 d)] [] (fun r=>.pure (encL 1 (encL 6 az2) r)) (fun _=>[])
noncomputable def xzn (c:azf)(d:Int):T A0:=let e:Nat×Res:=(0,.box [.pure (encL 12 az9 c.Joints),.pure (encL 5 aze c.Masses)]);.cut 2 (fun (f:Bool)=>⟨[(1,pz d),(2,.ptr 0 0),(15,.pure (.bool f))],[e],[],1⟩)
 (.cc (czn c) fun f=>
 .br (f !=0)
 (.oo true)
 (.cc (ez7 c d) fun g=>
 .oo (!g))) fun f=>
 .br f
 (.ret nl)
 (.loop (fun (g:A3)=>⟨[(2,.ptr 0 0),(5,.vec 1),(6,pz g.2)],[e,(1,vecO 1 az1 g.1 3)],[],2⟩)
 (.exit 0) (fun (g:A0)=>⟨[(5,.vec 0)],[(0,vecO 1 az1 g 3)],[],1⟩)
 (fun g=>let h:=([g.2]:A0);let i:=h.length+g.1.length;.br (g.2 !=(-1))
 (.conv 7001 (czk 1 az1 h 3)<|
 .conv 7003 (ez5 1 az1 h g.1 3)<|
 .grd (i * 8≤140737488355328/\i≤maxLen)<|
 .gh g.2 c.Joints.length<|
 .nn ((h++g.1),(c.Joints.getD ((g.2).toNat) default).Parent))
 (.oo g.1))
 (nl,d) [] fun g=>
 .ret g)
noncomputable def qz6 (c)(d):=
 mkD Tryz.func236 (xzn c d) 0 [.pure (bzg c),pz d] [] (fun r=>.pure (encL 1 az1 r)) (fun _=>[])
noncomputable def uzh (c:A0)(d:Int):T Bool:=
 .loop (fun (e:Int)=>⟨[(0,.pure (encL 1 az1 c)),(1,pz d),(5,pz e)],[],[],0⟩)
 (.exit 0) (fun (_:U0)=>⟨[],[],[],0⟩)
 (fun e=>.br (decide (e<(c.length:Int)))
 (.gh e c.length<|
 .br ((c.getD (e.toNat) default)==d)
 (.ff true)
 (.nn (i64.wrap (e+1))))
 (.oo .u))
 0 [] fun _=>
 .ret false
noncomputable def uzg (c)(d):=
 mkD Tryz.func237 (uzh c d) 0 [.pure (encL 1 az1 c),pz d] [] (fun r=>.pure (.bool r)) (fun _=>[])
noncomputable def rzk (c:azf)(d:Int)(e:Int):T A0:=let f:Nat×Res:=(0,.box [.pure (encL 12 az9 c.Joints),.pure (encL 5 aze c.Masses)]);.cut 2 (fun (g:Bool)=>⟨[(1,pz d),(2,pz e),(3,.ptr 0 0),(25,.pure (.bool g))],[f],[],1⟩)
 (.cc (czn c) fun g=>
 .br (g !=0)
 (.oo true)
 (.cc (ez7 c d) fun h=>
 .br (!h)
 (.oo true)
 (.cc (ez7 c e) fun i=>
 .oo (!i)))) fun g=>
 .br g
 (.ret nl)
 (.cc (qz6 c d) fun h=>let i:=encL 1 az1 h;
 .cc (qz6 c e) fun j=>let k:=encL 1 az1 j;
 .loop (fun (l:A3)=>⟨[(3,.ptr 0 0),(7,.pure i),(8,.pure k),(9,.vec 1),(10,pz l.2)],[f,(1,vecO 1 az1 l.1 3)],[],2⟩)
 (.exit 0) (fun (l:A0)=>⟨[(9,.vec 0)],[(0,vecO 1 az1 l 3)],[],1⟩)
 (fun l=>let m:=([l.2]:A0);let n:=l.1.length+m.length;.br (decide (l.2<(c.Joints.length:Int)))
 (.cut 0 (fun (s:A0)=>⟨[(3,.ptr 0 0),(7,.pure i),(8,.pure k),(9,.vec 1),(10,pz l.2)],[f,(1,vecO 1 az1 s 3)],[],2⟩)
 (.cc (uzg h l.2) fun s=>
 .cc (uzg j l.2) fun t=>
 .br (!(s==t))
 (.conv 9002 (czk 1 az1 m 3)<|
 .conv 9003 (ez5 1 az1 l.1 m 3)<|
 .grd (n * 8≤140737488355328/\n≤maxLen)<|
 .oo (l.1++m))
 (.oo l.1)) fun s=>
 .nn (s,(i64.wrap (l.2+1))))
 (.oo l.1))
 (nl,0) [] fun l=>
 .ret l)
noncomputable def Az1 (c)(d)(e):=
 mkD Tryz.func204 (rzk c d e) 0 [.pure (bzg c),pz d,pz e] [] (fun r=>.pure (encL 1 az1 r)) (fun _=>[])
noncomputable def xzp (c:azf)(d:Int)(e:Int):T Bool:=let f:Nat×Res:=(0,.box [.pure (encL 12 az9 c.Joints),.pure (encL 5 aze c.Masses)]);.cut 2 (fun (g:Bool)=>⟨[(1,pz d),(2,pz e),(3,.ptr 0 0),(23,.pure (.bool g))],[f],[],1⟩)
 (.cc (czn c) fun g=>
 .br (g !=0)
 (.oo true)
 (.cc (ez7 c d) fun h=>
 .br (!h)
 (.oo true)
 (.cc (ez7 c e) fun i=>
 .oo (!i)))) fun g=>
 .br g
 (.ret false)
 (.cc (Az1 (⟨c.Joints,c.Masses⟩:azf) d e) fun h=>
 .loop (fun (i:Int)=>⟨[(3,.ptr 0 0),(7,.pure (encL 1 az1 h)),(8,pz i)],[f],[],1⟩)
 (.exit 0) (fun (_:U0)=>⟨[],[],[],0⟩)
 (fun i=>let j:=h.getD (i.toNat) default;let k:=c.Joints.getD (j.toNat) default;.br (decide (i<(h.length:Int)))
 (.gh i h.length<|
 .gh j c.Joints.length<|
 .gh i h.length<|
 .gh j c.Joints.length<|
 .br (decide ((k.Lo)<(k.Hi)))
 (.ff false)
 (.nn (i64.wrap (i+1))))
 (.oo .u))
 0 [] fun _=>
 .ret true)
noncomputable def Fzu (c)(d)(e):=
 mkD Tryz.func156 (xzp c d e) 0 [.pure (bzg c),pz d,pz e] [] (fun r=>.pure (.bool r)) (fun _=>[])
noncomputable def rzl (c:azd)(d:Int)(e:Int):T Bool:=let f:Nat×Res:=(0,.box [.pure (encL 12 az9 c.Robot.Joints),.pure (encL 5 aze c.Robot.Masses),.pure (encL 3 azj c.Shapes),.pure (encL 2 azw c.Skips)]);.loop (fun (g:Int)=>⟨[(1,pz d),(2,pz e),(3,.ptr 0 0),(7,pz g)],[f],[],1⟩)
 (.exit 0) (fun (_:U0)=>⟨[],[],[],0⟩)
 (fun g=>let h:=c.Skips.getD (g.toNat) default;.br (decide (g<(c.Skips.length:Int)))
 (.gh g c.Skips.length<|
 .cut 0 (fun (i:Bool)=>⟨[(1,pz d),(2,pz e),(3,.ptr 0 0),(7,pz g),(42,.pure (.bool i))],[f],[],1⟩)
 (.br ((h.A)==d)
 (.br ((h.B)==e)
 (.oo true)
 (.br ((h.A)==e)
 (.oo ((h.B)==d))
 (.oo false)))
 (.br ((h.A)==e)
 (.oo ((h.B)==d))
 (.oo false))) fun i=>
 .br i
 (.ff true)
 (.nn (i64.wrap (g+1))))
 (.oo .u))
 0 [] fun _=>
 .ret false
noncomputable def Az2 (c)(d)(e):=
 mkD Tryz.func157 (rzl c d e) 0 [.pure (cz6 c),pz d,pz e] [] (fun r=>.pure (.bool r)) (fun _=>[])
noncomputable def xzo (c:azd):T Ab:=let d:=(c.Shapes.length:Nat);let e:Nat×Res:=(0,.box [.pure (encL 12 az9 c.Robot.Joints),.pure (encL 5 aze c.Robot.Masses),.pure (encL 3 azj c.Shapes),.pure (encL 2 azw c.Skips)]);.cc (fzd c) fun f=>
 .br (f !=0)
 (.ret nl)
 (.loop (fun (g:Ac)=>⟨[(1,.ptr 0 0),(3,.vec 1),(4,pz g.2)],[e,(1,vecO 2 dzi g.1 168)],[],2⟩)
 (.exit 0) (fun (g:Ab)=>⟨[(3,.vec 0)],[(0,vecO 2 dzi g 168)],[],1⟩)
 (fun g=>let h:=(c.Shapes.getD ((g.2).toNat) default).Link;let i:=i64.wrap (g.2+1);.br (decide (g.2<(d:Int)))
 (.loop (fun (j:Ac)=>⟨[(1,.ptr 0 0),(3,.vec 1),(4,pz g.2),(5,pz j.2)],[e,(1,vecO 2 dzi j.1 168)],[],2⟩)
 (.exit 2) (fun (j:Ab)=>⟨[(1,.ptr 0 0),(3,.vec 1),(4,pz g.2)],[e,(1,vecO 2 dzi j 168)],[],2⟩)
 (fun j=>let k:=([(⟨g.2,j.2⟩:bzx)]:Ab);let l:=j.1.length+k.length;let m:=(c.Shapes.getD ((j.2).toNat) default).Link;.br (decide (j.2<(d:Int)))
 (.cut 0 (fun (n:Ab)=>⟨[(1,.ptr 0 0),(3,.vec 1),(4,pz g.2),(5,pz j.2)],[e,(1,vecO 2 dzi n 168)],[],2⟩)
 (.gh g.2 c.Shapes.length<|
 .gh j.2 c.Shapes.length<|
 .cut 0 (fun (n:Bool)=>⟨[(1,.ptr 0 0),(3,.vec 1),(4,pz g.2),(5,pz j.2),(56,.pure (.bool n))],[e,(1,vecO 2 dzi j.1 168)],[],2⟩)
 (.br (h !=m)
 (.cc (Fzu c.Robot h m) fun n=>
 .br (!n)
 (.cc (Az2 c h m) fun s=>
 .oo (!s))
 (.oo false))
 (.oo false)) fun n=>
 .br n
 (.conv 12004 (czk 2 dzi k 168)<|
 .conv 12005 (ez5 2 dzi j.1 k 168)<|
 .grd (l * 16≤140737488355328/\l≤maxLen)<|
 .oo (j.1++k))
 (.oo j.1)) fun n=>
 .nn (n,(i64.wrap (j.2+1))))
 (.oo j.1))
 (g.1,i) [] fun j=>
 .nn (j,i))
 (.oo g.1))
 (nl,0) [] fun g=>
 .ret g)
noncomputable def Fzt (c):=
 mkD Tryz.func99 (xzo c) 0 [.pure (cz6 c)] [] (fun r=>.pure (encL 2 dzi r)) (fun _=>[])
noncomputable def uz4 (c:azd)(d:A9):T (Ad×Ad×Bool):=let e:=(⟨c.Robot,c.Shapes,c.Skips⟩:azd);let f:Nat×Res:=(0,.box [.pure (encL 12 az9 c.Robot.Joints),.pure (encL 5 aze c.Robot.Masses),.pure (encL 3 azj c.Shapes),.pure (encL 2 azw c.Skips)]);.cut 2 (fun (g:Bool)=>⟨[(1,.pure (encL 2 az7 d)),(2,.ptr 0 0),(23,.pure (.bool g))],[f],[],1⟩)
 (.cc (fzd e) fun g=>
 .br (g !=0)
 (.oo true)
 (.cc (nzf c.Robot d) fun h=>
 .oo (!h))) fun g=>
 .br g
 (.ret (nl,nl,false))
 (.cc (zzr e d) fun h=>
 .cc (Fzt c) fun i=>
 .loop (fun (j:(Ad×Ad×Int))=>⟨[(2,.ptr 0 0),(7,.pure (encL 1 (encL 6 az2) h)),(8,.vec 1),(9,.vec 2),(10,.pure (encL 2 dzi i)),(11,pz j.2.2)],[f,(1,vecO 2 bzn j.1 125),(2,vecO 2 bzn j.2.1 125)],[],3⟩)
 (.exit 0) (fun (j:(Ad×Ad))=>⟨[(8,.vec 0),(9,.vec 1)],[(0,vecO 2 bzn j.1 125),(1,vecO 2 bzn j.2 125)],[],2⟩)
 (fun j=>let k:=i.getD ((j.2.2).toNat) default;let l:=(k.A).toNat;let m:=(k.B).toNat;let n:=([(⟨(h.getD l default),(c.Shapes.getD l default).Radius⟩:azt)]:Ad);let s:=j.1.length+n.length;let t:=([(⟨(h.getD m default),(c.Shapes.getD m default).Radius⟩:azt)]:Ad);let w:=j.2.1.length+t.length;.br (decide (j.2.2<(i.length:Int)))
 (.gh j.2.2 i.length<|
 .gh j.2.2 i.length<|
 .gh (k.A) h.length<|
 .gh (k.A) c.Shapes.length<|
 .conv 10012 (czk 2 bzn n 125)<|
 .conv 10013 (ez5 2 bzn j.1 n 125)<|
 .grd (s * 32≤140737488355328/\s≤maxLen)<|
 .gh (k.B) h.length<|
 .gh (k.B) c.Shapes.length<|
 .conv 11012 (czk 2 bzn t 125)<|
 .conv 11013 (ez5 2 bzn j.2.1 t 125)<|
 .grd (w * 32≤140737488355328/\w≤maxLen)<|
 .nn ((j.1++n),(j.2.1++t),(i64.wrap (j.2.2+1))))
 (.oo (j.1,j.2.1)))
 (nl,nl,0) [] fun j=>
 .ret (j.1,j.2,true))
noncomputable def Czv (c)(d):=
 mkD Tryz.func62 (uz4 c d) 0 [.pure (cz6 c),.pure (encL 2 az7 d)] [] (fun r=>.tup [.pure (encL 2 bzn r.1),.pure (encL 2 bzn r.2.1),.pure (.bool r.2.2)]) (fun _=>[])
noncomputable def ozr (c:Az):T Bool:=let d:Nat×Res:=(0,.box [pz c.1.Lo,pz c.1.Hi,pz c.2.1.Lo,pz c.2.1.Hi,pz c.2.2.Lo,pz c.2.2.Hi]);.unroll 4<|
 .known true<|
 .cut 1 (fun (e:Bool)=>⟨[(1,.ptr 0 0),(3,pz 0),(30,.pure (.bool e))],[d],[],1⟩)
 (.ix 0 3 rfl<|
 .br (decide (c.1.Lo<(-268435456)))
 (.oo true)
 (.ix 0 3 rfl<|
 .ix 0 3 rfl<|
 .br (decide (c.1.Lo>c.1.Hi))
 (.oo true)
 (.ix 0 3 rfl<|
 .oo (decide (c.1.Hi>268435456))))) fun e=>
 .br e
 (.ret false)
 (.lit 3001 (1)<|
 .known true<|
 .cut 1 (fun (f:Bool)=>⟨[(1,.ptr 0 0),(3,pz 1),(30,.pure (.bool f))],[d],[],1⟩)
 (.ix 1 3 rfl<|
 .br (decide (c.2.1.Lo<(-268435456)))
 (.oo true)
 (.ix 1 3 rfl<|
 .ix 1 3 rfl<|
 .br (decide (c.2.1.Lo>c.2.1.Hi))
 (.oo true)
 (.ix 1 3 rfl<|
 .oo (decide (c.2.1.Hi>268435456))))) fun f=>
 .br f
 (.ret false)
 (.lit 3001 (2)<|
 .known true<|
 .cut 1 (fun (g:Bool)=>⟨[(1,.ptr 0 0),(3,pz 2),(30,.pure (.bool g))],[d],[],1⟩)
 (.ix 2 3 rfl<|
 .br (decide (c.2.2.Lo<(-268435456)))
 (.oo true)
 (.ix 2 3 rfl<|
 .ix 2 3 rfl<|
 .br (decide (c.2.2.Lo>c.2.2.Hi))
 (.oo true)
 (.ix 2 3 rfl<|
 .oo (decide (c.2.2.Hi>268435456))))) fun g=>
 .br g
 (.ret false)
 (.lit 3001 (3)<|
 .known false<|
 .ret true)))
noncomputable def ozq (c):=
 mkD Tryz.func164 (ozr c) 0 [.pure (az2 c)] [] (fun r=>.pure (.bool r)) (fun _=>[])
noncomputable def rz5 (c:B0):T Bool:=let d:=encL 6 az2 c;let e:=(c.length:Int);.loop (fun (f:Int)=>⟨[(0,.pure d),(3,pz f)],[],[],0⟩)
 (.exit 0) (fun (_:U0)=>⟨[(0,.pure d)],[],[],0⟩)
 (fun f=>.cut 1 (fun (g:Bool)=>⟨[(0,.pure d),(3,pz f),(11,.pure (.bool g))],[],[],0⟩)
 (.br (decide (f<e))
 (.oo (decide (f≤8)))
 (.oo false)) fun g=>
 .br g
 (.gh f c.length<|
 .cc (ozq (c.getD (f.toNat) default)) fun h=>
 .br (!h)
 (.ff false)
 (.nn (i64.wrap (f+1))))
 (.oo .u))
 0 [] fun _=>
 .br (decide (e≥1))
 (.ret (decide (e≤8)))
 (.ret false)
noncomputable def dzp (c):=
 mkD Tryz.func111 (rz5 c) 0 [.pure (encL 6 az2 c)] [] (fun r=>.pure (.bool r)) (fun _=>[])
noncomputable def hz8 (c:Int):T Bool:=
 .br (decide (c≥0))
 (.ret (decide (c≤1048576)))
 (.ret false)
noncomputable def eze (c):=
 mkD Tryz.func158 (hz8 c) 0 [pz c] [] (fun r=>.pure (.bool r)) (fun _=>[])
noncomputable def rz7 (c:Aw):T Bool:=
 .br (!((c.1==0)&&((c.2.1==0)&&((c.2.2==0)&&true))))
 (.cc (fzi c 16384) fun d=>
 .ret d)
 (.ret false)
noncomputable def ezd (c):=
 mkD Tryz.func159 (rz7 c) 0 [.pure (az3 c)] [] (fun r=>.pure (.bool r)) (fun _=>[])
noncomputable def Ezo (c:az0):T Int:=
 .cc (dzh c) fun d=>
 .br (!d)
 (.ret 0)
 (.cc (bz9 (i64.wrap (c.Lo+c.Hi)) 2) fun e=>
 .ret e)
noncomputable def yzj (c):=
 mkD Tryz.func112 (Ezo c) 0 [.pure (az7 c)] [] (fun r=>pz r) (fun _=>[])
noncomputable def ozm (c:B0):T Ax:=
 .cc (dzp c) fun d=>
 .br (!d)
 (.ret nl)
 (.loop (fun (e:(Ax×Int))=>⟨[(0,.pure (encL 6 az2 c)),(3,.vec 0),(4,pz e.2)],[(0,vecO 3 az3 e.1 62)],[],1⟩)
 (.exit 0) (fun (e:Ax)=>⟨[(3,.vec 0)],[(0,vecO 3 az3 e 62)],[],1⟩)
 (fun e=>let f:=c.getD ((e.2).toNat) default;.br (decide (e.2<(c.length:Int)))
 (.gh e.2 c.length<|
 .ix 0 3 rfl<|
 .cc (yzj (f.1)) fun g=>
 .gh e.2 c.length<|
 .ix 1 3 rfl<|
 .cc (yzj (f.2.1)) fun h=>
 .gh e.2 c.length<|
 .ix 2 3 rfl<|
 .cc (yzj (f.2.2)) fun i=>let j:=([(g,h,i)]:Ax);let k:=e.1.length+j.length;
 .conv 7020 (czk 3 az3 j 62)<|
 .conv 7021 (ez5 3 az3 e.1 j 62)<|
 .grd (k * 24≤140737488355328/\k≤maxLen)<|
 .nn ((e.1++j),(i64.wrap (e.2+1))))
 (.oo e.1))
 (nl,0) [] fun e=>
 .ret e)
noncomputable def dzd (c):=
 mkD Tryz.func65 (ozm c) 0 [.pure (encL 6 az2 c)] [] (fun r=>.pure (encL 3 az3 r)) (fun _=>[])
noncomputable def rz4 (c:Aw):T Ay:=
 .br ((c.1==0)&&((c.2.1==0)&&((c.2.2==0)&&true)))
 (.ret (c,false))
 (.loop (fun (d:Int)=>⟨[(1,.ptr 0 0),(2,.ptr 1 0),(4,pz d)],[(0,.box [pz c.1,pz c.2.1,pz c.2.2]),(1,.box [pz 0,pz 0,pz 0])],[],2⟩)
 .ret (fun (_:U0)=>⟨[],[],[],0⟩)
 (fun d=>let e:=i64.wrap (c.1.tdiv d);let f:=i64.wrap (c.2.1.tdiv d);let g:=i64.wrap (c.2.2.tdiv d);.ix 0 3 rfl<|
 .grd (d≠0)<|
 .ix 1 3 rfl<|
 .grd (d≠0)<|
 .ix 2 3 rfl<|
 .grd (d≠0)<|
 .cc (fzi (e,f,g) 16384) fun h=>
 .br h
 (.ff ((e,f,g),true))
 (.nn (i64.wrap (d * 2))))
 1 [] fun _=>
 .stop)
noncomputable def lz9 (c):=
 mkD Tryz.func106 (rz4 c) 0 [.pure (az3 c)] [] (fun r=>.tup [.pure (az3 r.1),.pure (.bool r.2)]) (fun _=>[])
set_option maxHeartbeats 8000000 in
set_option maxRecDepth 20000 in
noncomputable def xz3 (c:B0)(d:B0):T Ay:=
 .cut 2 (fun (e:Bool)=>⟨[(0,.pure (encL 6 az2 c)),(1,.pure (encL 6 az2 d)),(4,.ptr 0 0),(19,.pure (.bool e))],[(0,.box [pz 0,pz 0,pz 0])],[],1⟩)
 (.cc (dzp c) fun e=>
 .br (!e)
 (.oo true)
 (.cc (dzp d) fun f=>
 .oo (!f))) fun e=>
 .br e
 (.ret ((0,0,0),false))
 (.cc (dzd c) fun f=>let g:=encL 3 az3 f;let h:=(f.length:Int);
 .cc (dzd d) fun i=>let j:=encL 3 az3 i;let k:=(i.length:Int);
 .unroll 4<|
 .known true<|
 .loop (fun (l:Ah)=>⟨[(4,.ptr 0 0),(6,.ptr 1 0),(7,.pure g),(8,.pure j),(9,pz 0),(10,pz l.2)],[(0,.box [pz 0,pz 0,pz 0]),(1,.box [pz l.1,pz 0,pz 0])],[],2⟩)
 (.exit 2) (fun (l:Int)=>⟨[(4,.ptr 0 0),(6,.ptr 1 0),(7,.pure g),(8,.pure j),(9,pz 0)],[(0,.box [pz 0,pz 0,pz 0]),(1,.box [pz l,pz 0,pz 0])],[],2⟩)
 (fun l=>.br (decide (l.2<h))
 (.ix 0 3 rfl<|
 .gh l.2 f.length<|
 .ix 0 3 rfl<|
 .name 11012 ((i64.wrap (l.1+(i64.wrap (((f.getD ((l.2).toNat) default).1) * k))))) fun m=>
 .ix 0 3 rfl<|
 .nn (m,(i64.wrap (l.2+1))))
 (.oo l.1))
 (0,0) [] fun l=>
 .loop (fun (m:Ah)=>⟨[(4,.ptr 0 0),(6,.ptr 1 0),(7,.pure g),(8,.pure j),(9,pz 0),(11,pz m.2)],[(0,.box [pz 0,pz 0,pz 0]),(1,.box [pz m.1,pz 0,pz 0])],[],2⟩)
 (.exit 4) (fun (m:Int)=>⟨[(4,.ptr 0 0),(6,.ptr 1 0),(7,.pure g),(8,.pure j),(9,pz 0)],[(0,.box [pz 0,pz 0,pz 0]),(1,.box [pz m,pz 0,pz 0])],[],2⟩)
 (fun m=>.br (decide (m.2<k))
 (.ix 0 3 rfl<|
 .gh m.2 i.length<|
 .ix 0 3 rfl<|
 .name 15012 ((i64.wrap (m.1- (i64.wrap (((i.getD ((m.2).toNat) default).1) * h))))) fun n=>
 .ix 0 3 rfl<|
 .nn (n,(i64.wrap (m.2+1))))
 (.oo m.1))
 (l,0) [] fun m=>
 .lit 7001 (1)<|
 .known true<|
 .loop (fun (n:Ah)=>⟨[(4,.ptr 0 0),(6,.ptr 1 0),(7,.pure g),(8,.pure j),(9,pz 1),(10,pz n.2)],[(0,.box [pz 0,pz 0,pz 0]),(1,.box [pz m,pz n.1,pz 0])],[],2⟩)
 (.exit 2) (fun (n:Int)=>⟨[(4,.ptr 0 0),(6,.ptr 1 0),(7,.pure g),(8,.pure j),(9,pz 1)],[(0,.box [pz 0,pz 0,pz 0]),(1,.box [pz m,pz n,pz 0])],[],2⟩)
 (fun n=>.br (decide (n.2<h))
 (.ix 1 3 rfl<|
 .gh n.2 f.length<|
 .ix 1 3 rfl<|
 .name 11012 ((i64.wrap (n.1+(i64.wrap (((f.getD ((n.2).toNat) default).2.1) * k))))) fun s=>
 .ix 1 3 rfl<|
 .nn (s,(i64.wrap (n.2+1))))
 (.oo n.1))
 (0,0) [] fun n=>
 .loop (fun (s:Ah)=>⟨[(4,.ptr 0 0),(6,.ptr 1 0),(7,.pure g),(8,.pure j),(9,pz 1),(11,pz s.2)],[(0,.box [pz 0,pz 0,pz 0]),(1,.box [pz m,pz s.1,pz 0])],[],2⟩)
 (.exit 4) (fun (s:Int)=>⟨[(4,.ptr 0 0),(6,.ptr 1 0),(7,.pure g),(8,.pure j),(9,pz 1)],[(0,.box [pz 0,pz 0,pz 0]),(1,.box [pz m,pz s,pz 0])],[],2⟩)
 (fun s=>.br (decide (s.2<k))
 (.ix 1 3 rfl<|
 .gh s.2 i.length<|
 .ix 1 3 rfl<|
 .name 15012 ((i64.wrap (s.1- (i64.wrap (((i.getD ((s.2).toNat) default).2.1) * h))))) fun t=>
 .ix 1 3 rfl<|
 .nn (t,(i64.wrap (s.2+1))))
 (.oo s.1))
 (n,0) [] fun s=>
 .lit 7001 (2)<|
 .known true<|
 .loop (fun (t:Ah)=>⟨[(4,.ptr 0 0),(6,.ptr 1 0),(7,.pure g),(8,.pure j),(9,pz 2),(10,pz t.2)],[(0,.box [pz 0,pz 0,pz 0]),(1,.box [pz m,pz s,pz t.1])],[],2⟩)
 (.exit 2) (fun (t:Int)=>⟨[(4,.ptr 0 0),(6,.ptr 1 0),(7,.pure g),(8,.pure j),(9,pz 2)],[(0,.box [pz 0,pz 0,pz 0]),(1,.box [pz m,pz s,pz t])],[],2⟩)
 (fun t=>.br (decide (t.2<h))
 (.ix 2 3 rfl<|
 .gh t.2 f.length<|
 .ix 2 3 rfl<|
 .name 11012 ((i64.wrap (t.1+(i64.wrap (((f.getD ((t.2).toNat) default).2.2) * k))))) fun w=>
 .ix 2 3 rfl<|
 .nn (w,(i64.wrap (t.2+1))))
 (.oo t.1))
 (0,0) [] fun t=>
 .loop (fun (w:Ah)=>⟨[(4,.ptr 0 0),(6,.ptr 1 0),(7,.pure g),(8,.pure j),(9,pz 2),(11,pz w.2)],[(0,.box [pz 0,pz 0,pz 0]),(1,.box [pz m,pz s,pz w.1])],[],2⟩)
 (.exit 4) (fun (w:Int)=>⟨[(4,.ptr 0 0),(6,.ptr 1 0),(7,.pure g),(8,.pure j),(9,pz 2)],[(0,.box [pz 0,pz 0,pz 0]),(1,.box [pz m,pz s,pz w])],[],2⟩)
 (fun w=>.br (decide (w.2<k))
 (.ix 2 3 rfl<|
 .gh w.2 i.length<|
 .ix 2 3 rfl<|
 .name 15012 ((i64.wrap (w.1- (i64.wrap (((i.getD ((w.2).toNat) default).2.2) * h))))) fun y=>
 .ix 2 3 rfl<|
 .nn (y,(i64.wrap (w.2+1))))
 (.oo w.1))
 (t,0) [] fun w=>
 .lit 7001 (3)<|
 .known false<|
 .cc (lz9 (m,s,w)) fun y=>
 .ret (y.1,y.2))
noncomputable def lzq (c)(d):=
 mkD Tryz.func160 (xz3 c d) 0 [.pure (encL 6 az2 c),.pure (encL 6 az2 d)] [] (fun r=>.tup [.pure (az3 r.1),.pure (.bool r.2)]) (fun _=>[])
noncomputable def Pzc:T Ax:=
 .conv 1006 (czk 3 az3 ([(1,0,0),((-1),0,0),(0,1,0),(0,(-1),0),(0,0,1),(0,0,(-1))]:Ax) 62)<|
 .ret ([(1,0,0),((-1),0,0),(0,1,0),(0,(-1),0),(0,0,1),(0,0,(-1))]:Ax)
noncomputable def ref14_Axes_C:CallS Ax:=
 mkD Tryz.func161 (Pzc) 0 [] [] (fun r=>.pure (encL 3 az3 r)) (fun _=>[])
noncomputable def Bz3 (c:Ax):T Bool:=let d:=encL 3 az3 c;let e:=(c.length:Int);.loop (fun (f:Int)=>⟨[(0,.pure d),(3,pz f)],[],[],0⟩)
 (.exit 0) (fun (_:U0)=>⟨[(0,.pure d)],[],[],0⟩)
 (fun f=>.cut 1 (fun (g:Bool)=>⟨[(0,.pure d),(3,pz f),(11,.pure (.bool g))],[],[],0⟩)
 (.br (decide (f<e))
 (.oo (decide (f≤8)))
 (.oo false)) fun g=>
 .br g
 (.gh f c.length<|
 .cc (fzi (c.getD (f.toNat) default) 268435456) fun h=>
 .br (!h)
 (.ff false)
 (.nn (i64.wrap (f+1))))
 (.oo .u))
 0 [] fun _=>
 .br (decide (e≥1))
 (.ret (decide (e≤8)))
 (.ret false)
noncomputable def Bz2 (c):=
 mkD Tryz.func102 (Bz3 c) 0 [.pure (encL 3 az3 c)] [] (fun r=>.pure (.bool r)) (fun _=>[])
noncomputable def Bz1 (c:Ax)(d:A0):T Aw:=
 .loop (fun (e:Ba)=>⟨[(0,.pure (encL 3 az3 c)),(1,.pure (encL 1 az1 d)),(4,.ptr 0 0),(5,.ptr 1 0),(6,pz e.2.2.2)],[(0,.box [pz 0,pz 0,pz 0]),(1,.box [pz e.1,pz e.2.1,pz e.2.2.1])],[],2⟩)
 (.exit 0) (fun (e:Aw)=>⟨[(4,.ptr 0 0),(5,.ptr 1 0)],[(0,.box [pz 0,pz 0,pz 0]),(1,.box [pz e.1,pz e.2.1,pz e.2.2])],[],2⟩)
 (fun e=>let f:=(e.2.2.2).toNat;let g:=d.getD f default;let h:=c.getD f default;.br (decide (e.2.2.2<(c.length:Int)))
 (.unroll 4<|
 .known true<|
 .ix 0 3 rfl<|
 .gh e.2.2.2 d.length<|
 .gh e.2.2.2 c.length<|
 .ix 0 3 rfl<|
 .name 8014 ((i64.wrap (e.1+(i64.wrap (g * (h.1)))))) fun i=>
 .ix 0 3 rfl<|
 .lit 7001 (1)<|
 .known true<|
 .ix 1 3 rfl<|
 .gh e.2.2.2 d.length<|
 .gh e.2.2.2 c.length<|
 .ix 1 3 rfl<|
 .name 8014 ((i64.wrap (e.2.1+(i64.wrap (g * (h.2.1)))))) fun j=>
 .ix 1 3 rfl<|
 .lit 7001 (2)<|
 .known true<|
 .ix 2 3 rfl<|
 .gh e.2.2.2 d.length<|
 .gh e.2.2.2 c.length<|
 .ix 2 3 rfl<|
 .name 8014 ((i64.wrap (e.2.2.1+(i64.wrap (g * (h.2.2)))))) fun k=>
 .ix 2 3 rfl<|
 .lit 7001 (3)<|
 .known false<|
 .nn (i,j,k,(i64.wrap (e.2.2.2+1))))
 (.oo (e.1,e.2.1,e.2.2.1)))
 (0,0,0,0) [] fun e=>
 .ret (e.1,e.2.1,e.2.2)
noncomputable def uz2 (c)(d):=
 mkD Tryz.func104 (Bz1 c d) 0 [.pure (encL 3 az3 c),.pure (encL 1 az1 d)] [] (fun r=>.pure (az3 r)) (fun _=>[])
noncomputable def Mzx (c:Aw)(d:Aw):T Aw:=
 .ix 0 3 rfl<|
 .ix 0 3 rfl<|
 .ix 1 3 rfl<|
 .ix 1 3 rfl<|
 .ix 2 3 rfl<|
 .ix 2 3 rfl<|
 .ret ((i64.wrap (c.1-d.1)),(i64.wrap (c.2.1-d.2.1)),(i64.wrap (c.2.2-d.2.2)))
noncomputable def nzi (c)(d):=
 mkD Tryz.func103 (Mzx c d) 0 [.pure (az3 c),.pure (az3 d)] [] (fun r=>.pure (az3 r)) (fun _=>[])
noncomputable def xz5 (c:Aw)(d:Int):T Bool:=
 .unroll 4<|
 .known true<|
 .ix 0 3 rfl<|
 .ix 0 3 rfl<|
 .cc (azv (max c.1 (i64.wrap (0-c.1))) 65536) fun e=>
 .name 6004 ((i64.wrap (0+(i64.wrap (e * e))))) fun f=>
 .lit 4001 (1)<|
 .known true<|
 .ix 1 3 rfl<|
 .ix 1 3 rfl<|
 .cc (azv (max c.2.1 (i64.wrap (0-c.2.1))) 65536) fun g=>
 .name 6004 ((i64.wrap (f+(i64.wrap (g * g))))) fun h=>
 .lit 4001 (2)<|
 .known true<|
 .ix 2 3 rfl<|
 .ix 2 3 rfl<|
 .cc (azv (max c.2.2 (i64.wrap (0-c.2.2))) 65536) fun i=>
 .name 6004 ((i64.wrap (h+(i64.wrap (i * i))))) fun j=>
 .lit 4001 (3)<|
 .known false<|
 .ret (decide (j≤(i64.wrap (d * d))))
noncomputable def xz4 (c)(d):=
 mkD Tryz.func105 (xz5 c d) 0 [.pure (az3 c),pz d] [] (fun r=>.pure (.bool r)) (fun _=>[])
noncomputable def Rze (c:Aw)(d:Aw):T Int:=
 .ix 0 3 rfl<|
 .ix 0 3 rfl<|
 .ix 1 3 rfl<|
 .ix 1 3 rfl<|
 .ix 2 3 rfl<|
 .ix 2 3 rfl<|
 .name 1016 ((i64.wrap ((i64.wrap ((i64.wrap (c.1 * d.1))+(i64.wrap (c.2.1 * d.2.1))))+(i64.wrap (c.2.2 * d.2.2))))) fun e=>
 .ret e
noncomputable def hzy (c)(d):=
 mkD Tryz.func108 (Rze c d) 0 [.pure (az3 c),.pure (az3 d)] [] (fun r=>pz r) (fun _=>[])
noncomputable def ozs (c:Aw)(d:Ax)(e:Int):T Int:=let f:=encL 3 az3 d;let g:Nat×Res:=(0,.box [pz c.1,pz c.2.1,pz c.2.2]);.loop (fun (h:Ah)=>⟨[(1,.pure f),(2,pz e),(3,.ptr 0 0),(7,pz h.1),(8,pz h.2)],[g],[],1⟩)
 (.exit 0) (fun (h:Int)=>⟨[(7,pz h)],[],[],0⟩)
 (fun h=>.br (decide (h.2<(d.length:Int)))
 (.cut 0 (fun (i:Int)=>⟨[(1,.pure f),(2,pz e),(3,.ptr 0 0),(7,pz i),(8,pz h.2)],[g],[],1⟩)
 (.gh h.2 d.length<|
 .cc (hzy c (d.getD ((h.2).toNat) default)) fun i=>
 .gh h.1 d.length<|
 .cc (hzy c (d.getD ((h.1).toNat) default)) fun j=>
 .br (decide ((i64.wrap (e * i))<(i64.wrap (e * j))))
 (.oo h.2)
 (.oo h.1)) fun i=>
 .nn (i,(i64.wrap (h.2+1))))
 (.oo h.1))
 (0,1) [] fun h=>
 .ret h
noncomputable def jz9 (c)(d)(e):=
 mkD Tryz.func107 (ozs c d e) 0 [.pure (az3 c),.pure (encL 3 az3 d),pz e] [] (fun r=>pz r) (fun _=>[])
noncomputable def Bz6 (c:Int):T Int:=
 .br (decide (c<1))
 (.ret 0)
 (.loop (fun (d:Ah)=>⟨[(0,pz c),(3,pz d.1),(4,pz d.2)],[],[],0⟩)
 (.exit 0) (fun (d:Int)=>⟨[(3,pz d)],[],[],0⟩)
 (fun d=>let e:=i64.wrap (d.2-d.1);let f:=i64.wrap (d.1+(i64.wrap (e.tdiv 2)));.br (decide (e>1))
 (.ok ((2:Int)≠0) (by decide)<|
 .grd (f≠0)<|
 .br (decide (f≤(i64.wrap (c.tdiv f))))
 (.nn (f,d.2))
 (.nn (d.1,f)))
 (.oo d.1))
 (1,4294967296) [] fun d=>
 .ret d)
noncomputable def ozw (c):=
 mkD Tryz.func206 (Bz6 c) 0 [pz c] [] (fun r=>pz r) (fun _=>[])
noncomputable def uza (c:Int):T Int:=
 .cc (ozw c) fun d=>
 .cut 0 (fun (e:Int)=>⟨[(3,pz e)],[],[],0⟩)
 (.cut 0 (fun (e:Bool)=>⟨[(3,pz d),(14,.pure (.bool e))],[],[],0⟩)
 (.br (decide (c>0))
 (.oo (decide ((i64.wrap (d * d))<c)))
 (.oo false)) fun e=>
 .br e
 (.oo (i64.wrap (d+1)))
 (.oo d)) fun e=>
 .ret e
noncomputable def Czz (c):=
 mkD Tryz.func163 (uza c) 0 [pz c] [] (fun r=>pz r) (fun _=>[])
noncomputable def xz0 (c:Aw):T Int:=
 .cc (ezd (c.1,c.2.1,c.2.2)) fun d=>
 .br (!d)
 (.ret 0)
 (.ix 0 3 rfl<|
 .ix 0 3 rfl<|
 .ix 1 3 rfl<|
 .ix 1 3 rfl<|
 .ix 2 3 rfl<|
 .ix 2 3 rfl<|
 .name 3016 ((i64.wrap ((i64.wrap ((i64.wrap (c.1 * c.1))+(i64.wrap (c.2.1 * c.2.1))))+(i64.wrap (c.2.2 * c.2.2))))) fun e=>
 .cc (Czz e) fun f=>
 .ret f)
noncomputable def qz1 (c):=
 mkD Tryz.func109 (xz0 c) 0 [.pure (az3 c)] [] (fun r=>pz r) (fun _=>[])
noncomputable def uz1 (c:A0)(d:Int)(e:Int):T A0:=let f:=e.toNat;.grd (c.length * 8≤140737488355328/\c.length≤maxLen)<|
 .loop (fun (g:As)=>⟨[(1,pz d),(2,pz e),(7,.vec 0),(8,pz g.2.1),(9,pz g.2.2)],[(0,vecO 1 az1 g.1 2)],[],1⟩)
 (.exit 0) (fun (g:A3)=>⟨[(2,pz e),(7,.vec 0),(8,pz g.2)],[(0,vecO 1 az1 g.1 2)],[],1⟩)
 (fun g=>let h:=(g.2.2).toNat;let i:=g.1.getD h default;let j:=i64.wrap ((i64.wrap (i * d)).tdiv 256);.br (decide (g.2.2<(g.1.length:Int)))
 (.gg g.2.2 g.1.length<|
 .ok ((256:Int)≠0) (by decide)<|
 .gg g.2.2 g.1.length<|
 .name 7005 ((i64.wrap (i-j))) fun k=>
 .gh g.2.2 g.1.length<|
 .conv 7007 (bzm 1 az1 g.1 2 h k)<|
 .gi (g.2.2) g.1.length<|
 .name 8002 ((i64.wrap (g.2.1+j))) fun l=>
 .nn ((g.1.set h k),l,(i64.wrap (g.2.2+1))))
 (.oo (g.1,g.2.1)))
 (c,0,0) [] fun g=>let h:=i64.wrap ((g.1.getD f default)+g.2);
 .gg e g.1.length<|
 .gh e g.1.length<|
 .conv 9007 (bzm 1 az1 g.1 2 f h)<|
 .gi (e) g.1.length<|
 .ret (g.1.set f h)
noncomputable def nzh (c)(d)(e):=
 mkD Tryz.func110 (uz1 c d e) 0 [.pure (encL 1 az1 c),pz d,pz e] [] (fun _=>.vec 0) (fun r=>[(0,vecO 1 az1 r 2)])
set_option maxHeartbeats 8000000 in
set_option maxRecDepth 20000 in
noncomputable def rza (c:Ax)(d:Ax)(e:Int)(f:Int):T ez2:=let g:=encL 3 az3 c;let h:=encL 3 az3 d;let i:=(c.length:Int);let j:=(d.length:Int);let k:=List.replicate i.toNat (0:Int);let l:=List.replicate j.toNat (0:Int);.cut 2 (fun (m:Bool)=>⟨[(0,.pure g),(1,.pure h),(2,pz e),(3,pz f),(8,.ptr 0 0),(43,.pure (.bool m))],[(0,.box [pz 0,pz 0,pz 0,pz 0,.vec 1,.vec 2,pz 0]),(1,.nilv),(2,.nilv)],[],3⟩)
 (.cc (Bz2 c) fun m=>
 .br (!m)
 (.oo true)
 (.cc (Bz2 d) fun n=>
 .br (!n)
 (.oo true)
 (.br (decide (e<0))
 (.oo true)
 (.br (decide (e>2097152))
 (.oo true)
 (.br (decide (f<0))
 (.oo true)
 (.oo (decide (f>64)))))))) fun m=>
 .br m
 (.ret (⟨0,(0,0,0),nl,nl,0⟩:ez2))
 (.conv 3002 (Gz5 1 az1 2 i.toNat 0)<|
 .grd (0≤i/\i≤i/\i≤9223372036854775807/\i * 8≤140737488355328)<|
 .conv 3005 (Gz5 1 az1 2 j.toNat 0)<|
 .grd (0≤j/\j≤j/\j≤9223372036854775807/\j * 8≤140737488355328)<|
 .gh (0:Int) (k.length)<|
 .conv 4005 (bzm 1 az1 k 2 ((0:Int).toNat) 65536)<|
 .gi (0:Int) (k.length)<|
 .gh (0:Int) (l.length)<|
 .conv 4007 (bzm 1 az1 l 2 ((0:Int).toNat) 65536)<|
 .gi (0:Int) (l.length)<|
 .loop (fun (n:(Int×Int×Int×A0×A0×Int))=>⟨[(0,.pure g),(1,.pure h),(2,pz e),(3,pz f),(8,.ptr 0 0),(9,.ptr 3 0)],[(0,.box [pz 0,pz 0,pz 0,pz 0,.vec 1,.vec 2,pz 0]),(1,.nilv),(2,.nilv),(3,.box [pz 0,pz n.1,pz n.2.1,pz n.2.2.1,.vec 4,.vec 5,pz n.2.2.2.2.2]),(4,vecO 1 az1 n.2.2.2.1 2),(5,vecO 1 az1 n.2.2.2.2.1 2)],[],6⟩)
 .ret (fun (_:U0)=>⟨[],[],[],0⟩)
 (fun n=>.cc (uz2 c n.2.2.2.1) fun s=>
 .cc (uz2 d n.2.2.2.2.1) fun t=>
 .cc (nzi s t) fun w=>let y:=i64.wrap (w.1.tdiv 65536);let z:=i64.wrap (w.2.1.tdiv 65536);let aa:=i64.wrap (w.2.2.tdiv 65536);
 .cc (xz4 w e) fun ab=>
 .br ab
 (.ff (⟨2,(n.1,n.2.1,n.2.2.1),n.2.2.2.1,n.2.2.2.2.1,n.2.2.2.2.2⟩:ez2))
 (.ix 0 3 rfl<|
 .ok ((65536:Int)≠0) (by decide)<|
 .ix 1 3 rfl<|
 .ok ((65536:Int)≠0) (by decide)<|
 .ix 2 3 rfl<|
 .ok ((65536:Int)≠0) (by decide)<|
 .cc (lz9 (y,z,aa)) fun ac=>let ad:=(⟨0,ac.1,n.2.2.2.1,n.2.2.2.2.1,n.2.2.2.2.2⟩:ez2);
 .br (!ac.2)
 (.ff ad)
 (.cc (jz9 ac.1 c 1) fun ae=>let af:=c.getD (ae.toNat) default;
 .cc (jz9 ac.1 d (-1)) fun ag=>let ah:=d.getD (ag.toNat) default;
 .gh ae c.length<|
 .cc (hzy ac.1 af) fun ai=>
 .gh ag d.length<|
 .cc (hzy ac.1 ah) fun aj=>
 .cc (qz1 ac.1) fun ak=>
 .br (decide ((i64.wrap (ai-aj))>(i64.wrap (ak * e))))
 (.ff (⟨1,ac.1,n.2.2.2.1,n.2.2.2.2.1,n.2.2.2.2.2⟩:ez2))
 (.gh ae c.length<|
 .gh ag d.length<|
 .cc (nzi af ah) fun al=>
 .cc (nzi (y,z,aa) al) fun am=>
 .cc (hzy (y,z,aa) am) fun an=>
 .cc (hzy am am) fun ao=>let ap:=max 1 (i64.wrap (ao.tdiv 256));let aq:=min 256 (i64.wrap (an.tdiv ap));
 .cut 1 (fun (ar:Bool)=>⟨[(0,.pure g),(1,.pure h),(2,pz e),(3,pz f),(8,.ptr 0 0),(9,.ptr 3 0),(14,pz ae),(15,pz ag),(17,pz an),(18,pz ao),(142,.pure (.bool ar))],[(0,.box [pz 0,pz 0,pz 0,pz 0,.vec 1,.vec 2,pz 0]),(1,.nilv),(2,.nilv),(3,.box [pz 0,pz ac.1.1,pz ac.1.2.1,pz ac.1.2.2,.vec 4,.vec 5,pz n.2.2.2.2.2]),(4,vecS 1 az1 n.2.2.2.1 2),(5,vecS 1 az1 n.2.2.2.2.1 2)],[],6⟩)
 (.br (decide (n.2.2.2.2.2≥f))
 (.oo true)
 (.oo (decide (an≤0)))) fun ar=>
 .br ar
 (.ff ad)
 (.ok ((256:Int)≠0) (by decide)<|
 .grd (ap≠0)<|
 .br (aq==0)
 (.ff ad)
 (.call (nzh n.2.2.2.1 aq ae) [] fun au=>
 .call (nzh n.2.2.2.2.1 aq ag) [] fun av=>
 .nn (ac.1.1,ac.1.2.1,ac.1.2.2,au,av,(i64.wrap (n.2.2.2.2.2+1)))))))))
 (0,0,0,(k.set ((0:Int).toNat) 65536),(l.set ((0:Int).toNat) 65536),0) [] fun _=>
 .stop)
noncomputable def fz3 (c)(d)(e)(f):=
 mkD Tryz.func64 (rza c d e f) 0 [.pure (encL 3 az3 c),.pure (encL 3 az3 d),pz e,pz f] [] (fun r=>.pure (Qzk r)) (fun _=>[])
noncomputable def jz8 (c:B0)(d:Int)(e:B0)(f:Int)(g:Ax):T Ax:=let h:=encL 6 az2 c;let i:=encL 6 az2 e;let j:=encL 3 az3 g;.cut 2 (fun (k:Bool)=>⟨[(0,.pure h),(1,pz d),(2,.pure i),(3,pz f),(4,.pure j),(33,.pure (.bool k))],[],[],0⟩)
 (.cc (dzp c) fun k=>
 .br (!k)
 (.oo true)
 (.cc (dzp e) fun l=>
 .br (!l)
 (.oo true)
 (.cc (eze d) fun m=>
 .br (!m)
 (.oo true)
 (.cc (eze f) fun n=>
 .oo (!n))))) fun k=>
 .br k
 (.ret nl)
 (.loop (fun (l:(Ax×Int))=>⟨[(0,.pure h),(1,pz d),(2,.pure i),(3,pz f),(4,.pure j),(11,.vec 0),(12,pz l.2)],[(0,vecO 3 az3 l.1 62)],[],1⟩)
 (.exit 0) (fun (l:Ax)=>⟨[(0,.pure h),(1,pz d),(2,.pure i),(3,pz f),(11,.vec 0)],[(0,vecO 3 az3 l 62)],[],1⟩)
 (fun l=>let m:=g.getD ((l.2).toNat) default;let n:=([m]:Ax);let s:=l.1.length+n.length;.br (decide (l.2<(g.length:Int)))
 (.cut 0 (fun (t:Ax)=>⟨[(0,.pure h),(1,pz d),(2,.pure i),(3,pz f),(4,.pure j),(11,.vec 0),(12,pz l.2)],[(0,vecO 3 az3 t 62)],[],1⟩)
 (.gh l.2 g.length<|
 .cc (ezd m) fun t=>
 .br t
 (.gh l.2 g.length<|
 .conv 8005 (czk 3 az3 n 62)<|
 .conv 8006 (ez5 3 az3 l.1 n 62)<|
 .grd (s * 24≤140737488355328/\s≤maxLen)<|
 .oo (l.1++n))
 (.oo l.1)) fun t=>
 .nn (t,(i64.wrap (l.2+1))))
 (.oo l.1))
 (nl,0) [] fun l=>
 .cut 0 (fun (m:Ax)=>⟨[(0,.pure h),(1,pz d),(2,.pure i),(3,pz f),(11,.vec 0)],[(0,vecO 3 az3 m 62)],[],1⟩)
 (.cc (lzq c e) fun m=>let n:=([m.1]:Ax);let s:=l.length+n.length;
 .br m.2
 (.conv 11002 (czk 3 az3 n 62)<|
 .conv 11003 (ez5 3 az3 l n 62)<|
 .grd (s * 24≤140737488355328/\s≤maxLen)<|
 .oo (l++n))
 (.oo l)) fun m=>
 .cc (ref14_Axes_C) fun n=>let s:=m++n;let t:=m.length+n.length;
 .conv 12002 (ez5 3 az3 m n 62)<|
 .grd (t * 24≤140737488355328/\t≤maxLen)<|
 .cc (dzd c) fun w=>
 .cc (dzd e) fun y=>
 .cc (fz3 w y (i64.wrap (d+f)) 64) fun z=>let aa:=([z.Normal]:Ax);let ab:=s.length+aa.length;
 .cut 0 (fun (ac:Ax)=>⟨[(11,.vec 0)],[(0,vecO 3 az3 ac 62)],[],1⟩)
 (.cc (ezd z.Normal) fun ac=>
 .br ac
 (.conv 15003 (czk 3 az3 aa 62)<|
 .conv 15004 (ez5 3 az3 s aa 62)<|
 .grd (ab * 24≤140737488355328/\ab≤maxLen)<|
 .oo (s++aa))
 (.oo s)) fun ac=>
 .ret ac)
noncomputable def qz2 (c)(d)(e)(f)(g):=
 mkD Tryz.func100 (jz8 c d e f g) 0 [.pure (encL 6 az2 c),pz d,.pure (encL 6 az2 e),pz f,.pure (encL 3 az3 g)] [] (fun r=>.pure (encL 3 az3 r)) (fun _=>[])
noncomputable def Bz0 (c:Aw)(d:Az):T Ah:=let e:=i64.wrap (c.1 * d.1.Lo);let f:=i64.wrap (c.1 * d.1.Hi);let g:=i64.wrap (c.2.1 * d.2.1.Lo);let h:=i64.wrap (c.2.1 * d.2.1.Hi);let i:=i64.wrap (c.2.2 * d.2.2.Lo);let j:=i64.wrap (c.2.2 * d.2.2.Hi);.cut 2 (fun (k:Bool)=>⟨[(2,.ptr 0 0),(3,.ptr 1 0),(18,.pure (.bool k))],[(0,.box [pz c.1,pz c.2.1,pz c.2.2]),(1,.box [pz d.1.Lo,pz d.1.Hi,pz d.2.1.Lo,pz d.2.1.Hi,pz d.2.2.Lo,pz d.2.2.Hi])],[],2⟩)
 (.cc (ezd c) fun k=>
 .br (!k)
 (.oo true)
 (.cc (ozq d) fun l=>
 .oo (!l))) fun k=>
 .br k
 (.ret (0,0))
 (.unroll 4<|
 .known true<|
 .ix 0 3 rfl<|
 .ix 0 3 rfl<|
 .ix 0 3 rfl<|
 .ix 0 3 rfl<|
 .name 8004 ((i64.wrap (0+(min e f)))) fun l=>
 .name 9004 ((i64.wrap (0+(max e f)))) fun m=>
 .lit 6001 (1)<|
 .known true<|
 .ix 1 3 rfl<|
 .ix 1 3 rfl<|
 .ix 1 3 rfl<|
 .ix 1 3 rfl<|
 .name 8004 ((i64.wrap (l+(min g h)))) fun n=>
 .name 9004 ((i64.wrap (m+(max g h)))) fun s=>
 .lit 6001 (2)<|
 .known true<|
 .ix 2 3 rfl<|
 .ix 2 3 rfl<|
 .ix 2 3 rfl<|
 .ix 2 3 rfl<|
 .name 8004 ((i64.wrap (n+(min i j)))) fun t=>
 .name 9004 ((i64.wrap (s+(max i j)))) fun w=>
 .lit 6001 (3)<|
 .known false<|
 .ret (t,w))
noncomputable def Azz (c)(d):=
 mkD Tryz.func251 (Bz0 c d) 0 [.pure (az3 c),.pure (az2 d)] [] (fun r=>.tup [pz r.1,pz r.2]) (fun _=>[])
noncomputable def tzv (c:Aw)(d:B0):T B4:=let e:=encL 6 az2 d;let f:Nat×Res:=(0,.box [pz c.1,pz c.2.1,pz c.2.2]);.cut 2 (fun (g:Bool)=>⟨[(1,.pure e),(2,.ptr 0 0),(19,.pure (.bool g))],[f],[],1⟩)
 (.cc (ezd c) fun g=>
 .br (!g)
 (.oo true)
 (.cc (dzp d) fun h=>
 .oo (!h))) fun g=>
 .br g
 (.ret (0,0,false))
 (.loop (fun (h:Aw)=>⟨[(1,.pure e),(2,.ptr 0 0),(7,pz h.1),(8,pz h.2.1),(9,pz h.2.2)],[f],[],1⟩)
 (.exit 0) (fun (h:Ah)=>⟨[(7,pz h.1),(8,pz h.2)],[],[],0⟩)
 (fun h=>.br (decide (h.2.2<(d.length:Int)))
 (.cut 0 (fun (i:Ah)=>⟨[(1,.pure e),(2,.ptr 0 0),(7,pz i.1),(8,pz i.2),(9,pz h.2.2)],[f],[],1⟩)
 (.gh h.2.2 d.length<|
 .cc (Azz c (d.getD ((h.2.2).toNat) default)) fun i=>
 .cut 0 (fun (j:Bool)=>⟨[(1,.pure e),(2,.ptr 0 0),(7,pz h.1),(8,pz h.2.1),(9,pz h.2.2),(10,pz i.1),(41,.pure (.bool j))],[f],[],1⟩)
 (.br (h.2.2==0)
 (.oo true)
 (.oo (decide (i.1<h.1)))) fun j=>
 .br j
 (.oo (i.1,h.2.2))
 (.oo (h.1,h.2.1))) fun i=>
 .nn (i.1,i.2,(i64.wrap (h.2.2+1))))
 (.oo (h.1,h.2.1)))
 (0,0,0) [] fun h=>
 .ret (h.1,h.2,true))
noncomputable def Czo (c)(d):=
 mkD Tryz.func238 (tzv c d) 0 [.pure (az3 c),.pure (encL 6 az2 d)] [] (fun r=>.tup [pz r.1,pz r.2.1,.pure (.bool r.2.2)]) (fun _=>[])
noncomputable def mzl (c:Aw)(d:B0):T B4:=let e:=encL 6 az2 d;let f:Nat×Res:=(0,.box [pz c.1,pz c.2.1,pz c.2.2]);.cut 2 (fun (g:Bool)=>⟨[(1,.pure e),(2,.ptr 0 0),(19,.pure (.bool g))],[f],[],1⟩)
 (.cc (ezd c) fun g=>
 .br (!g)
 (.oo true)
 (.cc (dzp d) fun h=>
 .oo (!h))) fun g=>
 .br g
 (.ret (0,0,false))
 (.loop (fun (h:Aw)=>⟨[(1,.pure e),(2,.ptr 0 0),(7,pz h.1),(8,pz h.2.1),(9,pz h.2.2)],[f],[],1⟩)
 (.exit 0) (fun (h:Ah)=>⟨[(7,pz h.1),(8,pz h.2)],[],[],0⟩)
 (fun h=>.br (decide (h.2.2<(d.length:Int)))
 (.cut 0 (fun (i:Ah)=>⟨[(1,.pure e),(2,.ptr 0 0),(7,pz i.1),(8,pz i.2),(9,pz h.2.2)],[f],[],1⟩)
 (.gh h.2.2 d.length<|
 .cc (Azz c (d.getD ((h.2.2).toNat) default)) fun i=>
 .cut 0 (fun (j:Bool)=>⟨[(1,.pure e),(2,.ptr 0 0),(7,pz h.1),(8,pz h.2.1),(9,pz h.2.2),(11,pz i.2),(41,.pure (.bool j))],[f],[],1⟩)
 (.br (h.2.2==0)
 (.oo true)
 (.oo (decide (i.2>h.1)))) fun j=>
 .br j
 (.oo (i.2,h.2.2))
 (.oo (h.1,h.2.1))) fun i=>
 .nn (i.1,i.2,(i64.wrap (h.2.2+1))))
 (.oo (h.1,h.2.1)))
 (0,0,0) [] fun h=>
 .ret (h.1,h.2,true))
noncomputable def vzc (c)(d):=
 mkD Tryz.func239 (mzl c d) 0 [.pure (az3 c),.pure (encL 6 az2 d)] [] (fun r=>.tup [pz r.1,pz r.2.1,.pure (.bool r.2.2)]) (fun _=>[])
noncomputable def rz9 (c:Aw)(d:B0)(e:Int)(f:B0)(g:Int):T Am:=
 .cc (Czo c d) fun h=>
 .cc (vzc c f) fun i=>
 .cut 1 (fun (j:Bool)=>⟨[(2,pz e),(4,pz g),(5,.ptr 0 0),(12,pz h.1),(15,pz i.1),(47,.pure (.bool j))],[(0,.box [pz c.1,pz c.2.1,pz c.2.2])],[],1⟩)
 (.br (!h.2.2)
 (.oo true)
 (.br (!i.2.2)
 (.oo true)
 (.cc (eze e) fun j=>
 .br (!j)
 (.oo true)
 (.cc (eze g) fun k=>
 .oo (!k))))) fun j=>
 .br j
 (.ret (0,false))
 (.cc (qz1 c) fun k=>
 .ret ((i64.wrap ((i64.wrap (h.1-i.1))- (i64.wrap (k * (i64.wrap (e+g)))))),true))
noncomputable def zzt (c)(d)(e)(f)(g):=
 mkD Tryz.func205 (rz9 c d e f g) 0 [.pure (az3 c),.pure (encL 6 az2 d),pz e,.pure (encL 6 az2 f),pz g] [] (fun r=>.tup [pz r.1,.pure (.bool r.2)]) (fun _=>[])
end Go.Abs
