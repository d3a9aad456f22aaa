/-
 D3 (a part of a claim: our own text).
-/
import Derived.Test.YtfodaccgmcljoaaGreatYBM2
namespace Go.Abs
open IntKind (i64)
open Go.Proofs
set_option maxHeartbeats 8000000 in
set_option maxRecDepth 20000 in
noncomputable def kz4 (c : Av) (d : Av) : T Av :=
 .unroll 4 <|
 .known true <|
 .unroll 4 <|
 .known true <|
 .unroll 4 <|
 .known true <|
 .ix 0 3 rfl <|
 .ix 0 3 rfl <|
 .ix 0 3 rfl <|
 .ix 0 3 rfl <|
 .cc (azk c.1.1 d.1.1) fun e =>
 .cc (azi (⟨0, 0⟩ : az0) e) fun f =>
 .lit 13000 (1) <|
 .known true <|
 .ix 0 3 rfl <|
 .ix 1 3 rfl <|
 .ix 1 3 rfl <|
 .ix 0 3 rfl <|
 .cc (azk c.1.2.1 d.2.1.1) fun g =>
 .cc (azi f g) fun h =>
 .lit 13000 (2) <|
 .known true <|
 .ix 0 3 rfl <|
 .ix 2 3 rfl <|
 .ix 2 3 rfl <|
 .ix 0 3 rfl <|
 .cc (azk c.1.2.2 d.2.2.1) fun i =>
 .cc (azi h i) fun j =>
 .lit 13000 (3) <|
 .known false <|
 .cc (azx j.Lo) fun k =>
 .cc (azx j.Hi) fun m =>
 .ix 0 3 rfl <|
 .ix 0 3 rfl <|
 .lit 15000 (1) <|
 .known true <|
 .unroll 4 <|
 .known true <|
 .ix 0 3 rfl <|
 .ix 0 3 rfl <|
 .ix 0 3 rfl <|
 .ix 1 3 rfl <|
 .cc (azk c.1.1 d.1.2.1) fun n =>
 .cc (azi (⟨0, 0⟩ : az0) n) fun q =>
 .lit 13000 (1) <|
 .known true <|
 .ix 0 3 rfl <|
 .ix 1 3 rfl <|
 .ix 1 3 rfl <|
 .ix 1 3 rfl <|
 .cc (azk c.1.2.1 d.2.1.2.1) fun s =>
 .cc (azi q s) fun t =>
 .lit 13000 (2) <|
 .known true <|
 .ix 0 3 rfl <|
 .ix 2 3 rfl <|
 .ix 2 3 rfl <|
 .ix 1 3 rfl <|
 .cc (azk c.1.2.2 d.2.2.2.1) fun w =>
 .cc (azi t w) fun y =>
 .lit 13000 (3) <|
 .known false <|
 .cc (azx y.Lo) fun z =>
 .cc (azx y.Hi) fun aa =>
 .ix 0 3 rfl <|
 .ix 1 3 rfl <|
 .lit 15000 (2) <|
 .known true <|
 .unroll 4 <|
 .known true <|
 .ix 0 3 rfl <|
 .ix 0 3 rfl <|
 .ix 0 3 rfl <|
 .ix 2 3 rfl <|
 .cc (azk c.1.1 d.1.2.2) fun ab =>
 .cc (azi (⟨0, 0⟩ : az0) ab) fun ac =>
 .lit 13000 (1) <|
 .known true <|
 .ix 0 3 rfl <|
 .ix 1 3 rfl <|
 .ix 1 3 rfl <|
 .ix 2 3 rfl <|
 .cc (azk c.1.2.1 d.2.1.2.2) fun ad =>
 .cc (azi ac ad) fun ae =>
 .lit 13000 (2) <|
 .known true <|
 .ix 0 3 rfl <|
 .ix 2 3 rfl <|
 .ix 2 3 rfl <|
 .ix 2 3 rfl <|
 .cc (azk c.1.2.2 d.2.2.2.2) fun af =>
 .cc (azi ae af) fun ag =>
 .lit 13000 (3) <|
 .known false <|
 .cc (azx ag.Lo) fun ah =>
 .cc (azx ag.Hi) fun ai =>
 .ix 0 3 rfl <|
 .ix 2 3 rfl <|
 .lit 15000 (3) <|
 .known false <|
 .lit 16000 (1) <|
 .known true <|
 .unroll 4 <|
 .known true <|
 .unroll 4 <|
 .known true <|
 .ix 1 3 rfl <|
 .ix 0 3 rfl <|
 .ix 0 3 rfl <|
 .ix 0 3 rfl <|
 .cc (azk c.2.1.1 d.1.1) fun aj =>
 .cc (azi (⟨0, 0⟩ : az0) aj) fun ak =>
 .lit 13000 (1) <|
 .known true <|
 .ix 1 3 rfl <|
 .ix 1 3 rfl <|
 .ix 1 3 rfl <|
 .ix 0 3 rfl <|
 .cc (azk c.2.1.2.1 d.2.1.1) fun al =>
 .cc (azi ak al) fun am =>
 .lit 13000 (2) <|
 .known true <|
 .ix 1 3 rfl <|
 .ix 2 3 rfl <|
 .ix 2 3 rfl <|
 .ix 0 3 rfl <|
 .cc (azk c.2.1.2.2 d.2.2.1) fun an =>
 .cc (azi am an) fun ao =>
 .lit 13000 (3) <|
 .known false <|
 .cc (azx ao.Lo) fun ap =>
 .cc (azx ao.Hi) fun aq =>
 .ix 1 3 rfl <|
 .ix 0 3 rfl <|
 .lit 15000 (1) <|
 .known true <|
 .unroll 4 <|
 .known true <|
 .ix 1 3 rfl <|
 .ix 0 3 rfl <|
 .ix 0 3 rfl <|
 .ix 1 3 rfl <|
 .cc (azk c.2.1.1 d.1.2.1) fun ar =>
 .cc (azi (⟨0, 0⟩ : az0) ar) fun au =>
 .lit 13000 (1) <|
 .known true <|
 .ix 1 3 rfl <|
 .ix 1 3 rfl <|
 .ix 1 3 rfl <|
 .ix 1 3 rfl <|
 .cc (azk c.2.1.2.1 d.2.1.2.1) fun av =>
 .cc (azi au av) fun aw =>
 .lit 13000 (2) <|
 .known true <|
 .ix 1 3 rfl <|
 .ix 2 3 rfl <|
 .ix 2 3 rfl <|
 .ix 1 3 rfl <|
 .cc (azk c.2.1.2.2 d.2.2.2.1) fun ax =>
 .cc (azi aw ax) fun ay =>
 .lit 13000 (3) <|
 .known false <|
 .cc (azx ay.Lo) fun az =>
 .cc (azx ay.Hi) fun a0 =>
 .ix 1 3 rfl <|
 .ix 1 3 rfl <|
 .lit 15000 (2) <|
 .known true <|
 .unroll 4 <|
 .known true <|
 .ix 1 3 rfl <|
 .ix 0 3 rfl <|
 .ix 0 3 rfl <|
 .ix 2 3 rfl <|
 .cc (azk c.2.1.1 d.1.2.2) fun a1 =>
 .cc (azi (⟨0, 0⟩ : az0) a1) fun a2 =>
 .lit 13000 (1) <|
 .known true <|
 .ix 1 3 rfl <|
 .ix 1 3 rfl <|
 .ix 1 3 rfl <|
 .ix 2 3 rfl <|
 .cc (azk c.2.1.2.1 d.2.1.2.2) fun a3 =>
 .cc (azi a2 a3) fun a4 =>
 .lit 13000 (2) <|
 .known true <|
 .ix 1 3 rfl <|
 .ix 2 3 rfl <|
 .ix 2 3 rfl <|
 .ix 2 3 rfl <|
 .cc (azk c.2.1.2.2 d.2.2.2.2) fun a5 =>
 .cc (azi a4 a5) fun a6 =>
 .lit 13000 (3) <|
 .known false <|
 .cc (azx a6.Lo) fun a7 =>
 .cc (azx a6.Hi) fun a8 =>
 .ix 1 3 rfl <|
 .ix 2 3 rfl <|
 .lit 15000 (3) <|
 .known false <|
 .lit 16000 (2) <|
 .known true <|
 .unroll 4 <|
 .known true <|
 .unroll 4 <|
 .known true <|
 .ix 2 3 rfl <|
 .ix 0 3 rfl <|
 .ix 0 3 rfl <|
 .ix 0 3 rfl <|
 .cc (azk c.2.2.1 d.1.1) fun a9 =>
 .cc (azi (⟨0, 0⟩ : az0) a9) fun ba =>
 .lit 13000 (1) <|
 .known true <|
 .ix 2 3 rfl <|
 .ix 1 3 rfl <|
 .ix 1 3 rfl <|
 .ix 0 3 rfl <|
 .cc (azk c.2.2.2.1 d.2.1.1) fun bb =>
 .cc (azi ba bb) fun bc =>
 .lit 13000 (2) <|
 .known true <|
 .ix 2 3 rfl <|
 .ix 2 3 rfl <|
 .ix 2 3 rfl <|
 .ix 0 3 rfl <|
 .cc (azk c.2.2.2.2 d.2.2.1) fun bd =>
 .cc (azi bc bd) fun be =>
 .lit 13000 (3) <|
 .known false <|
 .cc (azx be.Lo) fun bf =>
 .cc (azx be.Hi) fun bg =>
 .ix 2 3 rfl <|
 .ix 0 3 rfl <|
 .lit 15000 (1) <|
 .known true <|
 .unroll 4 <|
 .known true <|
 .ix 2 3 rfl <|
 .ix 0 3 rfl <|
 .ix 0 3 rfl <|
 .ix 1 3 rfl <|
 .cc (azk c.2.2.1 d.1.2.1) fun bh =>
 .cc (azi (⟨0, 0⟩ : az0) bh) fun bi =>
 .lit 13000 (1) <|
 .known true <|
 .ix 2 3 rfl <|
 .ix 1 3 rfl <|
 .ix 1 3 rfl <|
 .ix 1 3 rfl <|
 .cc (azk c.2.2.2.1 d.2.1.2.1) fun bj =>
 .cc (azi bi bj) fun bk =>
 .lit 13000 (2) <|
 .known true <|
 .ix 2 3 rfl <|
 .ix 2 3 rfl <|
 .ix 2 3 rfl <|
 .ix 1 3 rfl <|
 .cc (azk c.2.2.2.2 d.2.2.2.1) fun bl =>
 .cc (azi bk bl) fun bm =>
 .lit 13000 (3) <|
 .known false <|
 .cc (azx bm.Lo) fun bn =>
 .cc (azx bm.Hi) fun bo =>
 .ix 2 3 rfl <|
 .ix 1 3 rfl <|
 .lit 15000 (2) <|
 .known true <|
 .unroll 4 <|
 .known true <|
 .ix 2 3 rfl <|
 .ix 0 3 rfl <|
 .ix 0 3 rfl <|
 .ix 2 3 rfl <|
 .cc (azk c.2.2.1 d.1.2.2) fun bp =>
 .cc (azi (⟨0, 0⟩ : az0) bp) fun bq =>
 .lit 13000 (1) <|
 .known true <|
 .ix 2 3 rfl <|
 .ix 1 3 rfl <|
 .ix 1 3 rfl <|
 .ix 2 3 rfl <|
 .cc (azk c.2.2.2.1 d.2.1.2.2) fun bs =>
 .cc (azi bq bs) fun bt =>
 .lit 13000 (2) <|
 .known true <|
 .ix 2 3 rfl <|
 .ix 2 3 rfl <|
 .ix 2 3 rfl <|
 .ix 2 3 rfl <|
 .cc (azk c.2.2.2.2 d.2.2.2.2) fun bu =>
 .cc (azi bt bu) fun bv =>
 .lit 13000 (3) <|
 .known false <|
 .cc (azx bv.Lo) fun bw =>
 .cc (azx bv.Hi) fun bx =>
 .ix 2 3 rfl <|
 .ix 2 3 rfl <|
 .lit 15000 (3) <|
 .known false <|
 .lit 16000 (3) <|
 .known false <|
 .ret (((⟨k, m⟩ : az0), (⟨z, aa⟩ : az0), (⟨ah, ai⟩ : az0)), ((⟨ap, aq⟩ : az0), (⟨az, a0⟩ : az0), (⟨a7, a8⟩ : az0)), ((⟨bf, bg⟩ : az0), (⟨bn, bo⟩ : az0), (⟨bw, bx⟩ : az0)))
noncomputable def qzv (c) (d) :=
 mkD Tryz.func262 (kz4 c d) 0 [.pure (czo c), .pure (czo d)] [] (fun r => .pure (czo r)) (fun _ => [])
noncomputable def nzl (c : Av) (d : As) : T As :=
 .unroll 4 <|
 .known true <|
 .unroll 4 <|
 .known true <|
 .ix 0 3 rfl <|
 .ix 0 3 rfl <|
 .ix 0 3 rfl <|
 .ix 0 3 rfl <|
 .cc (azk c.1.1 d.1) fun e =>
 .cc (azi (⟨0, 0⟩ : az0) e) fun f =>
 .ix 0 3 rfl <|
 .lit 9000 (1) <|
 .known true <|
 .ix 0 3 rfl <|
 .ix 0 3 rfl <|
 .ix 1 3 rfl <|
 .ix 1 3 rfl <|
 .cc (azk c.1.2.1 d.2.1) fun g =>
 .cc (azi f g) fun h =>
 .ix 0 3 rfl <|
 .lit 9000 (2) <|
 .known true <|
 .ix 0 3 rfl <|
 .ix 0 3 rfl <|
 .ix 2 3 rfl <|
 .ix 2 3 rfl <|
 .cc (azk c.1.2.2 d.2.2) fun i =>
 .cc (azi h i) fun j =>
 .ix 0 3 rfl <|
 .lit 9000 (3) <|
 .known false <|
 .lit 10000 (1) <|
 .known true <|
 .unroll 4 <|
 .known true <|
 .ix 1 3 rfl <|
 .ix 1 3 rfl <|
 .ix 0 3 rfl <|
 .ix 0 3 rfl <|
 .cc (azk c.2.1.1 d.1) fun k =>
 .cc (azi (⟨0, 0⟩ : az0) k) fun m =>
 .ix 1 3 rfl <|
 .lit 9000 (1) <|
 .known true <|
 .ix 1 3 rfl <|
 .ix 1 3 rfl <|
 .ix 1 3 rfl <|
 .ix 1 3 rfl <|
 .cc (azk c.2.1.2.1 d.2.1) fun n =>
 .cc (azi m n) fun q =>
 .ix 1 3 rfl <|
 .lit 9000 (2) <|
 .known true <|
 .ix 1 3 rfl <|
 .ix 1 3 rfl <|
 .ix 2 3 rfl <|
 .ix 2 3 rfl <|
 .cc (azk c.2.1.2.2 d.2.2) fun s =>
 .cc (azi q s) fun t =>
 .ix 1 3 rfl <|
 .lit 9000 (3) <|
 .known false <|
 .lit 10000 (2) <|
 .known true <|
 .unroll 4 <|
 .known true <|
 .ix 2 3 rfl <|
 .ix 2 3 rfl <|
 .ix 0 3 rfl <|
 .ix 0 3 rfl <|
 .cc (azk c.2.2.1 d.1) fun w =>
 .cc (azi (⟨0, 0⟩ : az0) w) fun y =>
 .ix 2 3 rfl <|
 .lit 9000 (1) <|
 .known true <|
 .ix 2 3 rfl <|
 .ix 2 3 rfl <|
 .ix 1 3 rfl <|
 .ix 1 3 rfl <|
 .cc (azk c.2.2.2.1 d.2.1) fun z =>
 .cc (azi y z) fun aa =>
 .ix 2 3 rfl <|
 .lit 9000 (2) <|
 .known true <|
 .ix 2 3 rfl <|
 .ix 2 3 rfl <|
 .ix 2 3 rfl <|
 .ix 2 3 rfl <|
 .cc (azk c.2.2.2.2 d.2.2) fun ab =>
 .cc (azi aa ab) fun ac =>
 .ix 2 3 rfl <|
 .lit 9000 (3) <|
 .known false <|
 .lit 10000 (3) <|
 .known false <|
 .ret (j, t, ac)
noncomputable def tzz (c) (d) :=
 mkD Tryz.func279 (nzl c d) 0 [.pure (czo c), .pure (az4 d)] [] (fun r => .pure (az4 r)) (fun _ => [])
noncomputable def sz2 (c : As) (d : As) : T As :=
 .unroll 4 <|
 .known true <|
 .ix 0 3 rfl <|
 .ix 0 3 rfl <|
 .cc (azi c.1 d.1) fun e =>
 .ix 0 3 rfl <|
 .lit 6000 (1) <|
 .known true <|
 .ix 1 3 rfl <|
 .ix 1 3 rfl <|
 .cc (azi c.2.1 d.2.1) fun f =>
 .ix 1 3 rfl <|
 .lit 6000 (2) <|
 .known true <|
 .ix 2 3 rfl <|
 .ix 2 3 rfl <|
 .cc (azi c.2.2 d.2.2) fun g =>
 .ix 2 3 rfl <|
 .lit 6000 (3) <|
 .known false <|
 .ret (e, f, g)
noncomputable def yza (c) (d) :=
 mkD Tryz.func278 (sz2 c d) 0 [.pure (az4 c), .pure (az4 d)] [] (fun r => .pure (az4 r)) (fun _ => [])
noncomputable def gz5 (c : As) (d : Int) (e : Int) (f : Int) (g : Int) (h : Int) (i : Int) (j : Int) (k : Int) (m : Int) (n : Int) (q : Int) (s : Int) (t : Int) (w : Int) (y : Int) (z : Int) (aa : Int) (ab : Int) (ac : Int) (ad : Int) (ae : Int) (af : Int) (ag : Int) (ah : Int) : T (As × Int × Int × Int × Int × Int × Int × Int × Int × Int × Int × Int × Int × Int × Int × Int × Int × Int × Int × Int × Int × Int × Int × Int × Int) :=
 .cc (tzz (((⟨d, e⟩ : az0), (⟨f, g⟩ : az0), (⟨h, i⟩ : az0)), ((⟨j, k⟩ : az0), (⟨m, n⟩ : az0), (⟨q, s⟩ : az0)), ((⟨t, w⟩ : az0), (⟨y, z⟩ : az0), (⟨aa, ab⟩ : az0))) ((⟨c.1.Lo, c.1.Hi⟩ : az0), (⟨c.2.1.Lo, c.2.1.Hi⟩ : az0), (⟨c.2.2.Lo, c.2.2.Hi⟩ : az0))) fun ai =>
 .cc (yza ((⟨ac, ad⟩ : az0), (⟨ae, af⟩ : az0), (⟨ag, ah⟩ : az0)) ai) fun aj =>
 .ret (aj, d, e, f, g, h, i, j, k, m, n, q, s, t, w, y, z, aa, ab, ac, ad, ae, af, ag, ah)
noncomputable def jza (c) (d) (e) (f) (g) (h) (i) (j) (k) (m) (n) (q) (s) (t) (w) (y) (z) (aa) (ab) (ac) (ad) (ae) (af) (ag) (ah) :=
 mkD Tryz.func277 (gz5 c d e f g h i j k m n q s t w y z aa ab ac ad ae af ag ah) 1 [.pure (az4 c), .ptr 0 0] [(0, .box [pz d, pz e, pz f, pz g, pz h, pz i, pz j, pz k, pz m, pz n, pz q, pz s, pz t, pz w, pz y, pz z, pz aa, pz ab, pz ac, pz ad, pz ae, pz af, pz ag, pz ah])] (fun r => .pure (az4 r.1)) (fun r => [(0, .box [pz r.2.1, pz r.2.2.1, pz r.2.2.2.1, pz r.2.2.2.2.1, pz r.2.2.2.2.2.1, pz r.2.2.2.2.2.2.1, pz r.2.2.2.2.2.2.2.1, pz r.2.2.2.2.2.2.2.2.1, pz r.2.2.2.2.2.2.2.2.2.1, pz r.2.2.2.2.2.2.2.2.2.2.1, pz r.2.2.2.2.2.2.2.2.2.2.2.1, pz r.2.2.2.2.2.2.2.2.2.2.2.2.1, pz r.2.2.2.2.2.2.2.2.2.2.2.2.2.1, pz r.2.2.2.2.2.2.2.2.2.2.2.2.2.2.1, pz r.2.2.2.2.2.2.2.2.2.2.2.2.2.2.2.1, pz r.2.2.2.2.2.2.2.2.2.2.2.2.2.2.2.2.1, pz r.2.2.2.2.2.2.2.2.2.2.2.2.2.2.2.2.2.1, pz r.2.2.2.2.2.2.2.2.2.2.2.2.2.2.2.2.2.2.1, pz r.2.2.2.2.2.2.2.2.2.2.2.2.2.2.2.2.2.2.2.1, pz r.2.2.2.2.2.2.2.2.2.2.2.2.2.2.2.2.2.2.2.2.1, pz r.2.2.2.2.2.2.2.2.2.2.2.2.2.2.2.2.2.2.2.2.2.1, pz r.2.2.2.2.2.2.2.2.2.2.2.2.2.2.2.2.2.2.2.2.2.2.1, pz r.2.2.2.2.2.2.2.2.2.2.2.2.2.2.2.2.2.2.2.2.2.2.2.1, pz r.2.2.2.2.2.2.2.2.2.2.2.2.2.2.2.2.2.2.2.2.2.2.2.2])])
noncomputable def nzs (c : bzb) (d : bzb) : T bzb :=
 .cc (mzq c) fun e =>
 .cc (qzv c.R d.R) fun f =>
 .call (jza d.T e.1 e.2.1 e.2.2.1 e.2.2.2.1 e.2.2.2.2.1 e.2.2.2.2.2.1 e.2.2.2.2.2.2.1 e.2.2.2.2.2.2.2.1 e.2.2.2.2.2.2.2.2.1 e.2.2.2.2.2.2.2.2.2.1 e.2.2.2.2.2.2.2.2.2.2.1 e.2.2.2.2.2.2.2.2.2.2.2.1 e.2.2.2.2.2.2.2.2.2.2.2.2.1 e.2.2.2.2.2.2.2.2.2.2.2.2.2.1 e.2.2.2.2.2.2.2.2.2.2.2.2.2.2.1 e.2.2.2.2.2.2.2.2.2.2.2.2.2.2.2.1 e.2.2.2.2.2.2.2.2.2.2.2.2.2.2.2.2.1 e.2.2.2.2.2.2.2.2.2.2.2.2.2.2.2.2.2.1 e.2.2.2.2.2.2.2.2.2.2.2.2.2.2.2.2.2.2.1 e.2.2.2.2.2.2.2.2.2.2.2.2.2.2.2.2.2.2.2.1 e.2.2.2.2.2.2.2.2.2.2.2.2.2.2.2.2.2.2.2.2.1 e.2.2.2.2.2.2.2.2.2.2.2.2.2.2.2.2.2.2.2.2.2.1 e.2.2.2.2.2.2.2.2.2.2.2.2.2.2.2.2.2.2.2.2.2.2.1 e.2.2.2.2.2.2.2.2.2.2.2.2.2.2.2.2.2.2.2.2.2.2.2) [(0, 256)] fun g =>
 .ret (⟨(f.1, f.2.1, f.2.2), g.1⟩ : bzb)
noncomputable def gz4 (c) (d) :=
 mkD Tryz.func236 (nzs c d) 0 [.pure (czs c), .pure (czs d)] [] (fun r => .pure (czs r)) (fun _ => [])
noncomputable def rzf (c : Int) (d : az0) : T bzb :=
 .cut 2 (fun (e : B3) => ⟨[(4, .ptr 0 0), (5, .ptr 1 0)], [(0, .box [pz 0, pz 0, pz 0, pz 0, pz 0, pz 0, pz 0, pz 0, pz 0, pz 0, pz 0, pz 0, pz 0, pz 0, pz 0, pz 0, pz 0, pz 0, pz 0, pz 0, pz 0, pz 0, pz 0, pz 0]), (1, .box [pz e.1, pz e.2.1, pz e.2.2.1, pz e.2.2.2.1, pz e.2.2.2.2.1, pz e.2.2.2.2.2])], [], 2⟩)
 (.cas 2000 c 0
 (.ix 0 3 rfl <|
 .oo (d.Lo, d.Hi, 0, 0, 0, 0))
 (.cas 2000 c 1
 (.ix 1 3 rfl <|
 .oo (0, 0, d.Lo, d.Hi, 0, 0))
 (.cas 2000 c 2
 (.ix 2 3 rfl <|
 .oo (0, 0, 0, 0, d.Lo, d.Hi))
 (.stop)))) fun e =>
 .cc (mzp ((⟨e.1, e.2.1⟩ : az0), (⟨e.2.2.1, e.2.2.2.1⟩ : az0), (⟨e.2.2.2.2.1, e.2.2.2.2.2⟩ : az0))) fun f =>
 .ret f
noncomputable def yz3 (c) (d) :=
 mkD Tryz.func275 (rzf c d) 0 [pz c, .pure (aze d)] [] (fun r => .pure (czs r)) (fun _ => [])
noncomputable def kz1 (c : az0) : T Int :=
 .cc (bzg c) fun d =>
 .br (!d)
 (.ret 0)
 (.ret (i64.wrap (c.Hi - c.Lo)))
noncomputable def kz0 (c) :=
 mkD Tryz.func319 (kz1 c) 0 [.pure (aze c)] [] (fun r => pz r) (fun _ => [])
noncomputable def lz9 (c : Int) : T Int :=
 .ret (i64.wrap (((BitVec.ofInt 64 c &&& BitVec.ofInt 64 65535).toNat : Int)))
noncomputable def gzu (c) :=
 mkD Tryz.func322 (lz9 c) 0 [pz c] [] (fun r => pz r) (fun _ => [])
noncomputable def jzt (c : Int) : T (B6 × B6) :=
 .ix 0 11 rfl <|
 .ix 0 11 rfl <|
 .cc (azy (i64.wrap (c * 6746518852)) 16) fun d =>
 .ix 1 11 rfl <|
 .cc (bz4 (i64.wrap (c * 6746518853)) 16) fun e =>
 .ix 1 11 rfl <|
 .unroll 10 <|
 .known true <|
 .lit 8002 (1) <|
 .ix 1 11 rfl <|
 .ix 1 11 rfl <|
 .cc (azy (i64.wrap (d * d)) 30) fun f =>
 .ix 2 11 rfl <|
 .lit 9002 (1) <|
 .ix 1 11 rfl <|
 .ix 1 11 rfl <|
 .cc (bz4 (i64.wrap (e * e)) 30) fun g =>
 .ix 2 11 rfl <|
 .lit 7001 (3) <|
 .known true <|
 .lit 8002 (2) <|
 .ix 2 11 rfl <|
 .ix 1 11 rfl <|
 .cc (azy (i64.wrap (f * d)) 30) fun h =>
 .ix 3 11 rfl <|
 .lit 9002 (2) <|
 .ix 2 11 rfl <|
 .ix 1 11 rfl <|
 .cc (bz4 (i64.wrap (g * e)) 30) fun i =>
 .ix 3 11 rfl <|
 .lit 7001 (4) <|
 .known true <|
 .lit 8002 (3) <|
 .ix 3 11 rfl <|
 .ix 1 11 rfl <|
 .cc (azy (i64.wrap (h * d)) 30) fun j =>
 .ix 4 11 rfl <|
 .lit 9002 (3) <|
 .ix 3 11 rfl <|
 .ix 1 11 rfl <|
 .cc (bz4 (i64.wrap (i * e)) 30) fun k =>
 .ix 4 11 rfl <|
 .lit 7001 (5) <|
 .known true <|
 .lit 8002 (4) <|
 .ix 4 11 rfl <|
 .ix 1 11 rfl <|
 .cc (azy (i64.wrap (j * d)) 30) fun m =>
 .ix 5 11 rfl <|
 .lit 9002 (4) <|
 .ix 4 11 rfl <|
 .ix 1 11 rfl <|
 .cc (bz4 (i64.wrap (k * e)) 30) fun n =>
 .ix 5 11 rfl <|
 .lit 7001 (6) <|
 .known true <|
 .lit 8002 (5) <|
 .ix 5 11 rfl <|
 .ix 1 11 rfl <|
 .cc (azy (i64.wrap (m * d)) 30) fun q =>
 .ix 6 11 rfl <|
 .lit 9002 (5) <|
 .ix 5 11 rfl <|
 .ix 1 11 rfl <|
 .cc (bz4 (i64.wrap (n * e)) 30) fun s =>
 .ix 6 11 rfl <|
 .lit 7001 (7) <|
 .known true <|
 .lit 8002 (6) <|
 .ix 6 11 rfl <|
 .ix 1 11 rfl <|
 .cc (azy (i64.wrap (q * d)) 30) fun t =>
 .ix 7 11 rfl <|
 .lit 9002 (6) <|
 .ix 6 11 rfl <|
 .ix 1 11 rfl <|
 .cc (bz4 (i64.wrap (s * e)) 30) fun w =>
 .ix 7 11 rfl <|
 .lit 7001 (8) <|
 .known true <|
 .lit 8002 (7) <|
 .ix 7 11 rfl <|
 .ix 1 11 rfl <|
 .cc (azy (i64.wrap (t * d)) 30) fun y =>
 .ix 8 11 rfl <|
 .lit 9002 (7) <|
 .ix 7 11 rfl <|
 .ix 1 11 rfl <|
 .cc (bz4 (i64.wrap (w * e)) 30) fun z =>
 .ix 8 11 rfl <|
 .lit 7001 (9) <|
 .known true <|
 .lit 8002 (8) <|
 .ix 8 11 rfl <|
 .ix 1 11 rfl <|
 .cc (azy (i64.wrap (y * d)) 30) fun aa =>
 .ix 9 11 rfl <|
 .lit 9002 (8) <|
 .ix 8 11 rfl <|
 .ix 1 11 rfl <|
 .cc (bz4 (i64.wrap (z * e)) 30) fun ab =>
 .ix 9 11 rfl <|
 .lit 7001 (10) <|
 .known true <|
 .lit 8002 (9) <|
 .ix 9 11 rfl <|
 .ix 1 11 rfl <|
 .cc (azy (i64.wrap (aa * d)) 30) fun ac =>
 .ix 10 11 rfl <|
 .lit 9002 (9) <|
 .ix 9 11 rfl <|
 .ix 1 11 rfl <|
 .cc (bz4 (i64.wrap (ab * e)) 30) fun ad =>
 .ix 10 11 rfl <|
 .lit 7001 (11) <|
 .known false <|
 .ret ((1073741824, d, f, h, j, m, q, t, y, aa, ac), (1073741824, e, g, i, k, n, s, w, z, ab, ad))
noncomputable def jzs (c) :=
 mkD Tryz.func327 (jzt c) 0 [pz c] [] (fun r => .tup [.pure (qzq r.1), .pure (qzq r.2)]) (fun _ => [])
noncomputable def lz8 (c : Int) (d : Int) : T Int :=
 .grd (d ≠ 0) <|
 .ret (i64.wrap ((i64.wrap ((i64.wrap (c + d)) - 1)).tdiv d))
noncomputable def cz4 (c) (d) :=
 mkD Tryz.func329 (lz8 c d) 0 [pz c, pz d] [] (fun r => pz r) (fun _ => [])
noncomputable def gzg (c : A0) : T Int := let d := (c.length : Nat); .loop (fun (e : Ap) => ⟨[(3, pz e.1), (4, pz e.2.1), (7, .pure (encL 1 az1 c)), (8, pz (d : Int)), (9, pz e.2.2)], [], [], 0⟩)
 (.exit 0) (fun (e : Int) => ⟨[(3, pz e)], [], [], 0⟩)
 (fun e => .br (decide (e.2.2 < (d : Int)))
 (.gh e.2.2 c.length <|
 .nn ((i64.wrap (e.1 + (i64.wrap (e.2.1 * (c.getD ((e.2.2).toNat) default))))), (i64.wrap (0 - e.2.1)), (i64.wrap (e.2.2 + 1))))
 (.oo e.1))
 (0, 1, 0) [] fun e =>
 .ret e
noncomputable def bzw (c) :=
 mkD Tryz.func328 (gzg c) 0 [.pure (encL 1 az1 c)] [] (fun r => pz r) (fun _ => [])
noncomputable def iz4 (c : Int) (d : Int) : T az0 :=
 .cc (azy c 14) fun e =>
 .cc (bz4 d 14) fun f =>
 .ret (⟨(max 0 e), (min 65536 f)⟩ : az0)
noncomputable def iz3 (c) (d) :=
 mkD Tryz.func330 (iz4 c d) 0 [pz c, pz d] [] (fun r => .pure (aze r)) (fun _ => [])
noncomputable def rze (c : Int) : T az0 :=
 .cc (jzs c) fun d =>
 .ix 1 11 rfl <|
 .ix 3 11 rfl <|
 .cc (cz4 d.2.2.2.2.1 6) fun e =>
 .ix 5 11 rfl <|
 .ok ((120 : Int) ≠ 0) (by decide) <|
 .ix 7 11 rfl <|
 .cc (cz4 d.2.2.2.2.2.2.2.2.1 5040) fun f => let g := ([d.1.2.1, e, (i64.wrap (d.1.2.2.2.2.2.1.tdiv 120)), f] : A0);
 .conv 2011 (czq 1 az1 g 2) <|
 .cc (bzw g) fun h =>
 .ix 1 11 rfl <|
 .ix 3 11 rfl <|
 .ok ((6 : Int) ≠ 0) (by decide) <|
 .ix 5 11 rfl <|
 .cc (cz4 d.2.2.2.2.2.2.1 120) fun i =>
 .ix 7 11 rfl <|
 .ok ((5040 : Int) ≠ 0) (by decide) <|
 .ix 9 11 rfl <|
 .cc (cz4 d.2.2.2.2.2.2.2.2.2.2.1 362880) fun j => let k := ([d.2.2.1, (i64.wrap (d.1.2.2.2.1.tdiv 6)), i, (i64.wrap (d.1.2.2.2.2.2.2.2.1.tdiv 5040)), j] : A0);
 .conv 3014 (czq 1 az1 k 2) <|
 .cc (bzw k) fun m =>
 .cc (iz3 h m) fun n =>
 .ret n
noncomputable def yz2 (c) :=
 mkD Tryz.func325 (rze c) 0 [pz c] [] (fun r => .pure (aze r)) (fun _ => [])
noncomputable def nz2 (c : Int) : T az0 :=
 .cc (jzs c) fun d =>
 .ix 2 11 rfl <|
 .cc (cz4 d.2.2.2.1 2) fun e =>
 .ix 4 11 rfl <|
 .ok ((24 : Int) ≠ 0) (by decide) <|
 .ix 6 11 rfl <|
 .cc (cz4 d.2.2.2.2.2.2.2.1 720) fun f =>
 .ix 8 11 rfl <|
 .ok ((40320 : Int) ≠ 0) (by decide) <|
 .ix 10 11 rfl <|
 .cc (cz4 d.2.2.2.2.2.2.2.2.2.2.2 3628800) fun g => let h := ([1073741824, e, (i64.wrap (d.1.2.2.2.2.1.tdiv 24)), f, (i64.wrap (d.1.2.2.2.2.2.2.2.2.1.tdiv 40320)), g] : A0);
 .conv 2015 (czq 1 az1 h 2) <|
 .cc (bzw h) fun i =>
 .ix 2 11 rfl <|
 .ok ((2 : Int) ≠ 0) (by decide) <|
 .ix 4 11 rfl <|
 .cc (cz4 d.2.2.2.2.2.1 24) fun j =>
 .ix 6 11 rfl <|
 .ok ((720 : Int) ≠ 0) (by decide) <|
 .ix 8 11 rfl <|
 .cc (cz4 d.2.2.2.2.2.2.2.2.2.1 40320) fun k => let m := ([1073741824, (i64.wrap (d.1.2.2.1.tdiv 2)), j, (i64.wrap (d.1.2.2.2.2.2.2.1.tdiv 720)), k] : A0);
 .conv 3012 (czq 1 az1 m 2) <|
 .cc (bzw m) fun n =>
 .cc (iz3 i n) fun q =>
 .ret q
noncomputable def tzl (c) :=
 mkD Tryz.func326 (nz2 c) 0 [pz c] [] (fun r => .pure (aze r)) (fun _ => [])
noncomputable def pz9 (c : Int) : T az0 :=
 .br (decide (c ≤ 8192))
 (.cc (yz2 c) fun d =>
 .ret d)
 (.cc (tzl (i64.wrap (16384 - c))) fun d =>
 .ret d)
noncomputable def gzs (c) :=
 mkD Tryz.func323 (pz9 c) 0 [pz c] [] (fun r => .pure (aze r)) (fun _ => [])
noncomputable def nzj (c : az0) : T az0 :=
 .cc (bzg c) fun d =>
 .br (!d)
 (.ret (⟨0, 0⟩ : az0))
 (.ret (⟨(i64.wrap (0 - c.Hi)), (i64.wrap (0 - c.Lo))⟩ : az0))
noncomputable def jz5 (c) :=
 mkD Tryz.func311 (nzj c) 0 [.pure (aze c)] [] (fun r => .pure (aze r)) (fun _ => [])
noncomputable def uzi (c : Int) : T az0 :=
 .cc (gzu c) fun d => let e := d.tmod 16384; let f := i64.wrap (d.tdiv 16384); let g := i64.wrap (16384 - e);
 .ok ((16384 : Int) ≠ 0) (by decide) <|
 .ok ((16384 : Int) ≠ 0) (by decide) <|
 .br (f == 0)
 (.cc (gzs e) fun h =>
 .ret h)
 (.br (f == 1)
 (.cc (gzs g) fun h =>
 .ret h)
 (.br (f == 2)
 (.cc (gzs e) fun h =>
 .cc (jz5 h) fun i =>
 .ret i)
 (.cc (gzs g) fun h =>
 .cc (jz5 h) fun i =>
 .ret i)))
noncomputable def pz8 (c) :=
 mkD Tryz.func316 (uzi c) 0 [pz c] [] (fun r => .pure (aze r)) (fun _ => [])
noncomputable def uzh (c : Int) : T az0 :=
 .cc (gzu c) fun d =>
 .cc (pz8 (i64.wrap (d + 16384))) fun e =>
 .ret e
noncomputable def uzg (c) :=
 mkD Tryz.func315 (uzh c) 0 [pz c] [] (fun r => .pure (aze r)) (fun _ => [])
noncomputable def lzl (c : az0) (d : az0) : T az0 :=
 .cc (gzc c d) fun e =>
 .br (!e)
 (.ret (⟨0, 0⟩ : az0))
 (.ret (⟨(min c.Lo d.Lo), (max c.Hi d.Hi)⟩ : az0))
noncomputable def dzp (c) (d) :=
 mkD Tryz.func320 (lzl c d) 0 [.pure (aze c), .pure (aze d)] [] (fun r => .pure (aze r)) (fun _ => [])
noncomputable def nzg (c : az0) (d : Int) : T Bool :=
 .cc (bzg c) fun e =>
 .br e
 (.br (decide (c.Lo ≤ d))
 (.ret (decide (d ≤ c.Hi)))
 (.ret false))
 (.ret false)
noncomputable def tzs (c) (d) :=
 mkD Tryz.func324 (nzg c d) 0 [.pure (aze c), pz d] [] (fun r => .pure (.bool r)) (fun _ => [])
noncomputable def pza (c : az0) (d : Int) : T Bool :=
 .cc (gzu (i64.wrap (d - c.Lo))) fun e =>
 .cc (tzs c (i64.wrap (c.Lo + e))) fun f =>
 .ret f
noncomputable def gzt (c) (d) :=
 mkD Tryz.func321 (pza c d) 0 [.pure (aze c), pz d] [] (fun r => .pure (.bool r)) (fun _ => [])
noncomputable def rzd (c : az0) (d : Int) (e : Int) : T az0 :=
 .cc (bzg c) fun f =>
 .br (!f)
 (.ret (⟨0, 0⟩ : az0))
 (.cc (kz0 c) fun g =>
 .br (decide (g ≥ 65536))
 (.ret (⟨(-65536), 65536⟩ : az0))
 (.cc (uzg c.Lo) fun h =>
 .cc (uzg c.Hi) fun i =>
 .cc (dzp h i) fun j =>
 .cut 0 (fun (k : Ak) => ⟨[(3, pz e), (4, .ptr 0 0), (8, .ptr 1 0), (9, .ptr 2 0)], [(0, .box [pz c.Lo, pz c.Hi]), (1, .box [pz 0, pz 0]), (2, .box [pz k.1, pz k.2])], [], 3⟩)
 (.cc (gzt c d) fun k =>
 .br k
 (.cc (cz1 65536) fun m =>
 .cc (dzp j m) fun n =>
 .oo (n.Lo, n.Hi))
 (.oo (j.Lo, j.Hi))) fun k =>
 .cut 0 (fun (m : Ak) => ⟨[(8, .ptr 0 0), (9, .ptr 1 0)], [(0, .box [pz 0, pz 0]), (1, .box [pz m.1, pz m.2])], [], 2⟩)
 (.cc (gzt c e) fun m =>
 .br m
 (.cc (cz1 (-65536)) fun n =>
 .cc (dzp (⟨k.1, k.2⟩ : az0) n) fun q =>
 .oo (q.Lo, q.Hi))
 (.oo (k.1, k.2))) fun m =>
 .ret (⟨m.1, m.2⟩ : az0)))
noncomputable def yz1 (c) (d) (e) :=
 mkD Tryz.func314 (rzd c d e) 0 [.pure (aze c), .func 315 [] [], pz d, pz e] [] (fun r => .pure (aze r)) (fun _ => [])
noncomputable def lz6 (c : az0) : T az0 :=
 .cc (yz1 c 0 32768) fun d =>
 .ret d
noncomputable def rzb (c) :=
 mkD Tryz.func309 (lz6 c) 0 [.pure (aze c)] [] (fun r => .pure (aze r)) (fun _ => [])
noncomputable def nz3 (c : az0) (d : Int) (e : Int) : T az0 :=
 .cc (bzg c) fun f =>
 .br (!f)
 (.ret (⟨0, 0⟩ : az0))
 (.cc (kz0 c) fun g =>
 .br (decide (g ≥ 65536))
 (.ret (⟨(-65536), 65536⟩ : az0))
 (.cc (pz8 c.Lo) fun h =>
 .cc (pz8 c.Hi) fun i =>
 .cc (dzp h i) fun j =>
 .cut 0 (fun (k : Ak) => ⟨[(3, pz e), (4, .ptr 0 0), (8, .ptr 1 0), (9, .ptr 2 0)], [(0, .box [pz c.Lo, pz c.Hi]), (1, .box [pz 0, pz 0]), (2, .box [pz k.1, pz k.2])], [], 3⟩)
 (.cc (gzt c d) fun k =>
 .br k
 (.cc (cz1 65536) fun m =>
 .cc (dzp j m) fun n =>
 .oo (n.Lo, n.Hi))
 (.oo (j.Lo, j.Hi))) fun k =>
 .cut 0 (fun (m : Ak) => ⟨[(8, .ptr 0 0), (9, .ptr 1 0)], [(0, .box [pz 0, pz 0]), (1, .box [pz m.1, pz m.2])], [], 2⟩)
 (.cc (gzt c e) fun m =>
 .br m
 (.cc (cz1 (-65536)) fun n =>
 .cc (dzp (⟨k.1, k.2⟩ : az0) n) fun q =>
 .oo (q.Lo, q.Hi))
 (.oo (k.1, k.2))) fun m =>
 .ret (⟨m.1, m.2⟩ : az0)))
noncomputable def tzm (c) (d) (e) :=
 mkD Tryz.func314 (nz3 c d e) 0 [.pure (aze c), .func 316 [] [], pz d, pz e] [] (fun r => .pure (aze r)) (fun _ => [])
noncomputable def lz7 (c : az0) : T az0 :=
 .cc (tzm c 16384 49152) fun d =>
 .ret d
noncomputable def rzc (c) :=
 mkD Tryz.func310 (lz7 c) 0 [.pure (aze c)] [] (fun r => .pure (aze r)) (fun _ => [])
noncomputable def pzv (c : Int) (d : az0) : T Av := let e := (⟨d.Lo, d.Hi⟩ : az0); .cc (bzg d) fun f =>
 .br (!f)
 (.ret (((⟨0, 0⟩ : az0), (⟨0, 0⟩ : az0), (⟨0, 0⟩ : az0)), ((⟨0, 0⟩ : az0), (⟨0, 0⟩ : az0), (⟨0, 0⟩ : az0)), ((⟨0, 0⟩ : az0), (⟨0, 0⟩ : az0), (⟨0, 0⟩ : az0))))
 (.cc (rzb e) fun g =>
 .cc (rzc e) fun h =>
 .cc (jz5 h) fun i =>
 .cc (cz1 65536) fun j =>
 .cc (cz1 0) fun k =>
 .br (c == 0)
 (.ret ((j, k, k), (k, g, i), (k, h, g)))
 (.br (c == 1)
 (.ret ((g, k, h), (k, j, k), (i, k, g)))
 (.br (c == 2)
 (.ret ((g, i, k), (h, g, k), (k, k, j)))
 (.ret (((⟨0, 0⟩ : az0), (⟨0, 0⟩ : az0), (⟨0, 0⟩ : az0)), ((⟨0, 0⟩ : az0), (⟨0, 0⟩ : az0), (⟨0, 0⟩ : az0)), ((⟨0, 0⟩ : az0), (⟨0, 0⟩ : az0), (⟨0, 0⟩ : az0)))))))
noncomputable def vzx (c) (d) :=
 mkD Tryz.func304 (pzv c d) 0 [pz c, .pure (aze d)] [] (fun r => .pure (czo r)) (fun _ => [])
noncomputable def uzx (c : Int) (d : az0) : T bzb :=
 .cc (vzx c (⟨d.Lo, d.Hi⟩ : az0)) fun e =>
 .cc (pose_still_C) fun f =>
 .ret (⟨e, f⟩ : bzb)
noncomputable def Azq (c) (d) :=
 mkD Tryz.func292 (uzx c d) 0 [pz c, .pure (aze d)] [] (fun r => .pure (czs r)) (fun _ => [])
noncomputable def uzk (c : Int) (d : az0) : T bzb :=
 .cc (Azq c (⟨d.Lo, d.Hi⟩ : az0)) fun e =>
 .ret e
noncomputable def zzg (c) (d) :=
 mkD Tryz.func274 (uzk c d) 0 [pz c, .pure (aze d)] [] (fun r => .pure (czs r)) (fun _ => [])
noncomputable def hz4 (c : azs) (d : az0) : T bzb :=
 .cc (jz6 c.Offset) fun e =>
 .cc (mzp ((⟨e.1.Lo, e.1.Hi⟩ : az0), (⟨e.2.1.Lo, e.2.1.Hi⟩ : az0), (⟨e.2.2.Lo, e.2.2.Hi⟩ : az0))) fun f => let g := (⟨f.R, f.T⟩ : bzb);
 .split (((ezd c.Kind).o).isSome)
 (.cc (ezd c.Kind) fun h =>
 .cc (zzg h (⟨d.Lo, d.Hi⟩ : az0)) fun i =>
 .cc (gz4 g i) fun j =>
 .ret j)
 (.split (((ezf c.Kind).o).isSome)
 (.cc (ezf c.Kind) fun h =>
 .cc (yz3 h d) fun i =>
 .cc (gz4 f i) fun j =>
 .ret j)
 (.cc (gzo c.Kind) fun h =>
 .cc (zzf h d) fun i =>
 .cc (gz4 g (⟨i.R, i.T⟩ : bzb)) fun j =>
 .ret j))
noncomputable def mzi (c) (d) :=
 mkD Tryz.func235 (hz4 c d) 0 [.pure (azg c), .pure (aze d)] [] (fun r => .pure (czs r)) (fun _ => [])
noncomputable def hz6 (c : azn) (d : Ag) : T Ai := let e := encL 2 aze d; let f := encL 12 azg c.Joints; let g := (c.Joints.length : Int); .conv 1003 (Dza 24 czs 266 g.toNat (⟨(((⟨0, 0⟩ : az0), (⟨0, 0⟩ : az0), (⟨0, 0⟩ : az0)), ((⟨0, 0⟩ : az0), (⟨0, 0⟩ : az0), (⟨0, 0⟩ : az0)), ((⟨0, 0⟩ : az0), (⟨0, 0⟩ : az0), (⟨0, 0⟩ : az0))), ((⟨0, 0⟩ : az0), (⟨0, 0⟩ : az0), (⟨0, 0⟩ : az0))⟩ : bzb)) <|
 .grd (0 ≤ g /\ g ≤ g /\ g ≤ 9223372036854775807 /\ g * 192 ≤ 140737488355328) <|
 .loop (fun (h : (Ai × Int)) => ⟨[(1, .pure e), (5, .vec 0), (13, .pure f), (14, pz g), (15, pz h.2)], [(0, vecO 24 czs h.1 266)], [], 1⟩)
 (.exit 0) (fun (h : Ai) => ⟨[(5, .vec 0)], [(0, vecO 24 czs h 266)], [], 1⟩)
 (fun h => let i := (h.2).toNat; let j := c.Joints.getD i default; let k := j.Parent; .br (decide (h.2 < g))
 (.cut 0 (fun (m : Ai) => ⟨[(1, .pure e), (5, .vec 0), (13, .pure f), (14, pz g), (15, pz h.2)], [(0, vecO 24 czs m 266)], [], 1⟩)
 (.gh h.2 c.Joints.length <|
 .gh h.2 d.length <|
 .cc (mzi j (d.getD i default)) fun m => let n := h.1.set i m; let q := n.length;
 .gh h.2 h.1.length <|
 .conv 5009 (fz1 24 czs h.1 266 i m) <|
 .gi (h.2) h.1.length <|
 .br (k != (-1))
 (.gg k q <|
 .gg h.2 q <|
 .call (gz4 (n.getD (k.toNat) default) (n.getD i default)) [] fun s =>
 .gh h.2 q <|
 .conv 7013 (fz1 24 czs n 266 i s) <|
 .gi (h.2) q <|
 .oo (n.set i s))
 (.oo n)) fun m =>
 .nn (m, (i64.wrap (h.2 + 1))))
 (.oo h.1))
 ((List.replicate g.toNat ((⟨(((⟨0, 0⟩ : az0), (⟨0, 0⟩ : az0), (⟨0, 0⟩ : az0)), ((⟨0, 0⟩ : az0), (⟨0, 0⟩ : az0), (⟨0, 0⟩ : az0)), ((⟨0, 0⟩ : az0), (⟨0, 0⟩ : az0), (⟨0, 0⟩ : az0))), ((⟨0, 0⟩ : az0), (⟨0, 0⟩ : az0), (⟨0, 0⟩ : az0))⟩ : bzb) : bzb)), 0) [] fun h =>
 .ret h
noncomputable def mzk (c) (d) :=
 mkD Tryz.func199 (hz6 c d) 0 [.pure (dz3 c), .pure (encL 2 aze d)] [] (fun r => .pure (encL 24 czs r)) (fun _ => [])
noncomputable def qzc (c : bz1) : T Bool := let d := encL 3 az3 c.Points; let e := (c.Points.length : Int); .cut 2 (fun (f : Bool) => ⟨[(1, .ptr 0 0), (26, .pure (.bool f))], [(0, .box [pz c.Link, pz c.Radius, .pure d])], [], 1⟩)
 (.br (decide (c.Radius < 1))
 (.oo true)
 (.br (decide (c.Radius > 1048576))
 (.oo true)
 (.br (decide (e < 1))
 (.oo true)
 (.oo (decide (e > 8)))))) fun f =>
 .br f
 (.ret false)
 (.loop (fun (g : Int) => ⟨[(28, .pure d), (29, pz e), (30, pz g)], [], [], 0⟩)
 (.exit 0) (fun (_ : U0) => ⟨[], [], [], 0⟩)
 (fun g => let h := c.Points.getD (g.toNat) default; .br (decide (g < e))
 (.gh g c.Points.length <|
 .loop (fun (i : Int) => ⟨[(28, .pure d), (29, pz e), (30, pz g), (34, .pure (az3 h)), (35, pz i)], [], [], 0⟩)
 (.exit 2) (fun (_ : U0) => ⟨[(28, .pure d), (29, pz e), (30, pz g)], [], [], 0⟩)
 (fun i => .br (decide (i < 3))
 (.gh i 3 <|
 .name 8000 ((([h.1, h.2.1, h.2.2] : List Int).getD i.toNat 0)) fun j =>
 .cut 0 (fun (k : Bool) => ⟨[(28, .pure d), (29, pz e), (30, pz g), (34, .pure (az3 h)), (35, pz i), (43, .pure (.bool k))], [], [], 0⟩)
 (.br (decide (j < (-4194304)))
 (.oo true)
 (.oo (decide (j > 4194304)))) fun k =>
 .br k
 (.ff (.fin false))
 (.nn (i64.wrap (i + 1))))
 (.oo .u))
 0 [] fun _ =>
 .nn (i64.wrap (g + 1)))
 (.oo .u))
 0 [] fun _ =>
 .ret true)
noncomputable def wzj (c) :=
 mkD Tryz.func239 (qzc c) 0 [.pure (azw c)] [] (fun r => .pure (.bool r)) (fun _ => [])
noncomputable def sz5 (c : bzb) (d : As) : T As :=
 .cc (mzq c) fun e =>
 .call (jza d e.1 e.2.1 e.2.2.1 e.2.2.2.1 e.2.2.2.2.1 e.2.2.2.2.2.1 e.2.2.2.2.2.2.1 e.2.2.2.2.2.2.2.1 e.2.2.2.2.2.2.2.2.1 e.2.2.2.2.2.2.2.2.2.1 e.2.2.2.2.2.2.2.2.2.2.1 e.2.2.2.2.2.2.2.2.2.2.2.1 e.2.2.2.2.2.2.2.2.2.2.2.2.1 e.2.2.2.2.2.2.2.2.2.2.2.2.2.1 e.2.2.2.2.2.2.2.2.2.2.2.2.2.2.1 e.2.2.2.2.2.2.2.2.2.2.2.2.2.2.2.1 e.2.2.2.2.2.2.2.2.2.2.2.2.2.2.2.2.1 e.2.2.2.2.2.2.2.2.2.2.2.2.2.2.2.2.2.1 e.2.2.2.2.2.2.2.2.2.2.2.2.2.2.2.2.2.2.1 e.2.2.2.2.2.2.2.2.2.2.2.2.2.2.2.2.2.2.2.1 e.2.2.2.2.2.2.2.2.2.2.2.2.2.2.2.2.2.2.2.2.1 e.2.2.2.2.2.2.2.2.2.2.2.2.2.2.2.2.2.2.2.2.2.1 e.2.2.2.2.2.2.2.2.2.2.2.2.2.2.2.2.2.2.2.2.2.2.1 e.2.2.2.2.2.2.2.2.2.2.2.2.2.2.2.2.2.2.2.2.2.2.2) [(0, 256)] fun f =>
 .ret f.1
noncomputable def yze (c) (d) :=
 mkD Tryz.func240 (sz5 c d) 0 [.pure (czs c), .pure (az4 d)] [] (fun r => .pure (az4 r)) (fun _ => [])
noncomputable def qzd (c : bz1) (d : bzb) : T Au := let e := (c.Points.length : Int); .cc (wzj c) fun f =>
 .br (!f)
 (.ret nl)
 (.conv 3003 (Dza 6 az4 239 e.toNat ((⟨0, 0⟩ : az0), (⟨0, 0⟩ : az0), (⟨0, 0⟩ : az0))) <|
 .grd (0 ≤ e /\ e ≤ e /\ e ≤ 9223372036854775807 /\ e * 48 ≤ 140737488355328) <|
 .loop (fun (g : (Au × Int)) => ⟨[(3, .ptr 0 0), (5, .vec 1), (16, .pure (encL 3 az3 c.Points)), (17, pz e), (18, pz g.2)], [(0, .box [pz d.R.1.1.Lo, pz d.R.1.1.Hi, pz d.R.1.2.1.Lo, pz d.R.1.2.1.Hi, pz d.R.1.2.2.Lo, pz d.R.1.2.2.Hi, pz d.R.2.1.1.Lo, pz d.R.2.1.1.Hi, pz d.R.2.1.2.1.Lo, pz d.R.2.1.2.1.Hi, pz d.R.2.1.2.2.Lo, pz d.R.2.1.2.2.Hi, pz d.R.2.2.1.Lo, pz d.R.2.2.1.Hi, pz d.R.2.2.2.1.Lo, pz d.R.2.2.2.1.Hi, pz d.R.2.2.2.2.Lo, pz d.R.2.2.2.2.Hi, pz d.T.1.Lo, pz d.T.1.Hi, pz d.T.2.1.Lo, pz d.T.2.1.Hi, pz d.T.2.2.Lo, pz d.T.2.2.Hi]), (1, vecO 6 az4 g.1 239)], [], 2⟩)
 (.exit 0) (fun (g : Au) => ⟨[(5, .vec 0)], [(0, vecO 6 az4 g 239)], [], 1⟩)
 (fun g => let h := (g.2).toNat; .br (decide (g.2 < e))
 (.gh g.2 c.Points.length <|
 .cc (jz6 (c.Points.getD h default)) fun i =>
 .cc (yze (⟨d.R, d.T⟩ : bzb) i) fun j =>
 .gh g.2 g.1.length <|
 .conv 7007 (fz1 6 az4 g.1 239 h j) <|
 .gi (g.2) g.1.length <|
 .nn ((g.1.set h j), (i64.wrap (g.2 + 1))))
 (.oo g.1))
 ((List.replicate e.toNat (((⟨0, 0⟩ : az0), (⟨0, 0⟩ : az0), (⟨0, 0⟩ : az0)) : As)), 0) [] fun g =>
 .ret g)
noncomputable def wzk (c) (d) :=
 mkD Tryz.func201 (qzd c d) 0 [.pure (azw c), .pure (czs d)] [] (fun r => .pure (encL 6 az4 r)) (fun _ => [])
set_option maxHeartbeats 8000000 in
set_option maxRecDepth 20000 in
noncomputable def gzi (a0 : azm) (a1 : Ag) : T (List Au) :=
 .cut 2 (fun (y12 : Bool) => ⟨[(1, .pure (encL 2 aze a1)), (2, .ptr 0 0), (19, .pure (.bool y12))], [(0, .box [.pure (encL 12 azg a0.Robot.Joints), .pure (encL 5 azj a0.Robot.Masses), .pure (encL 3 azw a0.Shapes), .pure (encL 2 bzu a0.Skips)])], [], 1⟩)
 (.call (mzj a0.Robot a1) [] fun y13 =>
 .br (!y13)
 (.ret (.out true))
 (.call (dzg (⟨a0.Robot, a0.Shapes, a0.Skips⟩ : azm)) [] fun y14 =>
 .ret (.out (y14 != 0)))) fun y12 =>
 .br y12
 (.ret nl)
 (.call (mzk a0.Robot a1) [] fun y16 =>
 .conv 4003 (Tz8 1 (encL 6 az4) 182 ((a0.Shapes.length : Int)).toNat nl (.lst 0 0 fun _ => .unk) (by kernel_rfl)) <|
 .grd (0 ≤ (a0.Shapes.length : Int) /\ (a0.Shapes.length : Int) ≤ (a0.Shapes.length : Int) /\ (a0.Shapes.length : Int) ≤ 9223372036854775807 /\ (a0.Shapes.length : Int) * 24 ≤ 140737488355328) <|
 .loop (fun (x53 : ((List Au) × Int)) => ⟨[(5, .pure (encL 24 czs y16)), (6, .vec 0), (29, .pure (encL 3 azw a0.Shapes)), (30, pz (a0.Shapes.length : Int)), (31, pz x53.2)], [(0, vecO 1 (encL 6 az4) x53.1 182)], [], 1⟩)
 (.exit 0) (fun (y62 : (List Au)) => ⟨[(6, .vec 0)], [(0, vecO 1 (encL 6 az4) y62 182)], [], 1⟩)
 (fun x53 => .br (decide (x53.2 < (a0.Shapes.length : Int)))
 (.grd (0 ≤ x53.2 /\ x53.2 < (a0.Shapes.length : Int)) <|
 .call (pose_Identity_C) [] fun y68 =>
 .cut 0 (fun (y69 : B8) => ⟨[(5, .pure (encL 24 czs y16)), (6, .vec 0), (7, pz x53.2), (8, .ptr 1 0), (9, .ptr 2 0), (29, .pure (encL 3 azw a0.Shapes)), (30, pz (a0.Shapes.length : Int)), (31, pz x53.2)], [(0, vecO 1 (encL 6 az4) x53.1 182), (1, .box [pz ((a0.Shapes.getD ((x53.2).toNat) default).Link), pz ((a0.Shapes.getD ((x53.2).toNat) default).Radius), .pure (encL 3 az3 ((a0.Shapes.getD ((x53.2).toNat) default).Points))]), (2, .box [pz y69.1, pz y69.2.1, pz y69.2.2.1, pz y69.2.2.2.1, pz y69.2.2.2.2.1, pz y69.2.2.2.2.2.1, pz y69.2.2.2.2.2.2.1, pz y69.2.2.2.2.2.2.2.1, pz y69.2.2.2.2.2.2.2.2.1, pz y69.2.2.2.2.2.2.2.2.2.1, pz y69.2.2.2.2.2.2.2.2.2.2.1, pz y69.2.2.2.2.2.2.2.2.2.2.2.1, pz y69.2.2.2.2.2.2.2.2.2.2.2.2.1, pz y69.2.2.2.2.2.2.2.2.2.2.2.2.2.1, pz y69.2.2.2.2.2.2.2.2.2.2.2.2.2.2.1, pz y69.2.2.2.2.2.2.2.2.2.2.2.2.2.2.2.1, pz y69.2.2.2.2.2.2.2.2.2.2.2.2.2.2.2.2.1, pz y69.2.2.2.2.2.2.2.2.2.2.2.2.2.2.2.2.2.1, pz y69.2.2.2.2.2.2.2.2.2.2.2.2.2.2.2.2.2.2.1, pz y69.2.2.2.2.2.2.2.2.2.2.2.2.2.2.2.2.2.2.2.1, pz y69.2.2.2.2.2.2.2.2.2.2.2.2.2.2.2.2.2.2.2.2.1, pz y69.2.2.2.2.2.2.2.2.2.2.2.2.2.2.2.2.2.2.2.2.2.1, pz y69.2.2.2.2.2.2.2.2.2.2.2.2.2.2.2.2.2.2.2.2.2.2.1, pz y69.2.2.2.2.2.2.2.2.2.2.2.2.2.2.2.2.2.2.2.2.2.2.2])], [], 3⟩)
 (.br (((a0.Shapes.getD ((x53.2).toNat) default).Link) != (-1))
 (.grd (0 ≤ ((a0.Shapes.getD ((x53.2).toNat) default).Link) /\ ((a0.Shapes.getD ((x53.2).toNat) default).Link) < (y16.length : Int)) <|
 .ret (.out ((y16.getD (((a0.Shapes.getD ((x53.2).toNat) default).Link).toNat) default).R.1.1.Lo, (y16.getD (((a0.Shapes.getD ((x53.2).toNat) default).Link).toNat) default).R.1.1.Hi, (y16.getD (((a0.Shapes.getD ((x53.2).toNat) default).Link).toNat) default).R.1.2.1.Lo, (y16.getD (((a0.Shapes.getD ((x53.2).toNat) default).Link).toNat) default).R.1.2.1.Hi, (y16.getD (((a0.Shapes.getD ((x53.2).toNat) default).Link).toNat) default).R.1.2.2.Lo, (y16.getD (((a0.Shapes.getD ((x53.2).toNat) default).Link).toNat) default).R.1.2.2.Hi, (y16.getD (((a0.Shapes.getD ((x53.2).toNat) default).Link).toNat) default).R.2.1.1.Lo, (y16.getD (((a0.Shapes.getD ((x53.2).toNat) default).Link).toNat) default).R.2.1.1.Hi, (y16.getD (((a0.Shapes.getD ((x53.2).toNat) default).Link).toNat) default).R.2.1.2.1.Lo, (y16.getD (((a0.Shapes.getD ((x53.2).toNat) default).Link).toNat) default).R.2.1.2.1.Hi, (y16.getD (((a0.Shapes.getD ((x53.2).toNat) default).Link).toNat) default).R.2.1.2.2.Lo, (y16.getD (((a0.Shapes.getD ((x53.2).toNat) default).Link).toNat) default).R.2.1.2.2.Hi, (y16.getD (((a0.Shapes.getD ((x53.2).toNat) default).Link).toNat) default).R.2.2.1.Lo, (y16.getD (((a0.Shapes.getD ((x53.2).toNat) default).Link).toNat) default).R.2.2.1.Hi, (y16.getD (((a0.Shapes.getD ((x53.2).toNat) default).Link).toNat) default).R.2.2.2.1.Lo, (y16.getD (((a0.Shapes.getD ((x53.2).toNat) default).Link).toNat) default).R.2.2.2.1.Hi, (y16.getD (((a0.Shapes.getD ((x53.2).toNat) default).Link).toNat) default).R.2.2.2.2.Lo, (y16.getD (((a0.Shapes.getD ((x53.2).toNat) default).Link).toNat) default).R.2.2.2.2.Hi, (y16.getD (((a0.Shapes.getD ((x53.2).toNat) default).Link).toNat) default).T.1.Lo, (y16.getD (((a0.Shapes.getD ((x53.2).toNat) default).Link).toNat) default).T.1.Hi, (y16.getD (((a0.Shapes.getD ((x53.2).toNat) default).Link).toNat) default).T.2.1.Lo, (y16.getD (((a0.Shapes.getD ((x53.2).toNat) default).Link).toNat) default).T.2.1.Hi, (y16.getD (((a0.Shapes.getD ((x53.2).toNat) default).Link).toNat) default).T.2.2.Lo, (y16.getD (((a0.Shapes.getD ((x53.2).toNat) default).Link).toNat) default).T.2.2.Hi)))
 (.ret (.out (y68.R.1.1.Lo, y68.R.1.1.Hi, y68.R.1.2.1.Lo, y68.R.1.2.1.Hi, y68.R.1.2.2.Lo, y68.R.1.2.2.Hi, y68.R.2.1.1.Lo, y68.R.2.1.1.Hi, y68.R.2.1.2.1.Lo, y68.R.2.1.2.1.Hi, y68.R.2.1.2.2.Lo, y68.R.2.1.2.2.Hi, y68.R.2.2.1.Lo, y68.R.2.2.1.Hi, y68.R.2.2.2.1.Lo, y68.R.2.2.2.1.Hi, y68.R.2.2.2.2.Lo, y68.R.2.2.2.2.Hi, y68.T.1.Lo, y68.T.1.Hi, y68.T.2.1.Lo, y68.T.2.1.Hi, y68.T.2.2.Lo, y68.T.2.2.Hi)))) fun y69 =>
 .call (wzk (a0.Shapes.getD ((x53.2).toNat) default) (⟨(((⟨y69.1, y69.2.1⟩ : az0), (⟨y69.2.2.1, y69.2.2.2.1⟩ : az0), (⟨y69.2.2.2.2.1, y69.2.2.2.2.2.1⟩ : az0)), ((⟨y69.2.2.2.2.2.2.1, y69.2.2.2.2.2.2.2.1⟩ : az0), (⟨y69.2.2.2.2.2.2.2.2.1, y69.2.2.2.2.2.2.2.2.2.1⟩ : az0), (⟨y69.2.2.2.2.2.2.2.2.2.2.1, y69.2.2.2.2.2.2.2.2.2.2.2.1⟩ : az0)), ((⟨y69.2.2.2.2.2.2.2.2.2.2.2.2.1, y69.2.2.2.2.2.2.2.2.2.2.2.2.2.1⟩ : az0), (⟨y69.2.2.2.2.2.2.2.2.2.2.2.2.2.2.1, y69.2.2.2.2.2.2.2.2.2.2.2.2.2.2.2.1⟩ : az0), (⟨y69.2.2.2.2.2.2.2.2.2.2.2.2.2.2.2.2.1, y69.2.2.2.2.2.2.2.2.2.2.2.2.2.2.2.2.2.1⟩ : az0))), ((⟨y69.2.2.2.2.2.2.2.2.2.2.2.2.2.2.2.2.2.2.1, y69.2.2.2.2.2.2.2.2.2.2.2.2.2.2.2.2.2.2.2.1⟩ : az0), (⟨y69.2.2.2.2.2.2.2.2.2.2.2.2.2.2.2.2.2.2.2.2.1, y69.2.2.2.2.2.2.2.2.2.2.2.2.2.2.2.2.2.2.2.2.2.1⟩ : az0), (⟨y69.2.2.2.2.2.2.2.2.2.2.2.2.2.2.2.2.2.2.2.2.2.2.1, y69.2.2.2.2.2.2.2.2.2.2.2.2.2.2.2.2.2.2.2.2.2.2.2⟩ : az0))⟩ : bzb)) [] fun y70 =>
 .grd (0 ≤ x53.2 /\ x53.2 < (x53.1.length : Int)) <|
 .conv 11006 (fz1 1 (encL 6 az4) x53.1 182 ((x53.2).toNat) y70) <|
 .grd ((x53.2).toNat < x53.1.length /\ 0 ≤ (x53.2).toNat) <|
 .ret (.next ((x53.1.set ((x53.2).toNat) y70), (i64.wrap (x53.2 + 1)))))
 (.ret (.out x53.1)))
 ((List.replicate ((a0.Shapes.length : Int)).toNat (nl : Au)), 0) [] fun y62 =>
 .ret y62)
noncomputable def lzm (c) (d) :=
 mkD Tryz.func167 (gzi c d) 0 [.pure (ezs c), .pure (encL 2 aze d)] [] (fun r => .pure (encL 1 (encL 6 az4) r)) (fun _ => [])
noncomputable def jzu (c : azm) (d : Ag) : T (bzv × Bool) := let e := encL 2 aze d; let f := (d.length : Int); let g : Nat × Res := (0, .box [.pure (encL 12 azg c.Robot.Joints), .pure (encL 5 azj c.Robot.Masses), .pure (encL 3 azw c.Shapes), .pure (encL 2 bzu c.Skips)]); .cut 2 (fun (h : Bool) => ⟨[(1, .pure e), (2, .ptr 0 0), (4, .ptr 1 0), (19, .pure (.bool h))], [g, (1, .box [.vec 2, .vec 3, .vec 4]), (2, .nilv), (3, .nilv), (4, .nilv)], [], 5⟩)
 (.cc (dzg c) fun h =>
 .br (h != 0)
 (.oo true)
 (.oo (f != (c.Robot.Joints.length : Int)))) fun h =>
 .br h
 (.ret ((⟨nl, nl, nl⟩ : bzv), false))
 (.loop (fun (i : Int) => ⟨[(1, .pure e), (2, .ptr 0 0), (4, .ptr 1 0), (21, .pure e), (22, pz f), (23, pz i)], [g, (1, .box [.vec 2, .vec 3, .vec 4]), (2, .nilv), (3, .nilv), (4, .nilv)], [], 5⟩)
 (.exit 0) (fun (_ : U0) => ⟨[(1, .pure e), (2, .ptr 0 0), (4, .ptr 1 0)], [g, (1, .box [.vec 2, .vec 3, .vec 4]), (2, .nilv), (3, .nilv), (4, .nilv)], [], 5⟩)
 (fun i => .br (decide (i < f))
 (.gh i d.length <|
 .cc (bzg (d.getD (i.toNat) default)) fun j =>
 .br (!j)
 (.ff ((⟨nl, nl, nl⟩ : bzv), false))
 (.nn (i64.wrap (i + 1))))
 (.oo .u))
 0 [] fun _ =>
 .cc (wze c) fun i =>
 .cc (lzm (⟨c.Robot, c.Shapes, c.Skips⟩ : azm) d) fun j =>
 .ret ((⟨c.Shapes, i, j⟩ : bzv), true))
noncomputable def qzm (c) (d) :=
 mkD Tryz.func137 (jzu c d) 0 [.pure (ezs c), .pure (encL 2 aze d)] [] (fun r => .tup [.pure (ozl r.1), .pure (.bool r.2)]) (fun _ => [])
noncomputable def pzc (c : bzv) (d : Int) : T ez8 := let e := c.pairs.getD (d.toNat) default; let f := e.A; let g := e.B; .gh d c.pairs.length <|
 .gh f c.points.length <|
 .gh f c.shapes.length <|
 .gh g c.points.length <|
 .gh g c.shapes.length <|
 .ret (⟨(c.points.getD (f.toNat) default), (c.points.getD (g.toNat) default), (c.shapes.getD (f.toNat) default).Radius, (c.shapes.getD (g.toNat) default).Radius⟩ : ez8)
noncomputable def vzg (c) (d) :=
 mkD Tryz.func138 (pzc c d) 0 [.pure (ozl c), pz d] [] (fun r => .pure (uzn r)) (fun _ => [])
noncomputable def tzh (c : Au) (d : Int) (e : Au) (f : Int) (g : Aq) : T (Au × Au × Int × Int × Aq) :=
 .ret (c, e, d, f, g)
noncomputable def fzy (c) (d) (e) (f) (g) :=
 mkD Tryz.func169 (tzh c d e f g) 0 [.pure (encL 6 az4 c), pz d, .pure (encL 6 az4 e), pz f, .pure (encL 3 az3 g)] [] (fun _ => .func 202 [] [.ptr 0 0, .ptr 1 0, .ptr 2 0, .ptr 3 0, .ptr 4 0]) (fun r => [(0, .box [.pure (encL 6 az4 r.1)]), (1, .box [.pure (encL 6 az4 r.2.1)]), (2, .box [pz r.2.2.1]), (3, .box [pz r.2.2.2.1]), (4, .box [.pure (encL 3 az3 r.2.2.2.2)])])
noncomputable def Gzi (c : Au) (d : Int) (e : Au) (f : Int) : T czi :=
 .ret (⟨(⟨c, d⟩ : dzy), (⟨e, f⟩ : dzy)⟩ : czi)
noncomputable def yzd (c) (d) (e) (f) :=
 mkD Tryz.func208 (Gzi c d e f) 0 [.pure (encL 6 az4 c), pz d, .pure (encL 6 az4 e), pz f] [] (fun r => .pure (lzg r)) (fun _ => [])
noncomputable def oz9 (c : Au) : T Bool := let d := encL 6 az4 c; let e := (c.length : Int); .cut 2 (fun (f : Bool) => ⟨[(0, .pure d), (14, .pure (.bool f))], [], [], 0⟩)
 (.br (decide (e < 1))
 (.oo true)
 (.oo (decide (e > 8)))) fun f =>
 .br f
 (.ret false)
 (.loop (fun (g : Int) => ⟨[(15, .pure d), (16, pz e), (17, pz g)], [], [], 0⟩)
 (.exit 0) (fun (_ : U0) => ⟨[], [], [], 0⟩)
 (fun g => let h := c.getD (g.toNat) default; let i := az4 h; .br (decide (g < e))
 (.gh g c.length <|
 .unroll 4 <|
 .known true <|
 .ix 0 3 rfl <|
 .cut 0 (fun (j : Bool) => ⟨[(15, .pure d), (16, pz e), (17, pz g), (21, .pure i), (22, pz 0), (39, .pure (.bool j))], [], [], 0⟩)
 (.br (decide ((h.1.Lo) < (-268435456)))
 (.oo true)
 (.br (decide ((h.1.Lo) > (h.1.Hi)))
 (.oo true)
 (.oo (decide ((h.1.Hi) > 268435456))))) fun j =>
 .br j
 (.ff false)
 (.lit 11000 (1) <|
 .known true <|
 .ix 1 3 rfl <|
 .cut 0 (fun (k : Bool) => ⟨[(15, .pure d), (16, pz e), (17, pz g), (21, .pure i), (22, pz 1), (39, .pure (.bool k))], [], [], 0⟩)
 (.br (decide ((h.2.1.Lo) < (-268435456)))
 (.oo true)
 (.br (decide ((h.2.1.Lo) > (h.2.1.Hi)))
 (.oo true)
 (.oo (decide ((h.2.1.Hi) > 268435456))))) fun k =>
 .br k
 (.ff false)
 (.lit 11000 (2) <|
 .known true <|
 .ix 2 3 rfl <|
 .cut 0 (fun (m : Bool) => ⟨[(15, .pure d), (16, pz e), (17, pz g), (21, .pure i), (22, pz 2), (39, .pure (.bool m))], [], [], 0⟩)
 (.br (decide ((h.2.2.Lo) < (-268435456)))
 (.oo true)
 (.br (decide ((h.2.2.Lo) > (h.2.2.Hi)))
 (.oo true)
 (.oo (decide ((h.2.2.Hi) > 268435456))))) fun m =>
 .br m
 (.ff false)
 (.lit 11000 (3) <|
 .known false <|
 .nn (i64.wrap (g + 1))))))
 (.oo .u))
 0 [] fun _ =>
 .ret true)
noncomputable def czh (c) :=
 mkD Tryz.func174 (oz9 c) 0 [.pure (encL 6 az4 c)] [] (fun r => .pure (.bool r)) (fun _ => [])
noncomputable def szy (c : dzy) : T Bool :=
 .cc (czh c.points) fun d =>
 .br d
 (.br (decide (0 ≤ c.radius))
 (.ret (decide (c.radius ≤ 1048576)))
 (.ret false))
 (.ret false)
noncomputable def szx (c) :=
 mkD Tryz.func265 (szy c) 0 [.pure (Bzn c)] [] (fun r => .pure (.bool r)) (fun _ => [])
noncomputable def izy (c : Ap) : T Bool :=
 .loop (fun (d : Int) => ⟨[(5, .pure (az3 c)), (6, pz d)], [], [], 0⟩)
 (.exit 0) (fun (_ : U0) => ⟨[], [], [], 0⟩)
 (fun d => let e := ([c.1, c.2.1, c.2.2] : List Int).getD d.toNat 0; .br (decide (d < 3))
 (.gh d 3 <|
 .cut 0 (fun (f : Bool) => ⟨[(5, .pure (az3 c)), (6, pz d), (14, .pure (.bool f))], [], [], 0⟩)
 (.br (decide (e < (-16384)))
 (.oo true)
 (.oo (decide (e > 16384)))) fun f =>
 .br f
 (.ff false)
 (.nn (i64.wrap (d + 1))))
 (.oo .u))
 0 [] fun _ =>
 .ret true
noncomputable def izx (c) :=
 mkD Tryz.func242 (izy c) 0 [.pure (az3 c)] [] (fun r => .pure (.bool r)) (fun _ => [])
noncomputable def kzm (c : Ap) : T Bool :=
 .cc (izx c) fun d =>
 .br d
 (.ret (!((c.1 == 0) && ((c.2.1 == 0) && ((c.2.2 == 0) && true)))))
 (.ret false)
noncomputable def dzw (c) :=
 mkD Tryz.func204 (kzm c) 0 [.pure (az3 c)] [] (fun r => .pure (.bool r)) (fun _ => [])
noncomputable def wzu (c : Ap) : T Ap :=
 .ret (c.1, c.2.1, c.2.2)
noncomputable def mzy (c) :=
 mkD Tryz.func284 (wzu c) 0 [.pure (az3 c)] [] (fun _ => .agg [.func 296 [] [.ptr 0 0], .func 298 [] []]) (fun r => [(0, .box [pz r.1, pz r.2.1, pz r.2.2])])
noncomputable def qzi (c : Ap) (d : As) : T Ak := let e := i64.wrap (c.1 * d.1.Lo); let f := i64.wrap (c.1 * d.1.Hi); let g := i64.wrap (c.2.1 * d.2.1.Lo); let h := i64.wrap (c.2.1 * d.2.1.Hi); let i := i64.wrap (c.2.2 * d.2.2.Lo); let j := i64.wrap (c.2.2 * d.2.2.Hi); .unroll 4 <|
 .known true <|
 .ix 0 3 rfl <|
 .ix 0 3 rfl <|
 .ix 0 3 rfl <|
 .name 6004 ((i64.wrap (0 + (min e f)))) fun k =>
 .name 7004 ((i64.wrap (0 + (max e f)))) fun m =>
 .lit 8000 (1) <|
 .known true <|
 .ix 1 3 rfl <|
 .ix 1 3 rfl <|
 .ix 1 3 rfl <|
 .name 6004 ((i64.wrap (k + (min g h)))) fun n =>
 .name 7004 ((i64.wrap (m + (max g h)))) fun q =>
 .lit 8000 (2) <|
 .known true <|
 .ix 2 3 rfl <|
 .ix 2 3 rfl <|
 .ix 2 3 rfl <|
 .name 6004 ((i64.wrap (n + (min i j)))) fun s =>
 .name 7004 ((i64.wrap (q + (max i j)))) fun t =>
 .lit 8000 (3) <|
 .known false <|
 .ret (s, t)
noncomputable def qzh (c) (d) :=
 mkD Tryz.func297 (qzi c d) 0 [.pure (az3 c), .pure (az4 d)] [] (fun r => .tup [pz r.1, pz r.2]) (fun _ => [])
noncomputable def gz1 (c : As) (d : Int) (e : Int) (f : Int) : T B1 :=
 .cc (qzh (d, e, f) ((⟨c.1.Lo, c.1.Hi⟩ : az0), (⟨c.2.1.Lo, c.2.1.Hi⟩ : az0), (⟨c.2.2.Lo, c.2.2.Hi⟩ : az0))) fun g =>
 .ret (g.1, d, e, f)
noncomputable def kzr (c) (d) (e) (f) :=
 mkD Tryz.func296 (gz1 c d e f) 1 [.pure (az4 c), .ptr 0 0] [(0, .box [pz d, pz e, pz f])] (fun r => pz r.1) (fun r => [(0, .box [pz r.2.1, pz r.2.2.1, pz r.2.2.2])])
noncomputable def tzk (c : Int) (d : Int) : T Bool :=
 .ret (decide (c < d))
noncomputable def kzs (c) (d) :=
 mkD Tryz.func298 (tzk c d) 0 [pz c, pz d] [] (fun r => .pure (.bool r)) (fun _ => [])
noncomputable def jzx (c : Int) (d : Int) (e : Int) (f : Au) : T B2 := let g := encL 6 az4 f; let h := (f.length : Int); .loop (fun (i : B3) => ⟨[(2, .ptr 1 0), (6, pz i.2.2.2.1), (7, pz i.2.2.2.2.1), (11, .pure g), (12, pz h), (13, pz i.2.2.2.2.2)], [(0, .box [pz i.1, pz i.2.1, pz i.2.2.1]), (1, .box [.func 296 [] [.ptr 0 0], .func 298 [] []])], [], 2⟩)
 (.exit 0) (fun (i : B2) => ⟨[(6, pz i.2.2.2.1), (7, pz i.2.2.2.2)], [(0, .box [pz i.1, pz i.2.1, pz i.2.2.1])], [], 1⟩)
 (fun i => .br (decide (i.2.2.2.2.2 < h))
 (.cut 0 (fun (j : B2) => ⟨[(2, .ptr 1 0), (6, pz j.2.2.2.1), (7, pz j.2.2.2.2), (11, .pure g), (12, pz h), (13, pz i.2.2.2.2.2)], [(0, .box [pz j.1, pz j.2.1, pz j.2.2.1]), (1, .box [.func 296 [] [.ptr 0 0], .func 298 [] []])], [], 2⟩)
 (.gh i.2.2.2.2.2 f.length <|
 .call (kzr (f.getD ((i.2.2.2.2.2).toNat) default) i.1 i.2.1 i.2.2.1) [(0, 0)] fun j =>
 .cut 0 (fun (k : Bool) => ⟨[(2, .ptr 1 0), (6, pz i.2.2.2.1), (7, pz i.2.2.2.2.1), (8, pz i.2.2.2.2.2), (10, pz j.1), (11, .pure g), (12, pz h), (13, pz i.2.2.2.2.2), (30, .pure (.bool k))], [(0, .box [pz j.2.1, pz j.2.2.1, pz j.2.2.2]), (1, .box [.func 296 [] [.ptr 0 0], .func 298 [] []])], [], 2⟩)
 (.br (i.2.2.2.2.2 == 0)
 (.oo true)
 (.cc (kzs j.1 i.2.2.2.1) fun k =>
 .oo k)) fun k =>
 .br k
 (.oo (j.2.1, j.2.2.1, j.2.2.2, j.1, i.2.2.2.2.2))
 (.oo (j.2.1, j.2.2.1, j.2.2.2, i.2.2.2.1, i.2.2.2.2.1))) fun j =>
 .nn (j.1, j.2.1, j.2.2.1, j.2.2.2.1, j.2.2.2.2, (i64.wrap (i.2.2.2.2.2 + 1))))
 (.oo (i.1, i.2.1, i.2.2.1, i.2.2.2.1, i.2.2.2.2.1)))
 (c, d, e, 0, 0, 0) [] fun i =>
 .ret (i.2.2.2.1, i.2.2.2.2, i.1, i.2.1, i.2.2.1)
noncomputable def qzp (c) (d) (e) (f) :=
 mkD Tryz.func285 (jzx c d e f) 1 [.agg [.func 296 [] [.ptr 0 0], .func 298 [] []], .pure (encL 6 az4 f)] [(0, .box [pz c, pz d, pz e])] (fun r => .tup [pz r.1, pz r.2.1]) (fun r => [(0, .box [pz r.2.2.1, pz r.2.2.2.1, pz r.2.2.2.2])])
noncomputable def mz4 (c : Ap) (d : Au) : T Aw :=
 .cut 2 (fun (e : Bool) => ⟨[(1, .pure (encL 6 az4 d)), (2, .ptr 0 0), (16, .pure (.bool e))], [(0, .box [pz c.1, pz c.2.1, pz c.2.2])], [], 1⟩)
 (.cc (dzw c) fun e =>
 .br (!e)
 (.oo true)
 (.cc (czh d) fun f =>
 .oo (!f))) fun e =>
 .br e
 (.ret (0, 0, false))
 (.cc (mzy (c.1, c.2.1, c.2.2)) fun f =>
 .call (qzp f.1 f.2.1 f.2.2 d) [(0, 65)] fun g =>
 .ret (g.1, g.2.1, true))
noncomputable def tz0 (c) (d) :=
 mkD Tryz.func266 (mz4 c d) 0 [.pure (az3 c), .pure (encL 6 az4 d)] [] (fun r => .tup [pz r.1, pz r.2.1, .pure (.bool r.2.2)]) (fun _ => [])
noncomputable def zz4 (c : Ap) : T Ap :=
 .ret (c.1, c.2.1, c.2.2)
noncomputable def rz7 (c) :=
 mkD Tryz.func286 (zz4 c) 0 [.pure (az3 c)] [] (fun _ => .agg [.func 299 [] [.ptr 0 0], .func 300 [] []]) (fun r => [(0, .box [pz r.1, pz r.2.1, pz r.2.2])])
noncomputable def iz1 (c : As) (d : Int) (e : Int) (f : Int) : T B1 :=
 .cc (qzh (d, e, f) c) fun g =>
 .ret (g.2, d, e, f)
noncomputable def mzz (c) (d) (e) (f) :=
 mkD Tryz.func299 (iz1 c d e f) 1 [.pure (az4 c), .ptr 0 0] [(0, .box [pz d, pz e, pz f])] (fun r => pz r.1) (fun r => [(0, .box [pz r.2.1, pz r.2.2.1, pz r.2.2.2])])
noncomputable def wzv (c : Int) (d : Int) : T Bool :=
 .ret (decide (c > d))
noncomputable def nz0 (c) (d) :=
 mkD Tryz.func300 (wzv c d) 0 [pz c, pz d] [] (fun r => .pure (.bool r)) (fun _ => [])
noncomputable def gzw (c : Int) (d : Int) (e : Int) (f : Au) : T B2 := let g := encL 6 az4 f; let h := (f.length : Int); .loop (fun (i : B3) => ⟨[(2, .ptr 1 0), (6, pz i.2.2.2.1), (7, pz i.2.2.2.2.1), (11, .pure g), (12, pz h), (13, pz i.2.2.2.2.2)], [(0, .box [pz i.1, pz i.2.1, pz i.2.2.1]), (1, .box [.func 299 [] [.ptr 0 0], .func 300 [] []])], [], 2⟩)
 (.exit 0) (fun (i : B2) => ⟨[(6, pz i.2.2.2.1), (7, pz i.2.2.2.2)], [(0, .box [pz i.1, pz i.2.1, pz i.2.2.1])], [], 1⟩)
 (fun i => .br (decide (i.2.2.2.2.2 < h))
 (.cut 0 (fun (j : B2) => ⟨[(2, .ptr 1 0), (6, pz j.2.2.2.1), (7, pz j.2.2.2.2), (11, .pure g), (12, pz h), (13, pz i.2.2.2.2.2)], [(0, .box [pz j.1, pz j.2.1, pz j.2.2.1]), (1, .box [.func 299 [] [.ptr 0 0], .func 300 [] []])], [], 2⟩)
 (.gh i.2.2.2.2.2 f.length <|
 .call (mzz (f.getD ((i.2.2.2.2.2).toNat) default) i.1 i.2.1 i.2.2.1) [(0, 0)] fun j =>
 .cut 0 (fun (k : Bool) => ⟨[(2, .ptr 1 0), (6, pz i.2.2.2.1), (7, pz i.2.2.2.2.1), (8, pz i.2.2.2.2.2), (10, pz j.1), (11, .pure g), (12, pz h), (13, pz i.2.2.2.2.2), (30, .pure (.bool k))], [(0, .box [pz j.2.1, pz j.2.2.1, pz j.2.2.2]), (1, .box [.func 299 [] [.ptr 0 0], .func 300 [] []])], [], 2⟩)
 (.br (i.2.2.2.2.2 == 0)
 (.oo true)
 (.cc (nz0 j.1 i.2.2.2.1) fun k =>
 .oo k)) fun k =>
 .br k
 (.oo (j.2.1, j.2.2.1, j.2.2.2, j.1, i.2.2.2.2.2))
 (.oo (j.2.1, j.2.2.1, j.2.2.2, i.2.2.2.1, i.2.2.2.2.1))) fun j =>
 .nn (j.1, j.2.1, j.2.2.1, j.2.2.2.1, j.2.2.2.2, (i64.wrap (i.2.2.2.2.2 + 1))))
 (.oo (i.1, i.2.1, i.2.2.1, i.2.2.2.1, i.2.2.2.2.1)))
 (c, d, e, 0, 0, 0) [] fun i =>
 .ret (i.2.2.2.1, i.2.2.2.2, i.1, i.2.1, i.2.2.1)
noncomputable def mzg (c) (d) (e) (f) :=
 mkD Tryz.func285 (gzw c d e f) 1 [.agg [.func 299 [] [.ptr 0 0], .func 300 [] []], .pure (encL 6 az4 f)] [(0, .box [pz c, pz d, pz e])] (fun r => .tup [pz r.1, pz r.2.1]) (fun r => [(0, .box [pz r.2.2.1, pz r.2.2.2.1, pz r.2.2.2.2])])
noncomputable def iz0 (c : Ap) (d : Au) : T Aw :=
 .cut 2 (fun (e : Bool) => ⟨[(1, .pure (encL 6 az4 d)), (2, .ptr 0 0), (16, .pure (.bool e))], [(0, .box [pz c.1, pz c.2.1, pz c.2.2])], [], 1⟩)
 (.cc (dzw c) fun e =>
 .br (!e)
 (.oo true)
 (.cc (czh d) fun f =>
 .oo (!f))) fun e =>
 .br e
 (.ret (0, 0, false))
 (.cc (rz7 (c.1, c.2.1, c.2.2)) fun f =>
 .call (mzg f.1 f.2.1 f.2.2 d) [(0, 65)] fun g =>
 .ret (g.1, g.2.1, true))
noncomputable def mzx (c) (d) :=
 mkD Tryz.func267 (iz0 c d) 0 [.pure (az3 c), .pure (encL 6 az4 d)] [] (fun r => .tup [pz r.1, pz r.2.1, .pure (.bool r.2.2)]) (fun _ => [])
noncomputable def xzf (c : Int) : T Int :=
 .cut 1 (fun (d : Ak) => ⟨[(0, .pure (.int .u64 d.1)), (2, pz d.2)], [], [], 0⟩)
 (.br (decide (c ≥ 4294967296))
 (.ok (0 ≤ (32 : Int)) (by decide) <|
 .oo ((c.fdiv (2 ^ (min (32 : Int).toNat 64))), 32))
 (.oo (c, 0))) fun d =>
 .cut 0 (fun (e : Ak) => ⟨[(0, .pure (.int .u64 e.1)), (2, pz e.2)], [], [], 0⟩)
 (.br (decide (d.1 ≥ 65536))
 (.ok (0 ≤ (16 : Int)) (by decide) <|
 .oo ((d.1.fdiv (2 ^ (min (16 : Int).toNat 64))), (i64.wrap (d.2 + 16))))
 (.oo (d.1, d.2))) fun e =>
 .cut 0 (fun (f : Ak) => ⟨[(0, .pure (.int .u64 f.1)), (2, pz f.2)], [], [], 0⟩)
 (.br (decide (e.1 ≥ 256))
 (.ok (0 ≤ (8 : Int)) (by decide) <|
 .oo ((e.1.fdiv (2 ^ (min (8 : Int).toNat 64))), (i64.wrap (e.2 + 8))))
 (.oo (e.1, e.2))) fun f => let g := IntKind.u8.wrap f.1;
 .gh g ((⟨#[0, 1, 2, 2, 3, 3, 3, 3, 4, 4, 4, 4, 4, 4, 4, 4, 5, 5, 5, 5, 5, 5, 5, 5, 5, 5, 5, 5, 5, 5, 5, 5, 6, 6, 6, 6, 6, 6, 6, 6, 6, 6, 6, 6, 6, 6, 6, 6, 6, 6, 6, 6, 6, 6, 6, 6, 6, 6, 6, 6, 6, 6, 6, 6, 7, 7, 7, 7, 7, 7, 7, 7, 7, 7, 7, 7, 7, 7, 7, 7, 7, 7, 7, 7, 7, 7, 7, 7, 7, 7, 7, 7, 7, 7, 7, 7, 7, 7, 7, 7, 7, 7, 7, 7, 7, 7, 7, 7, 7, 7, 7, 7, 7, 7, 7, 7, 7, 7, 7, 7, 7, 7, 7, 7, 7, 7, 7, 7, 8, 8, 8, 8, 8, 8, 8, 8, 8, 8, 8, 8, 8, 8, 8, 8, 8, 8, 8, 8, 8, 8, 8, 8, 8, 8, 8, 8, 8, 8, 8, 8, 8, 8, 8, 8, 8, 8, 8, 8, 8, 8, 8, 8, 8, 8, 8, 8, 8, 8, 8, 8, 8, 8, 8, 8, 8, 8, 8, 8, 8, 8, 8, 8, 8, 8, 8, 8, 8, 8, 8, 8, 8, 8, 8, 8, 8, 8, 8, 8, 8, 8, 8, 8, 8, 8, 8, 8, 8, 8, 8, 8, 8, 8, 8, 8, 8, 8, 8, 8, 8, 8, 8, 8, 8, 8, 8, 8, 8, 8, 8, 8, 8, 8, 8, 8, 8, 8, 8, 8, 8, 8, 8, 8, 8, 8, 8, 8]⟩ : ByteArray).size) <|
 .name 10003 ((((⟨#[0, 1, 2, 2, 3, 3, 3, 3, 4, 4, 4, 4, 4, 4, 4, 4, 5, 5, 5, 5, 5, 5, 5, 5, 5, 5, 5, 5, 5, 5, 5, 5, 6, 6, 6, 6, 6, 6, 6, 6, 6, 6, 6, 6, 6, 6, 6, 6, 6, 6, 6, 6, 6, 6, 6, 6, 6, 6, 6, 6, 6, 6, 6, 6, 7, 7, 7, 7, 7, 7, 7, 7, 7, 7, 7, 7, 7, 7, 7, 7, 7, 7, 7, 7, 7, 7, 7, 7, 7, 7, 7, 7, 7, 7, 7, 7, 7, 7, 7, 7, 7, 7, 7, 7, 7, 7, 7, 7, 7, 7, 7, 7, 7, 7, 7, 7, 7, 7, 7, 7, 7, 7, 7, 7, 7, 7, 7, 7, 8, 8, 8, 8, 8, 8, 8, 8, 8, 8, 8, 8, 8, 8, 8, 8, 8, 8, 8, 8, 8, 8, 8, 8, 8, 8, 8, 8, 8, 8, 8, 8, 8, 8, 8, 8, 8, 8, 8, 8, 8, 8, 8, 8, 8, 8, 8, 8, 8, 8, 8, 8, 8, 8, 8, 8, 8, 8, 8, 8, 8, 8, 8, 8, 8, 8, 8, 8, 8, 8, 8, 8, 8, 8, 8, 8, 8, 8, 8, 8, 8, 8, 8, 8, 8, 8, 8, 8, 8, 8, 8, 8, 8, 8, 8, 8, 8, 8, 8, 8, 8, 8, 8, 8, 8, 8, 8, 8, 8, 8, 8, 8, 8, 8, 8, 8, 8, 8, 8, 8, 8, 8, 8, 8, 8, 8, 8, 8]⟩ : ByteArray).data.getD g.toNat 0).toNat : Int)) fun h =>
 .ret (i64.wrap (f.2 + (i64.wrap h)))
noncomputable def izd (c) :=
 mkD Tryz.func287 (xzf c) 0 [.pure (.int .u64 c)] [] (fun r => pz r) (fun _ => [])
noncomputable def rzq (c : Int) : T Int := let d := IntKind.u64.wrap c; .br (decide (c ≤ 0))
 (.ret 0)
 (.cc (izd d) fun e => let f := i64.wrap ((i64.wrap (e + 1)).tdiv 2);
 .ok ((2 : Int) ≠ 0) (by decide) <|
 .grd (0 ≤ f) <|
 .loop (fun (g : Ap) => ⟨[(0, pz c), (4, .pure (.int .u64 g.1)), (5, .pure (.int .u64 g.2.1)), (16, pz f), (17, pz g.2.2)], [], [], 0⟩)
 (.exit 0) (fun (g : Int) => ⟨[(4, .pure (.int .u64 g))], [], [], 0⟩)
 (fun g => .br (decide (g.2.2 < f))
 (.cut 0 (fun (h : Ak) => ⟨[(0, pz c), (4, .pure (.int .u64 h.1)), (5, .pure (.int .u64 h.2)), (16, pz f), (17, pz g.2.2)], [], [], 0⟩)
 (.ok ((2 : Int) ≠ 0) (by decide) <|
 .name 7001 ((IntKind.u64.wrap (g.2.1.tdiv 2))) fun h => let i := IntKind.u64.wrap (g.1 + h);
 .br (decide ((IntKind.u64.wrap (i * i)) ≤ d))
 (.oo (i, h))
 (.oo (g.1, h))) fun h =>
 .nn (h.1, h.2, (i64.wrap (g.2.2 + 1))))
 (.oo g.1))
 (0, (IntKind.u64.wrap (1 * 2 ^ (min f.toNat 64))), 0) [] fun g =>
 .ret (i64.wrap g))
noncomputable def rzp (c) :=
 mkD Tryz.func268 (rzq c) 0 [pz c] [] (fun r => pz r) (fun _ => [])
noncomputable def nzd (c : Int) : T Int :=
 .cc (rzp c) fun d =>
 .cut 0 (fun (e : Int) => ⟨[(3, pz e)], [], [], 0⟩)
 (.br (decide ((i64.wrap (d * d)) < c))
 (.oo (i64.wrap (d + 1)))
 (.oo d)) fun e =>
 .ret e
noncomputable def tzr (c) :=
 mkD Tryz.func248 (nzd c) 0 [pz c] [] (fun r => pz r) (fun _ => [])
noncomputable def ozd (c : Ap) : T Int :=
 .cc (dzw (c.1, c.2.1, c.2.2)) fun d =>
 .br (!d)
 (.ret 0)
 (.ix 0 3 rfl <|
 .ix 0 3 rfl <|
 .ix 1 3 rfl <|
 .ix 1 3 rfl <|
 .ix 2 3 rfl <|
 .ix 2 3 rfl <|
 .name 3016 ((i64.wrap ((i64.wrap ((i64.wrap (c.1 * c.1)) + (i64.wrap (c.2.1 * c.2.1)))) + (i64.wrap (c.2.2 * c.2.2))))) fun e =>
 .cc (tzr e) fun f =>
 .ret f)
noncomputable def ozc (c) :=
 mkD Tryz.func215 (ozd c) 0 [.pure (az3 c)] [] (fun r => pz r) (fun _ => [])
noncomputable def oza (c : czi) (d : Ap) : T Am :=
 .cut 2 (fun (e : Bool) => ⟨[(2, .ptr 0 0), (3, .ptr 1 0), (20, .pure (.bool e))], [(0, .box [.pure (encL 6 az4 c.a.points), pz c.a.radius, .pure (encL 6 az4 c.b.points), pz c.b.radius]), (1, .box [pz d.1, pz d.2.1, pz d.2.2])], [], 2⟩)
 (.cc (szx c.a) fun e =>
 .br (!e)
 (.oo true)
 (.cc (szx c.b) fun f =>
 .oo (!f))) fun e =>
 .br e
 (.ret (0, false))
 (.cc (tz0 (d.1, d.2.1, d.2.2) c.a.points) fun f =>
 .br (!f.2.2)
 (.ret (0, false))
 (.cc (mzx (d.1, d.2.1, d.2.2) c.b.points) fun g =>
 .br (!g.2.2)
 (.ret (0, false))
 (.cc (ozc (d.1, d.2.1, d.2.2)) fun h =>
 .name 9013 ((i64.wrap ((i64.wrap (f.1 - g.1)) - (i64.wrap (h * (i64.wrap (c.a.radius + c.b.radius))))))) fun i =>
 .ret (i, true))))
noncomputable def uzd (c) (d) :=
 mkD Tryz.func245 (oza c d) 0 [.pure (lzg c), .pure (az3 d)] [] (fun r => .tup [pz r.1, .pure (.bool r.2)]) (fun _ => [])
noncomputable def izu (c : czi) (d : Ap) : T Bool :=
 .cc (uzd (⟨c.a, c.b⟩ : czi) (d.1, d.2.1, d.2.2)) fun e =>
 .br e.2
 (.ret (decide (e.1 > 0)))
 (.ret false)
noncomputable def pz0 (c) (d) :=
 mkD Tryz.func207 (izu c d) 0 [.pure (lzg c), .pure (az3 d)] [] (fun r => .pure (.bool r)) (fun _ => [])
noncomputable def izi (c : Ap) (d : Au) (e : Int) (f : Au) (g : Int) : T Bool :=
 .cc (yzd d e f g) fun h =>
 .cc (pz0 (⟨h.a, h.b⟩ : czi) (c.1, c.2.1, c.2.2)) fun i =>
 .ret i
noncomputable def ozv (c) (d) (e) (f) (g) :=
 mkD Tryz.func170 (izi c d e f g) 0 [.pure (az3 c), .pure (encL 6 az4 d), pz e, .pure (encL 6 az4 f), pz g] [] (fun r => .pure (.bool r)) (fun _ => [])
noncomputable def hzd (c : Int) : T Bool :=
 .br (decide (c ≥ 0))
 (.ret (decide (c ≤ 1048576)))
 (.ret false)
noncomputable def hzc (c) :=
 mkD Tryz.func203 (hzd c) 0 [pz c] [] (fun r => .pure (.bool r)) (fun _ => [])
noncomputable def nzh (c : az0) : T Int :=
 .cc (bzg c) fun d =>
 .br (!d)
 (.ret 0)
 (.cc (azy (i64.wrap (c.Lo + c.Hi)) 1) fun e =>
 .ret e)
noncomputable def gz3 (c) :=
 mkD Tryz.func175 (nzh c) 0 [.pure (aze c)] [] (fun r => pz r) (fun _ => [])
set_option maxHeartbeats 8000000 in
set_option maxRecDepth 20000 in
noncomputable def fzh (c : Au) : T Aq := let d := (c.length : Int); .cc (czh c) fun e =>
 .br (!e)
 (.ret nl)
 (.conv 3002 (Dza 3 az3 78 d.toNat (0, 0, 0)) <|
 .grd (0 ≤ d /\ d ≤ d /\ d ≤ 9223372036854775807 /\ d * 24 ≤ 140737488355328) <|
 .loop (fun (f : (Aq × Int)) => ⟨[(3, .vec 0), (14, .pure (encL 6 az4 c)), (15, pz d), (16, pz f.2)], [(0, vecO 3 az3 f.1 78)], [], 1⟩)
 (.exit 0) (fun (f : Aq) => ⟨[(3, .vec 0)], [(0, vecO 3 az3 f 78)], [], 1⟩)
 (fun f => let g := f.2; let h := g.toNat; let i := c.getD h default; let j := f.1.getD h default; .br (decide (f.2 < d))
 (.gh f.2 c.length <|
 .unroll 4 <|
 .known true <|
 .ix 0 3 rfl <|
 .cc (gz3 (i.1)) fun k => let m := f.1.set h (k, j.2.1, j.2.2); let n := m.getD h default;
 .gh f.2 f.1.length <|
 .ix 0 3 rfl <|
 .conv 10007 (fz1 3 az3 f.1 78 h (k, j.2.1, j.2.2)) <|
 .gi g f.1.length <|
 .lit 11000 (1) <|
 .known true <|
 .ix 1 3 rfl <|
 .cc (gz3 (i.2.1)) fun q => let s := m.set h (n.1, q, n.2.2); let t := s.getD h default;
 .gh f.2 (m.length) <|
 .ix 1 3 rfl <|
 .conv 10007 (fz1 3 az3 m 78 h (n.1, q, n.2.2)) <|
 .gi g (m.length) <|
 .lit 11000 (2) <|
 .known true <|
 .ix 2 3 rfl <|
 .cc (gz3 (i.2.2)) fun w =>
 .gh f.2 (s.length) <|
 .ix 2 3 rfl <|
 .conv 10007 (fz1 3 az3 s 78 h (t.1, t.2.1, w)) <|
 .gi g (s.length) <|
 .lit 11000 (3) <|
 .known false <|
 .nn ((s.set h (t.1, t.2.1, w)), (i64.wrap (f.2 + 1))))
 (.oo f.1))
 ((List.replicate d.toNat ((0, 0, 0) : Ap)), 0) [] fun f =>
 .ret f)
noncomputable def cz6 (c) :=
 mkD Tryz.func141 (fzh c) 0 [.pure (encL 6 az4 c)] [] (fun r => .pure (encL 3 az3 r)) (fun _ => [])
noncomputable def pzy (c : Aq) : T Ap := let d := (c.length : Nat); .loop (fun (e : B1) => ⟨[(2, .ptr 0 0), (3, .ptr 1 0), (7, .pure (encL 3 az3 c)), (8, pz (d : Int)), (9, pz e.2.2.2)], [(0, .box [pz 0, pz 0, pz 0]), (1, .box [pz e.1, pz e.2.1, pz e.2.2.1])], [], 2⟩)
 (.exit 0) (fun (e : Ap) => ⟨[(2, .ptr 0 0), (3, .ptr 1 0)], [(0, .box [pz 0, pz 0, pz 0]), (1, .box [pz e.1, pz e.2.1, pz e.2.2])], [], 2⟩)
 (fun e => let f := c.getD ((e.2.2.2).toNat) default; .br (decide (e.2.2.2 < (d : Int)))
 (.gh e.2.2.2 c.length <|
 .unroll 4 <|
 .known true <|
 .ix 0 3 rfl <|
 .ix 0 3 rfl <|
 .ix 0 3 rfl <|
 .lit 9000 (1) <|
 .known true <|
 .ix 1 3 rfl <|
 .ix 1 3 rfl <|
 .ix 1 3 rfl <|
 .lit 9000 (2) <|
 .known true <|
 .ix 2 3 rfl <|
 .ix 2 3 rfl <|
 .ix 2 3 rfl <|
 .lit 9000 (3) <|
 .known false <|
 .nn ((i64.wrap (e.1 + (f.1))), (i64.wrap (e.2.1 + (f.2.1))), (i64.wrap (e.2.2.1 + (f.2.2))), (i64.wrap (e.2.2.2 + 1))))
 (.oo (e.1, e.2.1, e.2.2.1)))
 (0, 0, 0, 0) [] fun e =>
 .ret (e.1, e.2.1, e.2.2)
noncomputable def pzx (c) :=
 mkD Tryz.func244 (pzy c) 0 [.pure (encL 3 az3 c)] [] (fun r => .pure (az3 r)) (fun _ => [])
noncomputable def kzl (c : Ap) : T Ar :=
 .loop (fun (d : Ap) => ⟨[(1, .ptr 0 0), (2, .ptr 1 0)], [(0, .box [pz d.1, pz d.2.1, pz d.2.2]), (1, .box [pz 0, pz 0, pz 0])], [], 2⟩)
 (.exit 0) (fun (d : Ap) => ⟨[(1, .ptr 0 0), (2, .ptr 1 0)], [(0, .box [pz d.1, pz d.2.1, pz d.2.2]), (1, .box [pz 0, pz 0, pz 0])], [], 2⟩)
 (fun d => .cc (izx (d.1, d.2.1, d.2.2)) fun e =>
 .br (!e)
 (.unroll 4 <|
 .known true <|
 .ix 0 3 rfl <|
 .ok ((2 : Int) ≠ 0) (by decide) <|
 .ix 0 3 rfl <|
 .lit 6000 (1) <|
 .known true <|
 .ix 1 3 rfl <|
 .ok ((2 : Int) ≠ 0) (by decide) <|
 .ix 1 3 rfl <|
 .lit 6000 (2) <|
 .known true <|
 .ix 2 3 rfl <|
 .ok ((2 : Int) ≠ 0) (by decide) <|
 .ix 2 3 rfl <|
 .lit 6000 (3) <|
 .known false <|
 .nn ((i64.wrap (d.1.tdiv 2)), (i64.wrap (d.2.1.tdiv 2)), (i64.wrap (d.2.2.tdiv 2))))
 (.oo (d.1, d.2.1, d.2.2)))
 (c.1, c.2.1, c.2.2) [] fun d =>
 .ret ((d.1, d.2.1, d.2.2), (!((d.1 == 0) && ((d.2.1 == 0) && ((d.2.2 == 0) && true)))))
noncomputable def kzk (c) :=
 mkD Tryz.func212 (kzl c) 0 [.pure (az3 c)] [] (fun r => .tup [.pure (az3 r.1), .pure (.bool r.2)]) (fun _ => [])
noncomputable def nzr (c : Au) (d : Au) : T Ar := let e := (d.length : Int); let f := (c.length : Int); .cut 3 (fun (g : Bool) => ⟨[(0, .pure (encL 6 az4 c)), (1, .pure (encL 6 az4 d)), (4, .ptr 0 0), (5, .ptr 1 0), (18, .pure (.bool g))], [(0, .box [pz 0, pz 0, pz 0]), (1, .box [.ff])], [.func 243 [] [.ptr 0 0, .ptr 1 0]], 2⟩)
 (.cc (czh c) fun g =>
 .br (!g)
 (.oo true)
 (.cc (czh d) fun h =>
 .oo (!h))) fun g =>
 .br g
 (.ret ((0, 0, 0), false))
 (.cc (cz6 c) fun h =>
 .cc (pzx h) fun i =>
 .cc (cz6 d) fun j =>
 .cc (pzx j) fun k =>
 .unroll 4 <|
 .known true <|
 .ix 0 3 rfl <|
 .ix 0 3 rfl <|
 .name 9013 ((i64.wrap ((i64.wrap (i.1 * e)) - (i64.wrap (k.1 * f))))) fun m =>
 .ix 0 3 rfl <|
 .lit 10000 (1) <|
 .known true <|
 .ix 1 3 rfl <|
 .ix 1 3 rfl <|
 .name 9013 ((i64.wrap ((i64.wrap (i.2.1 * e)) - (i64.wrap (k.2.1 * f))))) fun n =>
 .ix 1 3 rfl <|
 .lit 10000 (2) <|
 .known true <|
 .ix 2 3 rfl <|
 .ix 2 3 rfl <|
 .name 9013 ((i64.wrap ((i64.wrap (i.2.2 * e)) - (i64.wrap (k.2.2 * f))))) fun q =>
 .ix 2 3 rfl <|
 .lit 10000 (3) <|
 .known false <|
 .cc (kzk (m, n, q)) fun s =>
 .ret (s.1, s.2))
noncomputable def jz8 (c) (d) :=
 mkC [⟨243, Ozl⟩] hd Tryz.func205 (by kernel_rfl) (nzr c d) 0 [.pure (encL 6 az4 c), .pure (encL 6 az4 d)] [] (fun r => .tup [.pure (az3 r.1), .pure (.bool r.2)]) (fun _ => []) (by kernel_rfl)
noncomputable def Bzv : T Aq :=
 .conv 1006 (czq 3 az3 ([(1, 0, 0), ((-1), 0, 0), (0, 1, 0), (0, (-1), 0), (0, 0, 1), (0, 0, (-1))] : Aq) 78) <|
 .ret ([(1, 0, 0), ((-1), 0, 0), (0, 1, 0), (0, (-1), 0), (0, 0, 1), (0, 0, (-1))] : Aq)
noncomputable def nzp : CallS Aq :=
 mkD Tryz.func206 (Bzv) 0 [] [] (fun r => .pure (encL 3 az3 r)) (fun _ => [])
noncomputable def kz8 (c : Aq) : T Bool := let d := encL 3 az3 c; let e := (c.length : Int); .cut 2 (fun (f : Bool) => ⟨[(0, .pure d), (14, .pure (.bool f))], [], [], 0⟩)
 (.br (decide (e < 1))
 (.oo true)
 (.oo (decide (e > 8)))) fun f =>
 .br f
 (.ret false)
 (.loop (fun (g : Int) => ⟨[(15, .pure d), (16, pz e), (17, pz g)], [], [], 0⟩)
 (.exit 0) (fun (_ : U0) => ⟨[], [], [], 0⟩)
 (fun g => let h := c.getD (g.toNat) default; .br (decide (g < e))
 (.gh g c.length <|
 .loop (fun (i : Int) => ⟨[(15, .pure d), (16, pz e), (17, pz g), (21, .pure (az3 h)), (22, pz i)], [], [], 0⟩)
 (.exit 2) (fun (_ : U0) => ⟨[(15, .pure d), (16, pz e), (17, pz g)], [], [], 0⟩)
 (fun i => .br (decide (i < 3))
 (.gh i 3 <|
 .name 8000 ((([h.1, h.2.1, h.2.2] : List Int).getD i.toNat 0)) fun j =>
 .cut 0 (fun (k : Bool) => ⟨[(15, .pure d), (16, pz e), (17, pz g), (21, .pure (az3 h)), (22, pz i), (30, .pure (.bool k))], [], [], 0⟩)
 (.br (decide (j < (-268435456)))
 (.oo true)
 (.oo (decide (j > 268435456)))) fun k =>
 .br k
 (.ff (.fin false))
 (.nn (i64.wrap (i + 1))))
 (.oo .u))
 0 [] fun _ =>
 .nn (i64.wrap (g + 1)))
 (.oo .u))
 0 [] fun _ =>
 .ret true)
noncomputable def kz7 (c) :=
 mkD Tryz.func171 (kz8 c) 0 [.pure (encL 3 az3 c)] [] (fun r => .pure (.bool r)) (fun _ => [])
noncomputable def izh (c : Aq) : T (Aq × A0) := let d := (c.length : Int); let e := List.replicate d.toNat (0 : Int); .conv 1002 (Dza 1 az1 2 d.toNat 0) <|
 .grd (0 ≤ d /\ d ≤ d /\ d ≤ 9223372036854775807 /\ d * 8 ≤ 140737488355328) <|
 .gh (0 : Int) (e.length) <|
 .conv 2002 (fz1 1 az1 e 2 ((0 : Int).toNat) 65536) <|
 .gi (0 : Int) (e.length) <|
 .ret (c, (e.set ((0 : Int).toNat) 65536))
noncomputable def izg (c) :=
 mkD Tryz.func172 (izh c) 0 [.pure (encL 3 az3 c)] [] (fun r => .agg [.pure (encL 3 az3 r.1), .vec 0]) (fun r => [(0, vecO 1 az1 r.2 2)])
noncomputable def xze (c : Aq) (d : A0) : T Ap := let e := encL 3 az3 c; let f := (c.length : Nat); .loop (fun (g : B1) => ⟨[(1, .ptr 1 0), (2, .ptr 2 0), (3, .ptr 3 0), (9, .pure e), (10, pz (f : Int)), (11, pz g.2.2.2)], [(0, vecO 1 az1 d 2), (1, .box [.pure e, .vec 0]), (2, .box [pz 0, pz 0, pz 0]), (3, .box [pz g.1, pz g.2.1, pz g.2.2.1])], [], 4⟩)
 (.exit 0) (fun (g : Ap) => ⟨[(2, .ptr 1 0), (3, .ptr 2 0)], [(0, vecO 1 az1 d 2), (1, .box [pz 0, pz 0, pz 0]), (2, .box [pz g.1, pz g.2.1, pz g.2.2])], [], 3⟩)
 (fun g => let h := (g.2.2.2).toNat; let i := c.getD h default; let j := d.getD h default; .br (decide (g.2.2.2 < (f : Int)))
 (.gh g.2.2.2 c.length <|
 .unroll 4 <|
 .known true <|
 .ix 0 3 rfl <|
 .name 7001 (i.1) fun k =>
 .ix 0 3 rfl <|
 .gg g.2.2.2 d.length <|
 .name 8010 ((i64.wrap (g.1 + (i64.wrap (j * k))))) fun m =>
 .ix 0 3 rfl <|
 .lit 9000 (1) <|
 .known true <|
 .ix 1 3 rfl <|
 .name 7001 (i.2.1) fun n =>
 .ix 1 3 rfl <|
 .gg g.2.2.2 d.length <|
 .name 8010 ((i64.wrap (g.2.1 + (i64.wrap (j * n))))) fun q =>
 .ix 1 3 rfl <|
 .lit 9000 (2) <|
 .known true <|
 .ix 2 3 rfl <|
 .name 7001 (i.2.2) fun s =>
 .ix 2 3 rfl <|
 .gg g.2.2.2 d.length <|
 .name 8010 ((i64.wrap (g.2.2.1 + (i64.wrap (j * s))))) fun t =>
 .ix 2 3 rfl <|
 .lit 9000 (3) <|
 .known false <|
 .nn (m, q, t, (i64.wrap (g.2.2.2 + 1))))
 (.oo (g.1, g.2.1, g.2.2.1)))
 (0, 0, 0, 0) [] fun g =>
 .ret (g.1, g.2.1, g.2.2)
noncomputable def xzd (c) (d) :=
 mkD Tryz.func210 (xze c d) 1 [.agg [.pure (encL 3 az3 c), .vec 0]] [(0, vecO 1 az1 d 2)] (fun r => .pure (az3 r)) (fun _ => [(0, vecO 1 az1 d 2)])
noncomputable def Azj (c : Ap) (d : Ap) : T Ap :=
 .ix 0 3 rfl <|
 .ix 0 3 rfl <|
 .ix 1 3 rfl <|
 .ix 1 3 rfl <|
 .ix 2 3 rfl <|
 .ix 2 3 rfl <|
 .ret ((i64.wrap (c.1 - d.1)), (i64.wrap (c.2.1 - d.2.1)), (i64.wrap (c.2.2 - d.2.2)))
noncomputable def hzb (c) (d) :=
 mkD Tryz.func209 (Azj c d) 0 [.pure (az3 c), .pure (az3 d)] [] (fun r => .pure (az3 r)) (fun _ => [])
noncomputable def izf (c : Ap) (d : Int) : T Bool :=
 .loop (fun (e : Ak) => ⟨[(1, pz d), (5, pz e.1), (9, .pure (az3 c)), (10, pz e.2)], [], [], 0⟩)
 (.exit 0) (fun (e : Int) => ⟨[(1, pz d), (5, pz e)], [], [], 0⟩)
 (fun e => let f := ([c.1, c.2.1, c.2.2] : List Int).getD (e.2).toNat 0; .br (decide (e.2 < 3))
 (.gh e.2 3 <|
 .name 5003 ((max f (i64.wrap (0 - f)))) fun g =>
 .cc (bz4 g 16) fun h =>
 .nn ((i64.wrap (e.1 + (i64.wrap (h * h)))), (i64.wrap (e.2 + 1))))
 (.oo e.1))
 (0, 0) [] fun e =>
 .ret (decide (e ≤ (i64.wrap (d * d))))
noncomputable def ozt (c) (d) :=
 mkD Tryz.func211 (izf c d) 0 [.pure (az3 c), pz d] [] (fun r => .pure (.bool r)) (fun _ => [])
noncomputable def Ez6 (c : Ap) (d : Ap) : T Int :=
 .ix 0 3 rfl <|
 .ix 0 3 rfl <|
 .ix 1 3 rfl <|
 .ix 1 3 rfl <|
 .ix 2 3 rfl <|
 .ix 2 3 rfl <|
 .name 1016 ((i64.wrap ((i64.wrap ((i64.wrap (c.1 * d.1)) + (i64.wrap (c.2.1 * d.2.1)))) + (i64.wrap (c.2.2 * d.2.2))))) fun e =>
 .ret e
noncomputable def ezn (c) (d) :=
 mkD Tryz.func247 (Ez6 c d) 0 [.pure (az3 c), .pure (az3 d)] [] (fun r => pz r) (fun _ => [])
noncomputable def rzv (c : Aq) (d : A0) (e : Ap) : T Ak := let f := encL 3 az3 c; let g := (c.length : Int); let h : Nat × Res := (1, .box [pz e.1, pz e.2.1, pz e.2.2]); .gh (0 : Int) c.length <|
 .cc (ezn e (c.getD ((0 : Int).toNat) default)) fun i =>
 .loop (fun (j : Ap) => ⟨[(3, .ptr 1 0), (6, pz j.1), (7, pz j.2.1), (20, .pure f), (21, pz g), (22, pz j.2.2)], [(0, vecO 1 az1 d 2), h], [], 2⟩)
 (.exit 0) (fun (j : Ak) => ⟨[(6, pz j.1), (7, pz j.2)], [(0, vecO 1 az1 d 2)], [], 1⟩)
 (fun j => .br (decide (j.2.2 < g))
 (.cut 0 (fun (k : Ak) => ⟨[(3, .ptr 1 0), (6, pz k.1), (7, pz k.2), (20, .pure f), (21, pz g), (22, pz j.2.2)], [(0, vecO 1 az1 d 2), h], [], 2⟩)
 (.gh j.2.2 c.length <|
 .cc (ezn e (c.getD ((j.2.2).toNat) default)) fun k =>
 .br (decide (k < j.1))
 (.oo (k, j.2.2))
 (.oo (j.1, j.2.1))) fun k =>
 .nn (k.1, k.2, (i64.wrap (j.2.2 + 1))))
 (.oo (j.1, j.2.1)))
 (i, 0, 0) [] fun j =>
 .ret (j.1, j.2)
noncomputable def yz8 (c) (d) (e) :=
 mkD Tryz.func213 (rzv c d e) 1 [.agg [.pure (encL 3 az3 c), .vec 0], .pure (az3 e)] [(0, vecO 1 az1 d 2)] (fun r => .tup [pz r.1, pz r.2]) (fun _ => [(0, vecO 1 az1 d 2)])
noncomputable def kzc (c : Aq) (d : A0) (e : Ap) : T Ak := let f := encL 3 az3 c; let g := (c.length : Int); let h : Nat × Res := (1, .box [pz e.1, pz e.2.1, pz e.2.2]); .gh (0 : Int) c.length <|
 .cc (ezn e (c.getD ((0 : Int).toNat) default)) fun i =>
 .loop (fun (j : Ap) => ⟨[(3, .ptr 1 0), (6, pz j.1), (7, pz j.2.1), (20, .pure f), (21, pz g), (22, pz j.2.2)], [(0, vecO 1 az1 d 2), h], [], 2⟩)
 (.exit 0) (fun (j : Ak) => ⟨[(6, pz j.1), (7, pz j.2)], [(0, vecO 1 az1 d 2)], [], 1⟩)
 (fun j => .br (decide (j.2.2 < g))
 (.cut 0 (fun (k : Ak) => ⟨[(3, .ptr 1 0), (6, pz k.1), (7, pz k.2), (20, .pure f), (21, pz g), (22, pz j.2.2)], [(0, vecO 1 az1 d 2), h], [], 2⟩)
 (.gh j.2.2 c.length <|
 .cc (ezn e (c.getD ((j.2.2).toNat) default)) fun k =>
 .br (decide (k > j.1))
 (.oo (k, j.2.2))
 (.oo (j.1, j.2.1))) fun k =>
 .nn (k.1, k.2, (i64.wrap (j.2.2 + 1))))
 (.oo (j.1, j.2.1)))
 (i, 0, 0) [] fun j =>
 .ret (j.1, j.2)
noncomputable def rz3 (c) (d) (e) :=
 mkD Tryz.func214 (kzc c d e) 1 [.agg [.pure (encL 3 az3 c), .vec 0], .pure (az3 e)] [(0, vecO 1 az1 d 2)] (fun r => .tup [pz r.1, pz r.2]) (fun _ => [(0, vecO 1 az1 d 2)])
noncomputable def nzo (c : Ap) (d : Ap) : T Int :=
 .cc (hzb c d) fun e =>
 .cc (ezn c e) fun f =>
 .cc (ezn e e) fun g => let h := i64.wrap (g.tdiv 256);
 .br (decide (f ≤ 0))
 (.ret 0)
 (.ok ((256 : Int) ≠ 0) (by decide) <|
 .grd ((max 1 h) ≠ 0) <|
 .ret (min 256 (i64.wrap (f.tdiv (max 1 h)))))
noncomputable def uz1 (c) (d) :=
 mkD Tryz.func216 (nzo c d) 0 [.pure (az3 c), .pure (az3 d)] [] (fun r => pz r) (fun _ => [])
open Go.Proofs
noncomputable def pzo (c : Aq) (d : A0) (e : Int) (f : Int) : T A0 := let g := e.toNat; let h := (d.length : Nat); let i : Nat × Res := (1, .box [.pure (encL 3 az3 c), .vec 0]); .loop (fun (j : (A0 × Int × Int)) => ⟨[(1, pz e), (2, pz f), (3, .ptr 1 0), (6, pz j.2.1), (11, .vec 0), (12, pz (h : Int)), (13, pz j.2.2)], [(0, vecO 1 az1 j.1 2), i], [], 2⟩)
 (.exit 0) (fun (j : A2) => ⟨[(1, pz e), (3, .ptr 1 0), (6, pz j.2)], [(0, vecO 1 az1 j.1 2), i], [], 2⟩)
 (fun j => let k := (j.2.2).toNat; let m := j.1.getD k default; let n := i64.wrap ((i64.wrap (m * f)).tdiv 256); .br (decide (j.2.2 < (h : Int)))
 (.gg j.2.2 j.1.length <|
 .ok ((256 : Int) ≠ 0) (by decide) <|
 .gg j.2.2 j.1.length <|
 .name 6006 ((i64.wrap (m - n))) fun q =>
 .gh j.2.2 j.1.length <|
 .conv 6008 (fz1 1 az1 j.1 2 k q) <|
 .gi (j.2.2) j.1.length <|
 .name 7002 ((i64.wrap (j.2.1 + n))) fun s =>
 .nn ((j.1.set k q), s, (i64.wrap (j.2.2 + 1))))
 (.oo (j.1, j.2.1)))
 (d, 0, 0) [] fun j => let k := i64.wrap ((j.1.getD g default) + j.2);
 .gg e j.1.length <|
 .gh e j.1.length <|
 .conv 9008 (fz1 1 az1 j.1 2 g k) <|
 .gi (e) j.1.length <|
 .ret (j.1.set g k)
noncomputable def pzn (c) (d) (e) (f) :=
 mkD Tryz.func217 (pzo c d e f) 1 [.agg [.pure (encL 3 az3 c), .vec 0], pz e, pz f] [(0, vecO 1 az1 d 2)] (fun _ => .tup []) (fun r => [(0, vecO 1 az1 r 2)])
noncomputable def vzc (c : Aq) (d : A0) (e : Aq) (f : A0) (g : Int) (h : Int) (i : Int) (j : Int) (k : Int) (m : Int) : T (Int × Aq × A0 × Aq × A0 × Int × Int × Int × Int) :=
 .loop (fun (n : (A0 × A0 × Int × Int × Int × Int)) => ⟨[(0, .ptr 0 0), (1, pz k), (2, pz m)], [(0, .box [.pure (encL 3 az3 c), .vec 1, .pure (encL 3 az3 e), .vec 2, pz n.2.2.1, pz n.2.2.2.1, pz n.2.2.2.2.1, pz n.2.2.2.2.2]), (1, vecO 1 az1 n.1 2), (2, vecO 1 az1 n.2.1 2)], [], 3⟩)
 .ret (fun (_ : U0) => ⟨[], [], [], 3⟩)
 (fun n => .call (xzd c n.1) [(0, 1)] fun q =>
 .call (xzd e n.2.1) [(0, 2)] fun s =>
 .cc (hzb q s) fun t => let w := i64.wrap (t.1.tdiv 65536); let y := i64.wrap (t.2.1.tdiv 65536); let z := i64.wrap (t.2.2.tdiv 65536);
 .cc (ozt t k) fun aa =>
 .br aa
 (.ff (2, c, n.1, e, n.2.1, n.2.2.1, n.2.2.2.1, n.2.2.2.2.1, n.2.2.2.2.2))
 (.ix 0 3 rfl <|
 .ok ((65536 : Int) ≠ 0) (by decide) <|
 .ix 1 3 rfl <|
 .ok ((65536 : Int) ≠ 0) (by decide) <|
 .ix 2 3 rfl <|
 .ok ((65536 : Int) ≠ 0) (by decide) <|
 .cc (kzk (w, y, z)) fun ab =>
 .br (!ab.2)
 (.ff (0, c, n.1, e, n.2.1, ab.1.1, ab.1.2.1, ab.1.2.2, n.2.2.2.2.2))
 (.call (yz8 c n.1 ab.1) [(0, 1)] fun ac =>
 .call (rz3 e n.2.1 ab.1) [(0, 2)] fun ad =>
 .cc (ozc ab.1) fun ae =>
 .br (decide ((i64.wrap (ac.1 - ad.1)) > (i64.wrap (ae * k))))
 (.ff (1, c, n.1, e, n.2.1, ab.1.1, ab.1.2.1, ab.1.2.2, n.2.2.2.2.2))
 (.br (n.2.2.2.2.2 == m)
 (.ff (0, c, n.1, e, n.2.1, ab.1.1, ab.1.2.1, ab.1.2.2, n.2.2.2.2.2))
 (.gh ac.2 c.length <|
 .gh ad.2 e.length <|
 .cc (hzb (c.getD ((ac.2).toNat) default) (e.getD ((ad.2).toNat) default)) fun af =>
 .cc (uz1 (w, y, z) af) fun ag =>
 .br (ag == 0)
 (.ff (0, c, n.1, e, n.2.1, ab.1.1, ab.1.2.1, ab.1.2.2, n.2.2.2.2.2))
 (.call (pzn c n.1 ac.2 ag) [(0, 1)] fun ah =>
 .call (pzn e n.2.1 ad.2 ag) [(0, 2)] fun ai =>
 .nn (ah, ai, ab.1.1, ab.1.2.1, ab.1.2.2, (i64.wrap (n.2.2.2.2.2 + 1)))))))))
 (d, f, g, h, i, j) [] fun _ =>
 .stop
noncomputable def Bz8 (c) (d) (e) (f) (g) (h) (i) (j) (k) (m) :=
 mkD Tryz.func173 (vzc c d e f g h i j k m) 3 [.ptr 0 0, pz k, pz m] [(0, .box [.pure (encL 3 az3 c), .vec 1, .pure (encL 3 az3 e), .vec 2, pz g, pz h, pz i, pz j]), (1, vecO 1 az1 d 2), (2, vecO 1 az1 f 2)] (fun r => pz r.1) (fun r => [(0, .box [.pure (encL 3 az3 r.2.1), .vec 1, .pure (encL 3 az3 r.2.2.2.1), .vec 2, pz r.2.2.2.2.2.1, pz r.2.2.2.2.2.2.1, pz r.2.2.2.2.2.2.2.1, pz r.2.2.2.2.2.2.2.2]), (1, vecO 1 az1 r.2.2.1 2), (2, vecO 1 az1 r.2.2.2.2.1 2)])
noncomputable def kz6 (c : Aq) (d : Aq) (e : Int) (f : Int) : T gzr :=
 .cut 2 (fun (g : Bool) => ⟨[(0, .pure (encL 3 az3 c)), (1, .pure (encL 3 az3 d)), (2, pz e), (3, pz f), (8, .ptr 0 0), (34, .pure (.bool g))], [(0, .box [pz 0, pz 0, pz 0, pz 0, .vec 1, .vec 2, pz 0]), (1, .nilv), (2, .nilv)], [], 3⟩)
 (.cc (kz7 c) fun g =>
 .br (!g)
 (.oo true)
 (.cc (kz7 d) fun h =>
 .br (!h)
 (.oo true)
 (.br (decide (e < 0))
 (.oo true)
 (.br (decide (e > 2097152))
 (.oo true)
 (.br (decide (f < 0))
 (.oo true)
 (.oo (decide (f > 64)))))))) fun g =>
 .br g
 (.ret (⟨0, (0, 0, 0), nl, nl, 0⟩ : gzr))
 (.cc (izg c) fun h =>
 .cc (izg d) fun i =>
 .call (Bz8 h.1 h.2 i.1 i.2 0 0 0 0 e f) [(0, 451), (1, 67), (2, 259)] fun j =>
 .ret (⟨j.1, (j.2.2.2.2.2.1, j.2.2.2.2.2.2.1, j.2.2.2.2.2.2.2.1), j.2.2.1, j.2.2.2.2.1, j.2.2.2.2.2.2.2.2⟩ : gzr))
noncomputable def dzv (c) (d) (e) (f) :=
 mkD Tryz.func140 (kz6 c d e f) 0 [.pure (encL 3 az3 c), .pure (encL 3 az3 d), pz e, pz f] [] (fun r => .pure (Hzo r)) (fun _ => [])
noncomputable def fz5 {o : Ap -> Option Bool} (Y : YldS Tryz.prog az3 o) (a0 : Au) (a1 : Au) (a2 : Int) (a3 : Int) (a4 : Aq) : T B4 :=
 .cut 1 (fun (y22 : Bool) => ⟨[(0, .yld Y.l), (1, .ptr 1 0), (2, .ptr 2 0), (3, .ptr 3 0), (4, .ptr 4 0), (5, .ptr 5 0), (31, .pure (.bool y22))], [(0, .tok Y.τ (tokP false (az3 default))), (1, .box [.pure (encL 6 az4 a0)]), (2, .box [.pure (encL 6 az4 a1)]), (3, .box [pz a2]), (4, .box [pz a3]), (5, .box [.pure (encL 3 az3 a4)])], [], 6⟩)
 (.call (czh a0) [] fun y23 =>
 .br (!y23)
 (.ret (.out true))
 (.call (czh a1) [] fun y24 =>
 .br (!y24)
 (.ret (.out true))
 (.call (hzc a2) [] fun y25 =>
 .br (!y25)
 (.ret (.out true))
 (.call (hzc a3) [] fun y26 =>
 .ret (.out (!y26)))))) fun y22 =>
 .br y22
 (.ret (false, default, a0, a1, a2, a3, a4))
 (.loop (fun (x87 : (Int × Bool × Ap)) => ⟨[(0, .yld Y.l), (1, .ptr 1 0), (2, .ptr 2 0), (3, .ptr 3 0), (4, .ptr 4 0), (32, .pure (encL 3 az3 a4)), (33, pz (a4.length : Int)), (34, pz x87.1)], [(0, .tok Y.τ (tokP x87.2.1 (az3 x87.2.2))), (1, .box [.pure (encL 6 az4 a0)]), (2, .box [.pure (encL 6 az4 a1)]), (3, .box [pz a2]), (4, .box [pz a3]), (5, .box [.pure (encL 3 az3 a4)])], [], 6⟩)
 (.exit 0) (fun (y102 : (Bool × Ap)) => ⟨[(0, .yld Y.l), (1, .ptr 1 0), (2, .ptr 2 0), (3, .ptr 3 0), (4, .ptr 4 0)], [(0, .tok Y.τ (tokP y102.1 (az3 y102.2))), (1, .box [.pure (encL 6 az4 a0)]), (2, .box [.pure (encL 6 az4 a1)]), (3, .box [pz a2]), (4, .box [pz a3]), (5, .box [.pure (encL 3 az3 a4)])], [], 6⟩)
 (fun x87 => .br (decide (x87.1 < (a4.length : Int)))
 (.grd (0 ≤ x87.1 /\ x87.1 < (a4.length : Int)) <|
 .cut 0 (fun (y114 : Ax) => ⟨[(0, .yld Y.l), (1, .ptr 1 0), (2, .ptr 2 0), (3, .ptr 3 0), (4, .ptr 4 0), (32, .pure (encL 3 az3 a4)), (33, pz (a4.length : Int)), (34, pz x87.1), (45, .pure (.bool y114.1))], [(0, .tok Y.τ (tokP y114.2.1 (az3 y114.2.2))), (1, .box [.pure (encL 6 az4 a0)]), (2, .box [.pure (encL 6 az4 a1)]), (3, .box [pz a2]), (4, .box [pz a3]), (5, .box [.pure (encL 3 az3 a4)])], [], 6⟩)
 (.call (dzw (a4.getD ((x87.1).toNat) default)) [] fun y115 =>
 .br y115
 (.call (Y.C x87.2.1 x87.2.2 (a4.getD ((x87.1).toNat) default)) [(0, 0)] fun y116 =>
 .ret (.out ((!(!y116)), y116, (a4.getD ((x87.1).toNat) default))))
 (.ret (.out (false, x87.2.1, x87.2.2)))) fun y114 =>
 .br y114.1
 (.ret (.fin (y114.2.1, y114.2.2, a0, a1, a2, a3, a4)))
 (.ret (.next ((i64.wrap (x87.1 + 1)), y114.2.1, y114.2.2))))
 (.ret (.out (x87.2.1, x87.2.2))))
 (0, false, default) [] fun y102 =>
 .call (jz8 a0 a1) [] fun y124 =>
 .cut 0 (fun (y127 : Ax) => ⟨[(0, .yld Y.l), (1, .ptr 1 0), (2, .ptr 2 0), (3, .ptr 3 0), (4, .ptr 4 0), (59, .pure (.bool y127.1))], [(0, .tok Y.τ (tokP y127.2.1 (az3 y127.2.2))), (1, .box [.pure (encL 6 az4 a0)]), (2, .box [.pure (encL 6 az4 a1)]), (3, .box [pz a2]), (4, .box [pz a3]), (5, .box [.pure (encL 3 az3 a4)])], [], 6⟩)
 (.br y124.2
 (.call (Y.C y102.1 y102.2 y124.1) [(0, 0)] fun y128 =>
 .ret (.out ((!(!y128)), y128, y124.1)))
 (.ret (.out (false, y102.1, y102.2)))) fun y127 =>
 .br y127.1
 (.ret (y127.2.1, y127.2.2, a0, a1, a2, a3, a4))
 (.call (nzp) [] fun y147 =>
 .loop (fun (x153 : (Int × Bool × Ap)) => ⟨[(0, .yld Y.l), (1, .ptr 1 0), (2, .ptr 2 0), (3, .ptr 3 0), (4, .ptr 4 0), (60, .pure (encL 3 az3 y147)), (61, pz (y147.length : Int)), (62, pz x153.1)], [(0, .tok Y.τ (tokP x153.2.1 (az3 x153.2.2))), (1, .box [.pure (encL 6 az4 a0)]), (2, .box [.pure (encL 6 az4 a1)]), (3, .box [pz a2]), (4, .box [pz a3]), (5, .box [.pure (encL 3 az3 a4)])], [], 6⟩)
 (.exit 2) (fun (y158 : (Bool × Ap)) => ⟨[(0, .yld Y.l), (1, .ptr 1 0), (2, .ptr 2 0), (3, .ptr 3 0), (4, .ptr 4 0)], [(0, .tok Y.τ (tokP y158.1 (az3 y158.2))), (1, .box [.pure (encL 6 az4 a0)]), (2, .box [.pure (encL 6 az4 a1)]), (3, .box [pz a2]), (4, .box [pz a3]), (5, .box [.pure (encL 3 az3 a4)])], [], 6⟩)
 (fun x153 => .br (decide (x153.1 < (y147.length : Int)))
 (.grd (0 ≤ x153.1 /\ x153.1 < (y147.length : Int)) <|
 .call (Y.C x153.2.1 x153.2.2 (y147.getD ((x153.1).toNat) default)) [(0, 0)] fun y162 =>
 .br (!(!y162))
 (.ret (.fin (y162, (y147.getD ((x153.1).toNat) default), a0, a1, a2, a3, a4)))
 (.ret (.next ((i64.wrap (x153.1 + 1)), y162, (y147.getD ((x153.1).toNat) default)))))
 (.ret (.out (x153.2.1, x153.2.2))))
 (0, y127.2.1, y127.2.2) [] fun y158 =>
 .call (cz6 a0) [] fun y166 =>
 .call (cz6 a1) [] fun y167 =>
 .call (dzv y166 y167 (i64.wrap (a2 + a3)) 64) [] fun y168 =>
 .call (dzw y168.Normal) [] fun y170 =>
 .br y170
 (.call (Y.C y158.1 y158.2 y168.Normal) [(0, 0)] fun y171 =>
 .ret (y171, y168.Normal, a0, a1, a2, a3, a4))
 (.ret (y158.1, y158.2, a0, a1, a2, a3, a4))))
noncomputable def fz4 {o : Ap -> Option Bool} (Y : YldS Tryz.prog az3 o) (a0 : Au) (a1 : Au) (a2 : Int) (a3 : Int) (a4 : Aq) : CallS B4 :=
 mkD Tryz.func202 (fz5 Y a0 a1 a2 a3 a4) 6 [.yld Y.l, .ptr 1 0, .ptr 2 0, .ptr 3 0, .ptr 4 0, .ptr 5 0] [(0, .tok Y.τ (tokP false (az3 default))), (1, .box [.pure (encL 6 az4 a0)]), (2, .box [.pure (encL 6 az4 a1)]), (3, .box [pz a2]), (4, .box [pz a3]), (5, .box [.pure (encL 3 az3 a4)])] (fun _ => .tup []) (fun r => [(0, .tok Y.τ (tokP r.1 (az3 r.2.1))), (1, .box [.pure (encL 6 az4 r.2.2.1)]), (2, .box [.pure (encL 6 az4 r.2.2.2.1)]), (3, .box [pz r.2.2.2.2.1]), (4, .box [pz r.2.2.2.2.2.1]), (5, .box [.pure (encL 3 az3 r.2.2.2.2.2.2)])])
noncomputable def jz7 (c : Au) (d : Int) (e : Au) (f : Int) (_a4 : Aq) (x : Ap) : T Bool :=
 .cc (ozv x c d e f) fun g =>
 .br g
 (.ret true)
 (.ret false)
noncomputable def nzq (a0 : Au) (a1 : Int) (a2 : Au) (a3 : Int) (a4 : Aq) : CallS Ar :=
 mkR (encX := az3) [⟨168, Ozi⟩] hd Tryz.func139 (by kernel_rfl) (.call (fzy a0 a1 a2 a3 a4) [] fun y1 =>
 .ret y1)
 (jz7 a0 a1 a2 a3 a4) [(0, .box [.pure (encL 6 az4 a0)]), (64, .box [pz a1]), (128, .box [.pure (encL 6 az4 a2)]), (192, .box [pz a3]), (256, .box [pz 0, pz 0, pz 0]), (320, .box [.ff])]
 (fun p => [(0, .box [.pure (encL 6 az4 a0)]), (64, .box [pz a1]), (128, .box [.pure (encL 6 az4 a2)]), (192, .box [pz a3]), (256, .box (p.cells.map .pure)), (320, .box [.tt])]) [(0, 960), (1, 832), (2, 833), (3, 834), (4, 835), (5, 836)] (fun r => r.1) (fun r => r.2.1)
 (fun y1 Y => fz4 Y y1.1 y1.2.1 y1.2.2.1 y1.2.2.2.1 y1.2.2.2.2)
 (.ret ((0, 0, 0), false)) (fun x => (x, true)) (fun _ _ => rfl) 0 [.pure (encL 6 az4 a0), pz a1, .pure (encL 6 az4 a2), pz a3, .pure (encL 3 az3 a4)] [] (fun r => .tup [.pure (az3 r.1), .pure (.bool r.2)]) (fun _ => []) (by kernel_rfl)
set_option maxHeartbeats 8000000 in
set_option maxRecDepth 20000 in
noncomputable def mz3 (c : Au) (d : A0) : T (As × Int × Bool) := let e := encL 6 az4 c; let f := encL 1 az1 d; let g := (d.length : Int); .cut 2 (fun (h : Bool) => ⟨[(0, .pure e), (1, .pure f), (4, .ptr 0 0), (22, .pure (.bool h))], [(0, .box [pz 0, pz 0, pz 0, pz 0, pz 0, pz 0])], [], 1⟩)
 (.cc (czh c) fun h =>
 .br (!h)
 (.oo true)
 (.oo (g != (c.length : Int)))) fun h =>
 .br h
 (.ret (((⟨0, 0⟩ : az0), (⟨0, 0⟩ : az0), (⟨0, 0⟩ : az0)), 0, false))
 (.loop (fun (i : (Int × Int × Int × Int × Int × Int × Int × Int)) => ⟨[(0, .pure e), (4, .ptr 0 0), (7, .ptr 1 0), (8, pz i.2.2.2.2.2.2.1), (24, .pure f), (25, pz g), (26, pz i.2.2.2.2.2.2.2)], [(0, .box [pz 0, pz 0, pz 0, pz 0, pz 0, pz 0]), (1, .box [pz i.1, pz i.2.1, pz i.2.2.1, pz i.2.2.2.1, pz i.2.2.2.2.1, pz i.2.2.2.2.2.1])], [], 2⟩)
 (.exit 0) (fun (i : B5) => ⟨[(4, .ptr 0 0), (7, .ptr 1 0), (8, pz i.2.2.2.2.2.2)], [(0, .box [pz 0, pz 0, pz 0, pz 0, pz 0, pz 0]), (1, .box [pz i.1, pz i.2.1, pz i.2.2.1, pz i.2.2.2.1, pz i.2.2.2.2.1, pz i.2.2.2.2.2.1])], [], 2⟩)
 (fun i => let j := (i.2.2.2.2.2.2.2).toNat; let k := d.getD j default; let m := c.getD j default; .br (decide (i.2.2.2.2.2.2.2 < g))
 (.gh i.2.2.2.2.2.2.2 d.length <|
 .cut 1 (fun (n : Bool) => ⟨[(0, .pure e), (4, .ptr 0 0), (7, .ptr 1 0), (8, pz i.2.2.2.2.2.2.1), (9, pz i.2.2.2.2.2.2.2), (10, pz k), (24, .pure f), (25, pz g), (26, pz i.2.2.2.2.2.2.2), (36, .pure (.bool n))], [(0, .box [pz 0, pz 0, pz 0, pz 0, pz 0, pz 0]), (1, .box [pz i.1, pz i.2.1, pz i.2.2.1, pz i.2.2.2.1, pz i.2.2.2.2.1, pz i.2.2.2.2.2.1])], [], 2⟩)
 (.br (decide (k < 0))
 (.oo true)
 (.oo (decide (k > 65536)))) fun n =>
 .br n
 (.ff (((⟨0, 0⟩ : az0), (⟨0, 0⟩ : az0), (⟨0, 0⟩ : az0)), 0, false))
 (.gh i.2.2.2.2.2.2.2 c.length <|
 .unroll 4 <|
 .known true <|
 .ix 0 3 rfl <|
 .ix 0 3 rfl <|
 .name 14007 ((i64.wrap (k * (m.1.Lo)))) fun q =>
 .name 14008 ((i64.wrap (i.1 + q))) fun s =>
 .ix 0 3 rfl <|
 .ix 0 3 rfl <|
 .name 15007 ((i64.wrap (k * (m.1.Hi)))) fun t =>
 .name 15008 ((i64.wrap (i.2.1 + t))) fun w =>
 .ix 0 3 rfl <|
 .lit 16000 (1) <|
 .known true <|
 .ix 1 3 rfl <|
 .ix 1 3 rfl <|
 .name 14007 ((i64.wrap (k * (m.2.1.Lo)))) fun y =>
 .name 14008 ((i64.wrap (i.2.2.1 + y))) fun z =>
 .ix 1 3 rfl <|
 .ix 1 3 rfl <|
 .name 15007 ((i64.wrap (k * (m.2.1.Hi)))) fun aa =>
 .name 15008 ((i64.wrap (i.2.2.2.1 + aa))) fun ab =>
 .ix 1 3 rfl <|
 .lit 16000 (2) <|
 .known true <|
 .ix 2 3 rfl <|
 .ix 2 3 rfl <|
 .name 14007 ((i64.wrap (k * (m.2.2.Lo)))) fun ac =>
 .name 14008 ((i64.wrap (i.2.2.2.2.1 + ac))) fun ad =>
 .ix 2 3 rfl <|
 .ix 2 3 rfl <|
 .name 15007 ((i64.wrap (k * (m.2.2.Hi)))) fun ae =>
 .name 15008 ((i64.wrap (i.2.2.2.2.2.1 + ae))) fun af =>
 .ix 2 3 rfl <|
 .lit 16000 (3) <|
 .known false <|
 .nn (s, w, z, ab, ad, af, (i64.wrap (i.2.2.2.2.2.2.1 + k)), (i64.wrap (i.2.2.2.2.2.2.2 + 1)))))
 (.oo (i.1, i.2.1, i.2.2.1, i.2.2.2.1, i.2.2.2.2.1, i.2.2.2.2.2.1, i.2.2.2.2.2.2.1)))
 (0, 0, 0, 0, 0, 0, 0, 0) [] fun i =>
 .cut 1 (fun (j : Bool) => ⟨[(4, .ptr 0 0), (7, .ptr 1 0), (8, pz i.2.2.2.2.2.2), (78, .pure (.bool j))], [(0, .box [pz 0, pz 0, pz 0, pz 0, pz 0, pz 0]), (1, .box [pz i.1, pz i.2.1, pz i.2.2.1, pz i.2.2.2.1, pz i.2.2.2.2.1, pz i.2.2.2.2.2.1])], [], 2⟩)
 (.br (decide (i.2.2.2.2.2.2 < 1))
 (.oo true)
 (.oo (decide (i.2.2.2.2.2.2 > 65536)))) fun j =>
 .br j
 (.ret (((⟨0, 0⟩ : az0), (⟨0, 0⟩ : az0), (⟨0, 0⟩ : az0)), 0, false))
 (.ret (((⟨i.1, i.2.1⟩ : az0), (⟨i.2.2.1, i.2.2.2.1⟩ : az0), (⟨i.2.2.2.2.1, i.2.2.2.2.2.1⟩ : az0)), i.2.2.2.2.2.2, true)))
noncomputable def mz2 (c) (d) :=
 mkD Tryz.func220 (mz3 c d) 0 [.pure (encL 6 az4 c), .pure (encL 1 az1 d)] [] (fun r => .tup [.pure (az4 r.1), pz r.2.1, .pure (.bool r.2.2)]) (fun _ => [])
noncomputable def hzi (c : Int) : T Bool :=
 .br (decide (c ≥ 0))
 (.ret (decide (c ≤ 1048576)))
 (.ret false)
noncomputable def hzh (c) :=
 mkD Tryz.func221 (hzi c) 0 [pz c] [] (fun r => .pure (.bool r)) (fun _ => [])
noncomputable def hzg (c : A0) : T Int := let d := (c.length : Nat); .loop (fun (e : Ak) => ⟨[(3, pz e.1), (6, .pure (encL 1 az1 c)), (7, pz (d : Int)), (8, pz e.2)], [], [], 0⟩)
 (.exit 0) (fun (e : Int) => ⟨[(3, pz e)], [], [], 0⟩)
 (fun e => let f := c.getD ((e.2).toNat) default; .br (decide (e.2 < (d : Int)))
 (.gh e.2 c.length <|
 .nn ((max (max e.1 f) (i64.wrap (0 - f))), (i64.wrap (e.2 + 1))))
 (.oo e.1))
 (0, 0) [] fun e =>
 .ret e
noncomputable def fz7 (c) :=
 mkD Tryz.func222 (hzg c) 0 [.pure (encL 1 az1 c)] [] (fun r => pz r) (fun _ => [])
noncomputable def kz9 (c : A0) (d : A0) (e : Au) (f : Int) (g : Au) (h : Int) : T Am := let i := i64.wrap (f + h); .cc (mz2 e c) fun j =>
 .cc (mz2 g d) fun k => let m := ([(i64.wrap (j.1.1.Lo - k.1.1.Hi)), (i64.wrap (j.1.1.Hi - k.1.1.Lo))] : A0); let n := ([(i64.wrap (j.1.2.1.Lo - k.1.2.1.Hi)), (i64.wrap (j.1.2.1.Hi - k.1.2.1.Lo))] : A0); let q := ([(i64.wrap (j.1.2.2.Lo - k.1.2.2.Hi)), (i64.wrap (j.1.2.2.Hi - k.1.2.2.Lo))] : A0);
 .cut 1 (fun (s : Bool) => ⟨[(3, pz f), (5, pz h), (12, .ptr 0 0), (13, .ptr 1 0), (14, .ptr 2 0), (15, pz j.2.1), (17, .ptr 3 0), (59, .pure (.bool s))], [(0, .box [pz 0]), (1, .box [.ff]), (2, .box [pz j.1.1.Lo, pz j.1.1.Hi, pz j.1.2.1.Lo, pz j.1.2.1.Hi, pz j.1.2.2.Lo, pz j.1.2.2.Hi]), (3, .box [pz k.1.1.Lo, pz k.1.1.Hi, pz k.1.2.1.Lo, pz k.1.2.1.Hi, pz k.1.2.2.Lo, pz k.1.2.2.Hi])], [.func 219 [] [.ptr 0 0, .ptr 1 0]], 4⟩)
 (.br (!j.2.2)
 (.oo true)
 (.br (!k.2.2)
 (.oo true)
 (.br (j.2.1 != k.2.1)
 (.oo true)
 (.cc (hzh f) fun s =>
 .br (!s)
 (.oo true)
 (.cc (hzh h) fun t =>
 .oo (!t)))))) fun s =>
 .br s
 (.ret (0, false))
 (.unroll 4 <|
 .known true <|
 .ix 0 3 rfl <|
 .ix 0 3 rfl <|
 .ix 0 3 rfl <|
 .ix 0 3 rfl <|
 .conv 11018 (czq 1 az1 m 2) <|
 .cc (fz7 m) fun t => let w := i64.wrap ((i64.wrap ((i64.wrap (t + j.2.1)) - 1)).tdiv j.2.1);
 .grd (j.2.1 ≠ 0) <|
 .br (decide (w > i))
 (.ret ((-1), true))
 (.name 15003 ((i64.wrap (w * w))) fun y =>
 .name 15004 ((i64.wrap ((i64.wrap (i * i)) - y))) fun z =>
 .lit 16000 (1) <|
 .known true <|
 .ix 1 3 rfl <|
 .ix 1 3 rfl <|
 .ix 1 3 rfl <|
 .ix 1 3 rfl <|
 .conv 11018 (czq 1 az1 n 2) <|
 .cc (fz7 n) fun aa => let ab := i64.wrap ((i64.wrap ((i64.wrap (aa + j.2.1)) - 1)).tdiv j.2.1);
 .grd (j.2.1 ≠ 0) <|
 .br (decide (ab > i))
 (.ret ((-1), true))
 (.name 15003 ((i64.wrap (ab * ab))) fun ac =>
 .name 15004 ((i64.wrap (z - ac))) fun ad =>
 .lit 16000 (2) <|
 .known true <|
 .ix 2 3 rfl <|
 .ix 2 3 rfl <|
 .ix 2 3 rfl <|
 .ix 2 3 rfl <|
 .conv 11018 (czq 1 az1 q 2) <|
 .cc (fz7 q) fun ae => let af := i64.wrap ((i64.wrap ((i64.wrap (ae + j.2.1)) - 1)).tdiv j.2.1);
 .grd (j.2.1 ≠ 0) <|
 .br (decide (af > i))
 (.ret ((-1), true))
 (.name 15003 ((i64.wrap (af * af))) fun ag =>
 .name 15004 ((i64.wrap (ad - ag))) fun ah =>
 .lit 16000 (3) <|
 .known false <|
 .ret (ah, true)))))
noncomputable def rz1 (c) (d) (e) (f) (g) (h) :=
 mkC [⟨219, Ozk⟩] hd Tryz.func177 (by kernel_rfl) (kz9 c d e f g h) 0 [.pure (encL 1 az1 c), .pure (encL 1 az1 d), .pure (encL 6 az4 e), pz f, .pure (encL 6 az4 g), pz h] [] (fun r => .tup [pz r.1, .pure (.bool r.2)]) (fun _ => []) (by kernel_rfl)
noncomputable def hzf (c : A0) (d : A0) (e : Au) (f : Int) (g : Au) (h : Int) : T Bool :=
 .cc (rz1 c d e f g h) fun i =>
 .br i.2
 (.ret (decide (i.1 ≥ 0)))
 (.ret false)
noncomputable def hze (c) (d) (e) (f) (g) (h) :=
 mkC [⟨176, Ozj⟩] hd Tryz.func142 (by kernel_rfl) (hzf c d e f g h) 0 [.pure (encL 1 az1 c), .pure (encL 1 az1 d), .pure (encL 6 az4 e), pz f, .pure (encL 6 az4 g), pz h] [] (fun r => .pure (.bool r)) (fun _ => []) (by kernel_rfl)
noncomputable def vzj (c : dzd) : T dzo :=
 .ret (⟨2, nl, c.witness⟩ : dzo)
noncomputable def vzi (c) :=
 mkD Tryz.func143 (vzj c) 0 [.iface 219 (.pure (rz9 c))] [] (fun r => .pure (uzm r)) (fun _ => [])
noncomputable def tze (c : czz) : T dzo :=
 .ret (⟨1, c.normals, (⟨0, nl, nl⟩ : bz7)⟩ : dzo)
noncomputable def tzd (c) :=
 mkD Tryz.func143 (tze c) 0 [.iface 221 (.pure (pzg c))] [] (fun r => .pure (uzm r)) (fun _ => [])
noncomputable def nz5 (c : azm) (d : Ag) (e : Aq) : T dzo := let f := encL 3 az3 e; let g := (e.length : Int); .cc (qzm (⟨c.Robot, c.Shapes, c.Skips⟩ : azm) d) fun h => let i := (h.1.pairs.length : Int); let j : Nat × Res := (4, .box [.pure (encL 3 azw h.1.shapes), .pure (encL 2 gzb h.1.pairs), .pure (encL 1 (encL 6 az4) h.1.points)]);
 .br (!h.2)
 (.ret (⟨0, nl, (⟨0, nl, nl⟩ : bz7)⟩ : dzo))
 (.conv 5003 (Dza 3 az3 78 i.toNat (0, 0, 0)) <|
 .grd (0 ≤ i /\ i ≤ i /\ i ≤ 9223372036854775807 /\ i * 24 ≤ 140737488355328) <|
 .loop (fun (k : (Aq × Bool × Int)) => ⟨[(2, .pure f), (6, .ptr 0 0), (7, .ptr 4 0), (9, .vec 5), (10, .pure (.bool k.2.1)), (33, pz i), (34, pz k.2.2)], [(0, .box [pz 0, .vec 1, pz 0, .vec 2, .vec 3]), (1, .nilv), (2, .nilv), (3, .nilv), j, (5, vecO 3 az3 k.1 78)], [.func 136 [] [.ptr 0 0]], 6⟩)
 (.exit 0) (fun (k : (Aq × Bool)) => ⟨[(6, .ptr 0 0), (9, .vec 4), (10, .pure (.bool k.2))], [(0, .box [pz 0, .vec 1, pz 0, .vec 2, .vec 3]), (1, .nilv), (2, .nilv), (3, .nilv), (4, vecO 3 az3 k.1 78)], [.func 136 [] [.ptr 0 0]], 5⟩)
 (fun k => let m := k.2.2; let n := min k.2.2 g; let q := i64.wrap (k.2.2 + 1); let s := min q g; .br (decide (k.2.2 < i))
 (.cut 0 (fun (t : (Aq × Bool)) => ⟨[(2, .pure f), (6, .ptr 0 0), (7, .ptr 4 0), (9, .vec 5), (10, .pure (.bool t.2)), (33, pz i), (34, pz k.2.2)], [(0, .box [pz 0, .vec 1, pz 0, .vec 2, .vec 3]), (1, .nilv), (2, .nilv), (3, .nilv), j, (5, vecO 3 az3 t.1 78)], [.func 136 [] [.ptr 0 0]], 6⟩)
 (.cc (vzg (⟨h.1.shapes, h.1.pairs, h.1.points⟩ : bzv) k.2.2) fun t =>
 .conv 11010 (Rzb 3 az3 e n s) <|
 .grd (0 ≤ n /\ n ≤ s /\ s ≤ g) <|
 .call (nzq t.a t.ra t.b t.rb ((e.drop (n.toNat)).take (s.toNat - n.toNat))) [] fun w =>
 .br w.2
 (.gh k.2.2 k.1.length <|
 .conv 14004 (fz1 3 az3 k.1 78 (m.toNat) w.1) <|
 .gi m k.1.length <|
 .oo ((k.1.set (m.toNat) w.1), k.2.1))
 (.cc (cz6 t.a) fun y =>
 .cc (cz6 t.b) fun z =>
 .cc (dzv y z (i64.wrap (t.ra + t.rb)) 64) fun aa =>
 .cc (hze aa.Left aa.Right t.a t.ra t.b t.rb) fun ab =>
 .br ab
 (.cc (vzi (⟨(⟨k.2.2, aa.Left, aa.Right⟩ : bz7)⟩ : dzd)) fun ac =>
 .ff (.fin ac))
 (.oo (k.1, false)))) fun t =>
 .nn (t.1, t.2, q))
 (.oo (k.1, k.2.1)))
 ((List.replicate i.toNat ((0, 0, 0) : Ap)), true, 0) [] fun k =>
 .br (!k.2)
 (.ret (⟨0, k.1, (⟨0, nl, nl⟩ : bz7)⟩ : dzo))
 (.cc (tzd (⟨k.1⟩ : czz)) fun m =>
 .ret m))
noncomputable def jz1 (c) (d) (e) :=
 mkC [⟨136, Ozh⟩] hd Tryz.func106 (by kernel_rfl) (nz5 c d e) 0 [.pure (ezs c), .pure (encL 2 aze d), .pure (encL 3 az3 e)] [] (fun r => .pure (uzm r)) (fun _ => []) (by kernel_rfl)
abbrev nza := RecS Tryz.prog 104 8 (Int × Int × Aq × Ab × Int × Ab × Int × Int × Aq × Int × A0 × A0 × A0 × A0 × A3 × A4 × A5 × A6 × Int) B7 (fun a => [pz a.1, pz a.2.1, .pure (encL 3 az3 a.2.2.1), .ptr 0 0, .ptr 2 0, .ptr 3 0, .ptr 4 0, .ptr 5 0, .ptr 6 0, .ptr 7 0]) (fun a => [(0, .box [.vec 1]), (1, vecO 3 bz2 a.2.2.2.1 58), (2, .box [pz a.2.2.2.2.1, .pure (encL 3 bz2 a.2.2.2.2.2.1), pz a.2.2.2.2.2.2.1, pz a.2.2.2.2.2.2.2.1, .pure (encL 3 az3 a.2.2.2.2.2.2.2.2.1), pz a.2.2.2.2.2.2.2.2.2.1, .pure (encL 1 az1 a.2.2.2.2.2.2.2.2.2.2.1), .pure (encL 1 az1 a.2.2.2.2.2.2.2.2.2.2.2.1)]), (3, .box [.pure (encL 1 az1 a.2.2.2.2.2.2.2.2.2.2.2.2.1)]), (4, .box [.pure (encL 1 az1 a.2.2.2.2.2.2.2.2.2.2.2.2.2.1)]), (5, .box [.pure (encL 12 azg a.2.2.2.2.2.2.2.2.2.2.2.2.2.2.1), .pure (encL 5 azj a.2.2.2.2.2.2.2.2.2.2.2.2.2.2.2.1), .pure (encL 3 azw a.2.2.2.2.2.2.2.2.2.2.2.2.2.2.2.2.1), .pure (encL 2 bzu a.2.2.2.2.2.2.2.2.2.2.2.2.2.2.2.2.2.1)]), (6, .box [pz a.2.2.2.2.2.2.2.2.2.2.2.2.2.2.2.2.2.2]), (7, .box [.func 104 [] [.ptr 0 0, .ptr 2 0, .ptr 3 0, .ptr 4 0, .ptr 5 0, .ptr 6 0, .ptr 7 0]])]) (fun _ r => .pure (.bool r.1)) (fun _ r => [(0, .box [.vec 8]), (1, .gone), (2, .box [pz r.2.2.1, .pure (encL 3 bz2 r.2.2.2.1), pz r.2.2.2.2.1, pz r.2.2.2.2.2.1, .pure (encL 3 az3 r.2.2.2.2.2.2.1), pz r.2.2.2.2.2.2.2.1, .pure (encL 1 az1 r.2.2.2.2.2.2.2.2.1), .pure (encL 1 az1 r.2.2.2.2.2.2.2.2.2.1)]), (3, .box [.pure (encL 1 az1 r.2.2.2.2.2.2.2.2.2.2.1)]), (4, .box [.pure (encL 1 az1 r.2.2.2.2.2.2.2.2.2.2.2.1)]), (5, .box [.pure (encL 12 azg r.2.2.2.2.2.2.2.2.2.2.2.2.1), .pure (encL 5 azj r.2.2.2.2.2.2.2.2.2.2.2.2.2.1), .pure (encL 3 azw r.2.2.2.2.2.2.2.2.2.2.2.2.2.2.1), .pure (encL 2 bzu r.2.2.2.2.2.2.2.2.2.2.2.2.2.2.2.1)]), (6, .box [pz r.2.2.2.2.2.2.2.2.2.2.2.2.2.2.2.2]), (7, .box [.func 104 [] [.ptr 0 0, .ptr 2 0, .ptr 3 0, .ptr 4 0, .ptr 5 0, .ptr 6 0, .ptr 7 0]]), (8, vecO 3 bz2 r.2.1 58)])
noncomputable def nzb (rec : nza) (c : Int) (d : Int) (e : Aq) (f : Ab) (g : Int) (h : Ab) (i : Int) (j : Int) (k : Aq) (m : Int) (n : A0) (q : A0) (s : A0) (t : A0) (w : A3) (y : A4) (z : A5) (aa : A6) (ab : Int) : T B7 := let ac := i64.wrap (c + 1); let ad := i64.wrap (2 * d); .br (decide ((f.length : Int) ≥ 4096))
 (.ret (false, f, 0, nl, c, d, nl, 0, nl, nl, s, t, w, y, z, aa, ab))
 (.cc (tzn s t c d) fun ae =>
 .cc (jz1 (⟨(⟨w, y⟩ : azn), z, aa⟩ : azm) ae.1 e) fun af => let ag := ([(⟨c, d, af.Normals⟩ : azp)] : Ab); let ah := f.length + ag.length;
 .br (af.Kind == 1)
 (.conv 8006 (czq 3 bz2 ag 58) <|
 .conv 8007 (fzn 3 bz2 f ag 58) <|
 .grd (ah * 40 ≤ 140737488355328 /\ ah ≤ maxLen) <|
 .ret (true, (f ++ ag), g, h, i, j, k, m, n, q, s, t, w, y, z, aa, ab))
 (.br (af.Kind == 2)
 (.ret (false, f, 2, nl, c, d, nl, af.Witness.Pair, af.Witness.Left, af.Witness.Right, s, t, w, y, z, aa, ab))
 (.br (decide (c < ab))
 (.call (rec.C (ac, ad, af.Normals, f, g, h, i, j, k, m, n, q, s, t, w, y, z, aa, ab)) [(0, 0), (1, 1), (2, 2), (3, 3), (4, 4), (5, 5), (6, 6), (7, 7)] fun ai =>
 .br ai.1
 (.call (rec.C (ac, (i64.wrap (ad + 1)), af.Normals, ai.2.1, ai.2.2.1, ai.2.2.2.1, ai.2.2.2.2.1, ai.2.2.2.2.2.1, ai.2.2.2.2.2.2.1, ai.2.2.2.2.2.2.2.1, ai.2.2.2.2.2.2.2.2.1, ai.2.2.2.2.2.2.2.2.2.1, ai.2.2.2.2.2.2.2.2.2.2.1, ai.2.2.2.2.2.2.2.2.2.2.2.1, ai.2.2.2.2.2.2.2.2.2.2.2.2.1, ai.2.2.2.2.2.2.2.2.2.2.2.2.2.1, ai.2.2.2.2.2.2.2.2.2.2.2.2.2.2.1, ai.2.2.2.2.2.2.2.2.2.2.2.2.2.2.2.1, ai.2.2.2.2.2.2.2.2.2.2.2.2.2.2.2.2)) [(0, 0), (1, 2824), (2, 2), (3, 3), (4, 4), (5, 5), (6, 6), (7, 7)] fun aj =>
 .ret (aj.1, aj.2.1, aj.2.2.1, aj.2.2.2.1, aj.2.2.2.2.1, aj.2.2.2.2.2.1, aj.2.2.2.2.2.2.1, aj.2.2.2.2.2.2.2.1, aj.2.2.2.2.2.2.2.2.1, aj.2.2.2.2.2.2.2.2.2.1, aj.2.2.2.2.2.2.2.2.2.2.1, aj.2.2.2.2.2.2.2.2.2.2.2.1, aj.2.2.2.2.2.2.2.2.2.2.2.2.1, aj.2.2.2.2.2.2.2.2.2.2.2.2.2.1, aj.2.2.2.2.2.2.2.2.2.2.2.2.2.2.1, aj.2.2.2.2.2.2.2.2.2.2.2.2.2.2.2.1, aj.2.2.2.2.2.2.2.2.2.2.2.2.2.2.2.2))
 (.ret (false, ai.2.1, ai.2.2.1, ai.2.2.2.1, ai.2.2.2.2.1, ai.2.2.2.2.2.1, ai.2.2.2.2.2.2.1, ai.2.2.2.2.2.2.2.1, ai.2.2.2.2.2.2.2.2.1, ai.2.2.2.2.2.2.2.2.2.1, ai.2.2.2.2.2.2.2.2.2.2.1, ai.2.2.2.2.2.2.2.2.2.2.2.1, ai.2.2.2.2.2.2.2.2.2.2.2.2.1, ai.2.2.2.2.2.2.2.2.2.2.2.2.2.1, ai.2.2.2.2.2.2.2.2.2.2.2.2.2.2.1, ai.2.2.2.2.2.2.2.2.2.2.2.2.2.2.2.1, ai.2.2.2.2.2.2.2.2.2.2.2.2.2.2.2.2)))
 (.ret (false, f, 0, nl, c, d, nl, 0, nl, nl, s, t, w, y, z, aa, ab)))))
noncomputable def ezy : nza -> nza := RecS.next [] hd Tryz.func104 (by kernel_rfl) (fun rec a => nzb rec a.1 a.2.1 a.2.2.1 a.2.2.2.1 a.2.2.2.2.1 a.2.2.2.2.2.1 a.2.2.2.2.2.2.1 a.2.2.2.2.2.2.2.1 a.2.2.2.2.2.2.2.2.1 a.2.2.2.2.2.2.2.2.2.1 a.2.2.2.2.2.2.2.2.2.2.1 a.2.2.2.2.2.2.2.2.2.2.2.1 a.2.2.2.2.2.2.2.2.2.2.2.2.1 a.2.2.2.2.2.2.2.2.2.2.2.2.2.1 a.2.2.2.2.2.2.2.2.2.2.2.2.2.2.1 a.2.2.2.2.2.2.2.2.2.2.2.2.2.2.2.1 a.2.2.2.2.2.2.2.2.2.2.2.2.2.2.2.2.1 a.2.2.2.2.2.2.2.2.2.2.2.2.2.2.2.2.2.1 a.2.2.2.2.2.2.2.2.2.2.2.2.2.2.2.2.2.2) (fun rec a => by kernel_rfl)
noncomputable def tzp (a0 : Int) (a1 : Int) (a2 : Aq) (a3 : Ab) (a4 : Int) (a5 : Ab) (a6 : Int) (a7 : Int) (a8 : Aq) (a9 : Int) (a10 : A0) (a11 : A0) (a12 : A0) (a13 : A0) (a14 : A3) (a15 : A4) (a16 : A5) (a17 : A6) (a18 : Int) : CallS B7 := (RecS.fix ezy NN).C (a0, a1, a2, a3, a4, a5, a6, a7, a8, a9, a10, a11, a12, a13, a14, a15, a16, a17, a18)
noncomputable def rzj (c : azm) (d : A0) (e : A0) (f : Int) : T azl := let g := encL 1 az1 d; let h := encL 1 az1 e; let i : Nat × Res := (0, .box [.pure (encL 12 azg c.Robot.Joints), .pure (encL 5 azj c.Robot.Masses), .pure (encL 3 azw c.Shapes), .pure (encL 2 bzu c.Skips)]); .unroll 1000 <|
 .cut 2 (fun (j : Bool) => ⟨[(4, .ptr 0 0), (5, .ptr 1 0), (6, .ptr 2 0), (7, .ptr 3 0), (8, .ptr 4 0), (28, .pure (.bool j))], [i, (1, .box [.pure g]), (2, .box [.pure h]), (3, .box [pz f]), (4, .box [pz 0, .pure (.lst 0 0 fun _ => .unk), pz 0, pz 0, .pure (.lst 0 0 fun _ => .unk), pz 0, .pure (.lst 0 0 fun _ => .unk), .pure (.lst 0 0 fun _ => .unk)])], [.func 102 [] [.ptr 4 0]], 5⟩)
 (.cc (dzg (⟨c.Robot, c.Shapes, c.Skips⟩ : azm)) fun j =>
 .br (j != 0)
 (.oo true)
 (.cc (lze c.Robot d) fun k =>
 .br (!k)
 (.oo true)
 (.cc (lze c.Robot e) fun m =>
 .oo (!m)))) fun j =>
 .br j
 (.ret (⟨0, nl, (⟨0, 0, nl⟩ : azp), (⟨0, nl, nl⟩ : bz7)⟩ : azl))
 (.cut 1 (fun (k : Bool) => ⟨[(4, .ptr 0 0), (5, .ptr 1 0), (6, .ptr 2 0), (7, .ptr 3 0), (8, .ptr 4 0), (35, .pure (.bool k))], [i, (1, .box [.pure g]), (2, .box [.pure h]), (3, .box [pz f]), (4, .box [pz 0, .pure (.lst 0 0 fun _ => .unk), pz 0, pz 0, .pure (.lst 0 0 fun _ => .unk), pz 0, .pure (.lst 0 0 fun _ => .unk), .pure (.lst 0 0 fun _ => .unk)])], [.func 102 [] [.ptr 4 0]], 5⟩)
 (.br (decide (f < 0))
 (.oo true)
 (.oo (decide (f > 20)))) fun k =>
 .br k
 (.ret (⟨0, nl, (⟨0, 0, nl⟩ : azp), (⟨0, nl, nl⟩ : bz7)⟩ : azl))
 (.cut 3 (fun (m : (Int × Ab × Int × Int × Aq × Int × A0 × A0)) => ⟨[(8, .ptr 0 0)], [(0, .box [pz m.1, .pure (encL 3 bz2 m.2.1), pz m.2.2.1, pz m.2.2.2.1, .pure (encL 3 az3 m.2.2.2.2.1), pz m.2.2.2.2.2.1, .pure (encL 1 az1 m.2.2.2.2.2.2.1), .pure (encL 1 az1 m.2.2.2.2.2.2.2)])], [.func 102 [] [.ptr 0 0]], 1⟩)
 (.call (tzp 0 0 nl nl 0 nl 0 0 nl 0 nl nl d e c.Robot.Joints c.Robot.Masses c.Shapes c.Skips f) [(0, 5), (1, 6), (2, 4), (3, 1), (4, 2), (5, 0), (6, 3), (7, 69)] fun m =>
 .br m.1
 (.oo (1, m.2.1, 0, 0, nl, 0, nl, nl))
 (.oo (m.2.2.1, m.2.2.2.1, m.2.2.2.2.1, m.2.2.2.2.2.1, m.2.2.2.2.2.2.1, m.2.2.2.2.2.2.2.1, m.2.2.2.2.2.2.2.2.1, m.2.2.2.2.2.2.2.2.2.1))) fun m =>
 .ret (⟨m.1, m.2.1, (⟨m.2.2.1, m.2.2.2.1, m.2.2.2.2.1⟩ : azp), (⟨m.2.2.2.2.2.1, m.2.2.2.2.2.2.1, m.2.2.2.2.2.2.2⟩ : bz7)⟩ : azl)))
noncomputable def jzg (c) (d) (e) (f) :=
 mkC [⟨102, Ozg⟩] hd Tryz.func71 (by kernel_rfl) (rzj c d e f) 0 [.pure (ezs c), .pure (encL 1 az1 d), .pure (encL 1 az1 e), pz f] [] (fun r => .pure (ezz r)) (fun _ => []) (by kernel_rfl)
noncomputable def qzb (c : azm) (d : A1) (e : A7) (f : Nat) (g : Nat) (h : Int) (i : Int) : T Ao := let j := f + (h.toNat); let k := kzq d e f g; let m := e.getD j default; let n := m.U; let q := m.V; let s := m.State; let t : Nat × Res := (3, .box [.vec 0, .view 1 12 f g]); let w : Nat × Res := (2, .box [.pure (encL 12 azg c.Robot.Joints), .pure (encL 5 azj c.Robot.Masses), .pure (encL 3 azw c.Shapes), .pure (encL 2 bzu c.Skips)]); .cut 3 (fun (y : Bool) => ⟨[(2, pz h), (3, pz i), (4, .ptr 2 0), (5, .ptr 3 0), (8, .ptr 4 0), (9, .ptr 7 0), (20, .pure (.bool y))], [(0, vecO 1 (encL 1 az1) d 59), (1, vecO 12 az5 e 65), w, t, (4, .box [.vec 5, .vec 6]), (5, .nilv), (6, .nilv), (7, .box [.ff])], [.func 70 [] [.ptr 4 0, .ptr 7 0]], 8⟩)
 (.br (decide (h < 0))
 (.oo true)
 (.oo (decide (h ≥ (g : Int))))) fun y =>
 .br y
 (.call k [(0, 0), (1, 1)] fun z =>
 .ret (z.1, z.2, false))
 (.gh h g <|
 .grd (j < e.length) <|
 .cut 1 (fun (z : Bool) => ⟨[(2, pz h), (3, pz i), (4, .ptr 2 0), (5, .ptr 3 0), (8, .ptr 4 0), (9, .ptr 7 0), (10, .ptr 8 0), (49, .pure (.bool z))], [(0, vecO 1 (encL 1 az1) d 59), (1, vecO 12 az5 e 65), w, t, (4, .box [.vec 5, .vec 6]), (5, .nilv), (6, .nilv), (7, .box [.ff]), (8, .box [pz n, pz q, pz (m.Cost), pz s, pz (m.Proof.Kind), .pure (encL 3 bz2 (m.Proof.Pieces)), pz (m.Proof.At.Depth), pz (m.Proof.At.Index), .pure (encL 3 az3 (m.Proof.At.Normals)), pz (m.Proof.Witness.Pair), .pure (encL 1 az1 (m.Proof.Witness.Left)), .pure (encL 1 az1 (m.Proof.Witness.Right))])], [.func 70 [] [.ptr 4 0, .ptr 7 0]], 9⟩)
 (.call (hzw d e f g n) [(0, 0), (1, 1)] fun z =>
 .br (!z)
 (.oo true)
 (.call (hzw d e f g q) [(0, 0), (1, 1)] fun aa =>
 .br (!aa)
 (.oo true)
 (.br (s == 1)
 (.oo true)
 (.oo (s == 2))))) fun z =>
 .br z
 (.call k [(0, 0), (1, 1)] fun aa =>
 .ret (aa.1, aa.2, false))
 (.gg n d.length <|
 .gg q d.length <|
 .call (jzg (⟨c.Robot, c.Shapes, c.Skips⟩ : azm) (d.getD (n.toNat) default) (d.getD (q.toNat) default) i) [] fun aa =>
 .call (kzd d e f g h aa) [(0, 0), (1, 1)] fun ab =>
 .ret (ab.1, ab.2.1, ab.2.2)))
noncomputable def wzg (c) (d) (e) (f) (g) (h) (i) :=
 mkC [⟨70, Rzm⟩] hd Tryz.func40 (by kernel_rfl) (qzb c d e f g h i) 2 [.pure (ezs c), .agg [.vec 0, .view 1 12 f g], pz h, pz i] [(0, vecO 1 (encL 1 az1) d 59), (1, vecO 12 az5 e 65)] (fun r => .tup [.agg [.vec 2, .vec 3], .pure (.bool r.2.2)]) (fun r => [(0, vecO 1 (encL 1 az1) d 59), (1, vecO 12 az5 e 65), (2, vecO 1 (encL 1 az1) r.1 59), (3, vecO 12 az5 r.2.1 65)]) (by kernel_rfl)
noncomputable def hzu (c : azm) (d : azb) (e : Int) (f : Int) (g : Int) (h : Int) : T (azb × bzs × Int × Int) := let i : Nat × Res := (0, .box [.pure (encL 12 azg c.Robot.Joints), .pure (encL 5 azj c.Robot.Masses), .pure (encL 3 azw c.Shapes), .pure (encL 2 bzu c.Skips)]); .cc (mzw (⟨d.Points, d.Edges⟩ : azb)) fun j =>
 .cc (dzg c) fun k =>
 .br (k != 0)
 (.ret ((⟨j.1, j.2⟩ : azb), (⟨nl, 0⟩ : bzs), 0, 0))
 (.loop (fun (m : Aa) => ⟨[(2, pz e), (3, pz f), (4, pz g), (5, pz h), (6, .ptr 0 0), (12, .ptr 1 0), (13, .ptr 4 0), (14, .ptr 6 0), (15, .ptr 7 0)], [i, (1, .box [.vec 2, .vec 3]), (2, vecO 1 (encL 1 az1) j.1 59), (3, vecO 12 az5 m.1 65), (4, .box [.vec 5, pz 0]), (5, .nilv), (6, .box [pz 0]), (7, .box [pz m.2])], [.func 37 [] [.ptr 1 0, .ptr 4 0, .ptr 6 0, .ptr 7 0]], 8⟩)
 .ret (fun (_ : U0) => ⟨[], [], [], 0⟩)
 (fun m => let n := (⟨j.1, m.1⟩ : azb); .call (szq j.1 m.1 e f) [(0, 2), (1, 3)] fun q => let s := (q.1).toNat; let t := i64.wrap (q.1 + 1); let w := (⟨q.2.1, q.2.2.1⟩ : bzs);
 .br (q.2.2.2 != 3)
 (.ff (n, w, q.2.2.2, m.2))
 (.br (decide (m.2 ≥ h))
 (.ff (n, w, 4, m.2))
 (.unroll 2 <|
 .grd (0 ≤ q.1 /\ q.1 ≤ t /\ t ≤ (m.1.length : Int)) <|
 .cut 0 (fun (y : A7) => ⟨[(2, pz e), (3, pz f), (4, pz g), (5, pz h), (6, .ptr 0 0), (12, .ptr 1 0), (13, .ptr 4 0), (14, .ptr 6 0), (15, .ptr 7 0)], [i, (1, .box [.vec 2, .vec 3]), (2, vecO 1 (encL 1 az1) j.1 59), (3, vecO 12 az5 y 65), (4, .box [.vec 5, pz 0]), (5, .nilv), (6, .box [pz 0]), (7, .box [pz m.2])], [.func 37 [] [.ptr 1 0, .ptr 4 0, .ptr 6 0, .ptr 7 0]], 8⟩)
 (.call (wzg (⟨c.Robot, c.Shapes, c.Skips⟩ : azm) j.1 m.1 s (t.toNat - (q.1).toNat) 0 g) [(0, 2), (1, 3)] fun y => let z := y.2.1.getD ((0 : Int).toNat) default;
 .br y.2.2
 (.gg (0 : Int) y.2.1.length <|
 .gh q.1 m.1.length <|
 .conv 13008 (fz1 12 az5 m.1 65 s z) <|
 .gi (q.1) m.1.length <|
 .oo (m.1.set s z))
 (.oo m.1)) fun y =>
 .nn (y, (i64.wrap (m.2 + 1))))))
 (j.2, 0) [] fun _ =>
 .stop)
noncomputable def hzt (c) (d) (e) (f) (g) (h) :=
 mkC [⟨37, Rzj⟩] hd Tryz.func15 (by kernel_rfl) (hzu c d e f g h) 0 [.pure (ezs c), .pure (bzm d), pz e, pz f, pz g, pz h] [] (fun r => .tup [.pure (bzm r.1), .pure (rzk r.2.1), pz r.2.2.1, pz r.2.2.2]) (fun _ => []) (by kernel_rfl)
noncomputable def Gz2 (a0 : Int) : T azl :=
 .br (a0 == 1)
 (.conv 3001 (Lzg 3 bz2 ([(⟨0, 0, nl⟩ : azp)] : Ab) 58 [.agg [.int .i64 0, .int .i64 0, .lst 0 0 fun _ => .unk]] (by kernel_rfl)) <|
 .ret (⟨1, ([(⟨0, 0, nl⟩ : azp)] : Ab), (⟨0, 0, nl⟩ : azp), (⟨0, nl, nl⟩ : bz7)⟩ : azl))
 (.br (a0 == 2)
 (.conv 5000 (czq 1 az1 ([1] : A0) 2) <|
 .conv 5001 (czq 1 az1 ([1] : A0) 2) <|
 .ret (⟨2, nl, (⟨0, 0, nl⟩ : azp), (⟨0, ([1] : A0), ([1] : A0)⟩ : bz7)⟩ : azl))
 (.br (a0 == 3)
 (.ret (⟨0, nl, (⟨1, 0, nl⟩ : azp), (⟨0, nl, nl⟩ : bz7)⟩ : azl))
 (.ret (⟨0, nl, (⟨0, 0, nl⟩ : azp), (⟨0, nl, nl⟩ : bz7)⟩ : azl))))
noncomputable def rzy (c) :=
 mkD Tryz.func56 (Gz2 c) 0 [pz c] [] (fun r => .pure (ezz r)) (fun _ => [])
noncomputable def yzs (c : Int) : T azb := let d := rzy c; .conv 1000 (czq 1 az1 ([0] : A0) 2) <|
 .conv 1001 (czq 1 az1 ([1] : A0) 2) <|
 .conv 1002 (czq 1 az1 ([2] : A0) 2) <|
 .conv 1003 (czq 1 (encL 1 az1) ([([0] : A0), ([1] : A0), ([2] : A0)] : A1) 59) <|
 .cc d fun e =>
 .cc d fun f =>
 .cc d fun g => let h := ([(⟨0, 1, 1, c, e⟩ : az2), (⟨0, 2, 3, c, f⟩ : az2), (⟨1, 2, 1, c, g⟩ : az2)] : A7);
 .conv 2012 (czq 12 az5 h 65) <|
 .ret (⟨([([0] : A0), ([1] : A0), ([2] : A0)] : A1), h⟩ : azb)
noncomputable def qzt (c) :=
 mkD Tryz.func23 (yzs c) 0 [pz c] [] (fun r => .pure (bzm r)) (fun _ => [])
noncomputable def xzw (c : azb) (d : Int) (e : Int) (f : Int) : T (bzs × Bool) :=
 .cut 3 (fun (g : Bool) => ⟨[(1, pz d), (2, pz e), (3, pz f), (4, .ptr 0 0), (8, .ptr 1 0), (9, .ptr 3 0), (33, .pure (.bool g))], [(0, .box [.pure (encL 1 (encL 1 az1) c.Points), .pure (encL 12 az5 c.Edges)]), (1, .box [.vec 2, pz 0]), (2, .nilv), (3, .box [.ff])], [.func 57 [] [.ptr 1 0, .ptr 3 0]], 4⟩)
 (.cc (ezp c) fun g =>
 .br (!g)
 (.oo true)
 (.cc (czr c d) fun h =>
 .br (!h)
 (.oo true)
 (.cc (czr c e) fun i =>
 .br (!i)
 (.oo true)
 (.br (decide (f < 0))
 (.oo true)
 (.oo (decide (f > 2))))))) fun g =>
 .br g
 (.ret ((⟨nl, 0⟩ : bzs), false))
 (.cc (gza c f) fun h =>
 .cc (dzn h d e) fun i =>
 .ret ((⟨i.1, i.2.1⟩ : bzs), i.2.2))
noncomputable def xzv (c) (d) (e) (f) :=
 mkC [⟨57, Rzl⟩] hd Tryz.func24 (by kernel_rfl) (xzw c d e f) 0 [.pure (bzm c), pz d, pz e, pz f] [] (fun r => .tup [.pure (rzk r.1), .pure (.bool r.2)]) (fun _ => []) (by kernel_rfl)
noncomputable def Azc (c : A0) (d : A0) : T Bool := let e := (c.length : Nat); .br ((e : Int) != (d.length : Int))
 (.ret false)
 (.loop (fun (f : Int) => ⟨[(0, .pure (encL 1 az1 c)), (1, .pure (encL 1 az1 d)), (5, pz f)], [], [], 0⟩)
 (.exit 0) (fun (_ : U0) => ⟨[], [], [], 0⟩)
 (fun f => .br (decide (f < (e : Int)))
 (.gh f c.length <|
 .gh f d.length <|
 .br ((c.getD (f.toNat) default) != (d.getD (f.toNat) default))
 (.ff false)
 (.nn (i64.wrap (f + 1))))
 (.oo .u))
 0 [] fun _ =>
 .ret true)
noncomputable def Azb (c) (d) :=
 mkD Tryz.func47 (Azc c d) 0 [.pure (encL 1 az1 c), .pure (encL 1 az1 d)] [] (fun r => .pure (.bool r)) (fun _ => [])
noncomputable def yzu (c : bzs) (d : bzs) : T Bool :=
 .br (c.Cost == d.Cost)
 (.cc (Azb c.Vertices d.Vertices) fun e =>
 .ret e)
 (.ret false)
noncomputable def yzt (c) (d) :=
 mkD Tryz.func18 (yzu c d) 0 [.pure (rzk c), .pure (rzk d)] [] (fun r => .pure (.bool r)) (fun _ => [])
noncomputable def Dzw : T Bool :=
 .cc (qzt 0) fun c =>
 .cc (ezo c 0 2) fun d =>
 .cc (qzt 1) fun e =>
 .cc (xzv e 0 2 0) fun f =>
 .br (d.1 == 0)
 (.br (d.2.2.2 == 3)
 (.br f.2
 (.conv 3011 (czq 1 az1 ([0, 1, 2] : A0) 3) <|
 .cc (yzt f.1 (⟨([0, 1, 2] : A0), 2⟩ : bzs)) fun g =>
 .ret g)
 (.ret false))
 (.ret false))
 (.ret false)
noncomputable def vzt : CallS Bool :=
 mkD Tryz.func9 (Dzw) 0 [] [] (fun r => .pure (.bool r)) (fun _ => [])
noncomputable def izc (c : A0) (d : A0) : T Bool := let e := (c.length : Nat); .br ((e : Int) != (d.length : Int))
 (.ret false)
 (.loop (fun (f : Int) => ⟨[(0, .pure (encL 1 az1 c)), (1, .pure (encL 1 az1 d)), (5, pz f)], [], [], 0⟩)
 (.exit 0) (fun (_ : U0) => ⟨[], [], [], 0⟩)
 (fun f => .br (decide (f < (e : Int)))
 (.gh f c.length <|
 .gh f d.length <|
 .br ((c.getD (f.toNat) default) != (d.getD (f.toNat) default))
 (.ff false)
 (.nn (i64.wrap (f + 1))))
 (.oo .u))
 0 [] fun _ =>
 .ret true)
noncomputable def ozs (c) (d) :=
 mkD Tryz.func48 (izc c d) 0 [.pure (encL 1 az1 c), .pure (encL 1 az1 d)] [] (fun r => .pure (.bool r)) (fun _ => [])
noncomputable def fz3 (c : A1) (d : A1) : T Bool := let e := (c.length : Nat); .br ((e : Int) != (d.length : Int))
 (.ret false)
 (.loop (fun (f : Int) => ⟨[(0, .pure (encL 1 (encL 1 az1) c)), (1, .pure (encL 1 (encL 1 az1) d)), (5, pz f)], [], [], 0⟩)
 (.exit 0) (fun (_ : U0) => ⟨[], [], [], 0⟩)
 (fun f => .br (decide (f < (e : Int)))
 (.gh f c.length <|
 .gh f d.length <|
 .cc (ozs (c.getD (f.toNat) default) (d.getD (f.toNat) default)) fun g =>
 .br (!g)
 (.ff false)
 (.nn (i64.wrap (f + 1))))
 (.oo .u))
 0 [] fun _ =>
 .ret true)
noncomputable def fz2 (c) (d) :=
 mkD Tryz.func19 (fz3 c d) 0 [.pure (encL 1 (encL 1 az1) c), .pure (encL 1 (encL 1 az1) d)] [] (fun r => .pure (.bool r)) (fun _ => [])
noncomputable def lzv (c : azb) : T Bool := let d := (c.Edges.length : Nat); let e := (c.Points.length : Nat); let f : Nat × Res := (0, .box [.pure (encL 1 (encL 1 az1) c.Points), .pure (encL 12 az5 c.Edges)]); .loop (fun (g : Int) => ⟨[(1, .ptr 0 0), (3, pz g)], [f], [], 1⟩)
 (.exit 0) (fun (_ : U0) => ⟨[(1, .ptr 0 0)], [f], [], 1⟩)
 (fun g => let h := i64.wrap (g - 1); let i := c.Edges.getD (g.toNat) default; let j := i.U; let k := i.V; let m := c.Edges.getD (h.toNat) default; .br (decide (g < (d : Int)))
 (.gh g c.Edges.length <|
 .cut 1 (fun (n : Bool) => ⟨[(1, .ptr 0 0), (3, pz g), (4, .ptr 1 0), (34, .pure (.bool n))], [f, (1, .box [pz j, pz k, pz (i.Cost), pz (i.State), pz (i.Proof.Kind), .pure (encL 3 bz2 (i.Proof.Pieces)), pz (i.Proof.At.Depth), pz (i.Proof.At.Index), .pure (encL 3 az3 (i.Proof.At.Normals)), pz (i.Proof.Witness.Pair), .pure (encL 1 az1 (i.Proof.Witness.Left)), .pure (encL 1 az1 (i.Proof.Witness.Right))])], [], 2⟩)
 (.br (decide (j < 0))
 (.oo true)
 (.br (decide (j ≥ k))
 (.oo true)
 (.oo (decide (k ≥ (e : Int)))))) fun n =>
 .br n
 (.ff false)
 (.cut 0 (fun (q : Bool) => ⟨[(1, .ptr 0 0), (3, pz g), (72, .pure (.bool q))], [f], [], 1⟩)
 (.br (decide (g > 0))
 (.gh h c.Edges.length <|
 .br (decide ((m.U) > j))
 (.oo true)
 (.gh h c.Edges.length <|
 .br ((m.U) == j)
 (.gh h c.Edges.length <|
 .oo (decide ((m.V) ≥ k)))
 (.oo false)))
 (.oo false)) fun q =>
 .br q
 (.ff false)
 (.nn (i64.wrap (g + 1)))))
 (.oo .u))
 0 [] fun _ =>
 .br (decide ((e : Int) ≤ 1024))
 (.ret (decide ((d : Int) ≤ 8192)))
 (.ret false)
noncomputable def lzu (c) :=
 mkD Tryz.func115 (lzv c) 0 [.pure (bzm c)] [] (fun r => .pure (.bool r)) (fun _ => [])
noncomputable def nzx (c : azb) : T Bool := let d : Nat × Res := (0, .box [.pure (encL 1 (encL 1 az1) c.Points), .pure (encL 12 az5 c.Edges)]); .loop (fun (e : Int) => ⟨[(1, .ptr 0 0), (3, pz e)], [d], [], 1⟩)
 (.exit 0) (fun (_ : U0) => ⟨[(1, .ptr 0 0)], [d], [], 1⟩)
 (fun e => let f := c.Edges.getD (e.toNat) default; .br (decide (e < (c.Edges.length : Int)))
 (.cut 1 (fun (g : Bool) => ⟨[(1, .ptr 0 0), (3, pz e), (26, .pure (.bool g))], [d], [], 1⟩)
 (.gh e c.Edges.length <|
 .br (decide ((f.Cost) < 0))
 (.oo true)
 (.gh e c.Edges.length <|
 .oo (decide ((f.Cost) > 1099511627776)))) fun g =>
 .br g
 (.ff false)
 (.nn (i64.wrap (e + 1))))
 (.oo .u))
 0 [] fun _ =>
 .cc (lzu c) fun e =>
 .ret e
noncomputable def nzw (c) :=
 mkD Tryz.func75 (nzx c) 0 [.pure (bzm c)] [] (fun r => .pure (.bool r)) (fun _ => [])
noncomputable def qz3 (c : azb) (d : Int) (e : Int) : T Bool := let f := (c.Points.length : Nat); .cc (nzw c) fun g =>
 .br g
 (.br (decide (d ≥ 0))
 (.br (decide (d < (f : Int)))
 (.br (decide (e ≥ 0))
 (.ret (decide (e < (f : Int))))
 (.ret false))
 (.ret false))
 (.ret false))
 (.ret false)
noncomputable def qz2 (c) (d) (e) :=
 mkD Tryz.func44 (qz3 c d e) 0 [.pure (bzm c), pz d, pz e] [] (fun r => .pure (.bool r)) (fun _ => [])
noncomputable def yzz (c : az2) (d : Int) : T Bool :=
 .br (d == 0)
 (.ret (c.State == 1))
 (.br (d == 1)
 (.br (c.State == 1)
 (.ret true)
 (.ret (c.State == 0)))
 (.br (d == 2)
 (.ret (c.State != 2))
 (.ret false)))
noncomputable def kzb (c) (d) :=
 mkD Tryz.func46 (yzz c d) 0 [.pure (az5 c), pz d] [] (fun r => .pure (.bool r)) (fun _ => [])
noncomputable def sze (c : azd) (d : azd) : T Bool := let e := decide (d.Cost < 0); .cut 2 (fun (f : Bool) => ⟨[(2, .ptr 0 0), (3, .ptr 1 0), (12, .pure (.bool f))], [(0, .box [pz c.Cost, pz c.Edges]), (1, .box [pz d.Cost, pz d.Edges])], [], 2⟩)
 (.br e
 (.oo true)
 (.oo (decide (c.Cost < 0)))) fun f =>
 .br f
 (.br (decide (c.Cost ≥ 0))
 (.ret e)
 (.ret false))
 (.br (decide (c.Cost < d.Cost))
 (.ret true)
 (.br (c.Cost == d.Cost)
 (.ret (decide (c.Edges < d.Edges)))
 (.ret false)))
noncomputable def mzs (c) (d) :=
 mkD Tryz.func76 (sze c d) 0 [.pure (azu c), .pure (azu d)] [] (fun r => .pure (.bool r)) (fun _ => [])
set_option maxHeartbeats 8000000 in
set_option maxRecDepth 20000 in
noncomputable def oz2 (c : azb) (d : Int) (e : Int) : T Aj := let f := (c.Points.length : Int); let g : Nat × Res := (0, .box [.pure (encL 1 (encL 1 az1) c.Points), .pure (encL 12 az5 c.Edges)]); .conv 1003 (Dza 2 azu 100 f.toNat (⟨0, 0⟩ : azd)) <|
 .grd (0 ≤ f /\ f ≤ f /\ f ≤ 9223372036854775807 /\ f * 16 ≤ 140737488355328) <|
 .loop (fun (h : (Aj × Int)) => ⟨[(1, pz d), (2, pz e), (3, .ptr 0 0), (7, .vec 1), (8, pz h.2)], [g, (1, vecO 2 azu h.1 100)], [], 2⟩)
 (.exit 0) (fun (h : Aj) => ⟨[(1, pz d), (2, pz e), (3, .ptr 0 0), (7, .vec 1)], [g, (1, vecO 2 azu h 100)], [], 2⟩)
 (fun h => let i := (h.2).toNat; let j := (⟨(-1), (h.1.getD i default).Edges⟩ : azd); .name 3002 ((h.1.length : Int)) fun k =>
 .br (decide (h.2 < k))
 (.gh h.2 h.1.length <|
 .conv 5004 (fz1 2 azu h.1 100 i j) <|
 .gi (h.2) h.1.length <|
 .nn ((h.1.set i j), (i64.wrap (h.2 + 1))))
 (.oo h.1))
 ((List.replicate f.toNat ((⟨0, 0⟩ : azd) : azd)), 0) [] fun h =>
 .gh d h.length <|
 .conv 6004 (fz1 2 azu h 100 (d.toNat) (⟨0, 0⟩ : azd)) <|
 .gi (d) h.length <|
 .loop (fun (i : Al) => ⟨[(2, pz e), (3, .ptr 0 0), (7, .vec 1), (9, .pure (.bool i.2))], [g, (1, vecO 2 azu i.1 100)], [], 2⟩)
 (.exit 2) (fun (i : Aj) => ⟨[(7, .vec 0)], [(0, vecO 2 azu i 100)], [], 1⟩)
 (fun i => .br i.2
 (.loop (fun (j : (Aj × Bool × Int)) => ⟨[(2, pz e), (3, .ptr 0 0), (7, .vec 1), (9, .pure (.bool j.2.1)), (10, pz j.2.2)], [g, (1, vecO 2 azu j.1 100)], [], 2⟩)
 (.exit 4) (fun (j : Al) => ⟨[(2, pz e), (3, .ptr 0 0), (7, .vec 1), (9, .pure (.bool j.2))], [g, (1, vecO 2 azu j.1 100)], [], 2⟩)
 (fun j => let k := c.Edges.getD ((j.2.2).toNat) default; let m := ([(k.U, k.V), (k.V, k.U)] : (List Ak)); let n : Nat × Res := (2, .box [pz (k.U), pz (k.V), pz (k.Cost), pz (k.State), pz (k.Proof.Kind), .pure (encL 3 bz2 (k.Proof.Pieces)), pz (k.Proof.At.Depth), pz (k.Proof.At.Index), .pure (encL 3 az3 (k.Proof.At.Normals)), pz (k.Proof.Witness.Pair), .pure (encL 1 az1 (k.Proof.Witness.Left)), .pure (encL 1 az1 (k.Proof.Witness.Right))]); .br (decide (j.2.2 < (c.Edges.length : Int)))
 (.cut 0 (fun (q : Al) => ⟨[(2, pz e), (3, .ptr 0 0), (7, .vec 1), (9, .pure (.bool q.2)), (10, pz j.2.2)], [g, (1, vecO 2 azu q.1 100)], [], 2⟩)
 (.gh j.2.2 c.Edges.length <|
 .cc (kzb k e) fun q =>
 .br (!q)
 (.oo (j.1, j.2.1))
 (.conv 15010 (czq 2 gzx m 135) <|
 .name 15011 ((m.length : Int)) fun s =>
 .loop (fun (t : (Aj × Bool × Int)) => ⟨[(2, pz e), (3, .ptr 0 0), (7, .vec 1), (9, .pure (.bool t.2.1)), (10, pz j.2.2), (11, .ptr 2 0), (60, .vec 3), (61, pz s), (62, pz t.2.2)], [g, (1, vecO 2 azu t.1 100), n, (3, vecO 2 gzx m 135)], [], 4⟩)
 (.exit 6) (fun (t : Al) => ⟨[(2, pz e), (3, .ptr 0 0), (7, .vec 1), (9, .pure (.bool t.2)), (10, pz j.2.2)], [g, (1, vecO 2 azu t.1 100)], [], 2⟩)
 (fun t => let w := m.getD ((t.2.2).toNat) default; .br (decide (t.2.2 < s))
 (.cut 0 (fun (y : Al) => ⟨[(2, pz e), (3, .ptr 0 0), (7, .vec 1), (9, .pure (.bool y.2)), (10, pz j.2.2), (11, .ptr 2 0), (60, .vec 3), (61, pz s), (62, pz t.2.2)], [g, (1, vecO 2 azu y.1 100), n, (3, vecO 2 gzx m 135)], [], 4⟩)
 (.gg t.2.2 (m.length) <|
 .ix 0 2 rfl <|
 .name 18002 (w.1) fun y => let z := t.1.getD (y.toNat) default;
 .gg y t.1.length <|
 .br (decide ((z.Cost) < 0))
 (.oo (t.1, t.2.1))
 (.name 20004 ((i64.wrap ((z.Cost) + (k.Cost)))) fun aa => let ab := (⟨aa, (i64.wrap ((z.Edges) + 1))⟩ : azd);
 .ix 1 2 rfl <|
 .name 21003 (w.2) fun ac =>
 .gg ac t.1.length <|
 .call (mzs ab (t.1.getD (ac.toNat) default)) [] fun ad =>
 .br ad
 (.ix 1 2 rfl <|
 .name 22002 (w.2) fun ae =>
 .gh ae t.1.length <|
 .conv 22005 (fz1 2 azu t.1 100 (ae.toNat) ab) <|
 .gi (ae) t.1.length <|
 .oo ((t.1.set (ae.toNat) ab), true))
 (.oo (t.1, t.2.1)))) fun y =>
 .nn (y.1, y.2, (i64.wrap (t.2.2 + 1))))
 (.oo (t.1, t.2.1)))
 (j.1, j.2.1, 0) [] fun t =>
 .oo (t.1, t.2))) fun q =>
 .nn (q.1, q.2, (i64.wrap (j.2.2 + 1))))
 (.oo (j.1, j.2.1)))
 (i.1, false, 0) [] fun j =>
 .nn (j.1, j.2))
 (.oo i.1))
 ((h.set (d.toNat) (⟨0, 0⟩ : azd)), true) [] fun i =>
 .ret i
noncomputable def oz1 (c) (d) (e) :=
 mkD Tryz.func45 (oz2 c d e) 0 [.pure (bzm c), pz d, pz e] [] (fun r => .pure (encL 2 azu r)) (fun _ => [])
set_option maxHeartbeats 8000000 in
set_option maxRecDepth 20000 in
noncomputable def gze (c : azb) (d : Int) (e : Int) (f : Int) : T (bzs × Bool) := let g := ([d] : A0); let h : Nat × Res := (0, .box [.pure (encL 1 (encL 1 az1) c.Points), .pure (encL 12 az5 c.Edges)]); let i := (⟨c.Points, c.Edges⟩ : azb); .cut 2 (fun (j : Bool) => ⟨[(1, pz d), (2, pz e), (3, pz f), (4, .ptr 0 0), (8, .ptr 1 0), (29, .pure (.bool j))], [h, (1, .box [.vec 2, pz 0]), (2, .nilv)], [], 3⟩)
 (.cc (qz2 i d e) fun j =>
 .br (!j)
 (.oo true)
 (.br (decide (f < 0))
 (.oo true)
 (.oo (decide (f > 2))))) fun j =>
 .br j
 (.ret ((⟨nl, 0⟩ : bzs), false))
 (.cc (oz1 i e f) fun k => let m := encL 2 azu k; let n := k.getD (d.toNat) default; let q := n.Cost; let s : Nat × Res := (3, .box [.vec 4, pz q]);
 .gh d k.length <|
 .br (decide (q < 0))
 (.ret ((⟨nl, 0⟩ : bzs), false))
 (.conv 6001 (czq 1 az1 g 3) <|
 .gh d k.length <|
 .loop (fun (t : A2) => ⟨[(2, pz e), (3, pz f), (4, .ptr 0 0), (8, .ptr 1 0), (10, .pure m), (11, .ptr 3 0), (12, pz t.2)], [h, (1, .box [.vec 2, pz 0]), (2, .nilv), s, (4, vecO 1 az1 t.1 3)], [], 5⟩)
 (.exit 0) (fun (t : A0) => ⟨[(8, .ptr 0 0), (11, .ptr 2 0)], [(0, .box [.vec 1, pz 0]), (1, .nilv), (2, .box [.vec 3, pz q]), (3, vecO 1 az1 t 3)], [], 4⟩)
 (fun t => let w := k.getD ((t.2).toNat) default; .br (t.2 != e)
 (.loop (fun (y : Ak) => ⟨[(2, pz e), (3, pz f), (4, .ptr 0 0), (8, .ptr 1 0), (10, .pure m), (11, .ptr 3 0), (12, pz t.2), (13, pz y.1), (14, pz y.2)], [h, (1, .box [.vec 2, pz 0]), (2, .nilv), s, (4, vecO 1 az1 t.1 3)], [], 5⟩)
 (.exit 2) (fun (y : Int) => ⟨[(2, pz e), (3, pz f), (4, .ptr 0 0), (8, .ptr 1 0), (10, .pure m), (11, .ptr 3 0), (13, pz y)], [h, (1, .box [.vec 2, pz 0]), (2, .nilv), s, (4, vecO 1 az1 t.1 3)], [], 5⟩)
 (fun y => let z := c.Edges.getD ((y.2).toNat) default; .br (decide (y.2 < (c.Edges.length : Int)))
 (.cut 0 (fun (aa : Int) => ⟨[(2, pz e), (3, pz f), (4, .ptr 0 0), (8, .ptr 1 0), (10, .pure m), (11, .ptr 3 0), (12, pz t.2), (13, pz aa), (14, pz y.2)], [h, (1, .box [.vec 2, pz 0]), (2, .nilv), s, (4, vecO 1 az1 t.1 3)], [], 5⟩)
 (.gh y.2 c.Edges.length <|
 .cut 1 (fun (aa : Bool) => ⟨[(2, pz e), (3, pz f), (4, .ptr 0 0), (8, .ptr 1 0), (10, .pure m), (11, .ptr 3 0), (12, pz t.2), (13, pz y.1), (14, pz y.2), (15, .ptr 5 0), (81, .pure (.bool aa))], [h, (1, .box [.vec 2, pz 0]), (2, .nilv), s, (4, vecO 1 az1 t.1 3), (5, .box [pz (z.U), pz (z.V), pz (z.Cost), pz (z.State), pz (z.Proof.Kind), .pure (encL 3 bz2 (z.Proof.Pieces)), pz (z.Proof.At.Depth), pz (z.Proof.At.Index), .pure (encL 3 az3 (z.Proof.At.Normals)), pz (z.Proof.Witness.Pair), .pure (encL 1 az1 (z.Proof.Witness.Left)), .pure (encL 1 az1 (z.Proof.Witness.Right))])], [], 6⟩)
 (.cc (kzb z f) fun aa =>
 .br (!aa)
 (.oo true)
 (.br ((z.U) != t.2)
 (.oo ((z.V) != t.2))
 (.oo false))) fun aa =>
 .br aa
 (.oo y.1)
 (.name 15006 ((i64.wrap ((i64.wrap ((z.U) + (z.V))) - t.2))) fun ab => let ac := k.getD (ab.toNat) default;
 .cut 0 (fun (ad : Bool) => ⟨[(2, pz e), (3, pz f), (4, .ptr 0 0), (8, .ptr 1 0), (10, .pure m), (11, .ptr 3 0), (12, pz t.2), (13, pz y.1), (14, pz y.2), (16, pz ab), (133, .pure (.bool ad))], [h, (1, .box [.vec 2, pz 0]), (2, .nilv), s, (4, vecO 1 az1 t.1 3)], [], 5⟩)
 (.gh ab k.length <|
 .br (decide ((ac.Cost) ≥ 0))
 (.gh ab k.length <|
 .gh t.2 k.length <|
 .br ((i64.wrap ((ac.Cost) + (z.Cost))) == (w.Cost))
 (.gh ab k.length <|
 .gh t.2 k.length <|
 .br ((i64.wrap ((ac.Edges) + 1)) == (w.Edges))
 (.br (decide (y.1 < 0))
 (.oo true)
 (.oo (decide (ab < y.1))))
 (.oo false))
 (.oo false))
 (.oo false)) fun ad =>
 .br ad
 (.oo ab)
 (.oo y.1))) fun aa =>
 .nn (aa, (i64.wrap (y.2 + 1))))
 (.oo y.1))
 ((-1), 0) [] fun y => let z := ([y] : A0); let aa := t.1.length + z.length;
 .conv 19003 (czq 1 az1 z 3) <|
 .conv 19004 (fzn 1 az1 t.1 z 3) <|
 .grd (aa * 8 ≤ 140737488355328 /\ aa ≤ maxLen) <|
 .nn ((t.1 ++ z), y))
 (.oo t.1))
 (g, d) [] fun t =>
 .ret ((⟨t, n.Cost⟩ : bzs), true)))
noncomputable def ezw (c) (d) (e) (f) :=
 mkD Tryz.func17 (gze c d e f) 0 [.pure (bzm c), pz d, pz e, pz f] [] (fun r => .tup [.pure (rzk r.1), .pure (.bool r.2)]) (fun _ => [])
noncomputable def lzn (c : azb) (d : Int) (e : Int) (f : Int) (g : Int) : T Int := let h := (⟨c.Points, c.Edges⟩ : azb); .cc (ezw h d e 2) fun i =>
 .cc (ezw h f g 2) fun j =>
 .cut 1 (fun (k : Bool) => ⟨[(11, .ptr 0 0), (13, .ptr 1 0), (34, .pure (.bool k))], [(0, .box [.pure (encL 1 az1 i.1.Vertices), pz i.1.Cost]), (1, .box [.pure (encL 1 az1 j.1.Vertices), pz j.1.Cost])], [], 2⟩)
 (.br (!i.2)
 (.oo true)
 (.oo (!j.2))) fun k =>
 .br k
 (.ret 1125899906842624)
 (.ret (i64.wrap (i.1.Cost + j.1.Cost)))
noncomputable def dzq (c) (d) (e) (f) (g) :=
 mkD Tryz.func20 (lzn c d e f g) 0 [.pure (bzm c), pz d, pz e, pz f, pz g] [] (fun r => pz r) (fun _ => [])
set_option maxHeartbeats 8000000 in
set_option maxRecDepth 20000 in
noncomputable def fzx (c : A0) (d : A0) (e : Int) (f : Int) (g : Int) (h : Int) : T Bool :=
 .cc (sz0 c) fun i =>
 .cc (ez0 e 6) fun j =>
 .cc (tzy i.Robot (i64.wrap (2 + j)) d) fun k =>
 .cc (ez0 f 3) fun m =>
 .cc (nzy i.Robot k (i64.wrap (1 + m))) fun n => let q := (n.Edges.length : Nat); let s := (n.Points.length : Nat); let t : Nat × Res := (0, .box [.pure (encL 1 (encL 1 az1) n.Points), .pure (encL 12 az5 n.Edges)]); let w := (⟨n.Points, n.Edges⟩ : azb);
 .cc (ez0 g (s : Int)) fun y =>
 .cc (ez0 h (s : Int)) fun z =>
 .cc (hzt i n y z 2 100) fun aa => let ab : Nat × Res := (1, .box [.pure (encL 1 (encL 1 az1) aa.1.Points), .pure (encL 12 az5 aa.1.Edges)]); let ac : Nat × Res := (2, .box [.pure (encL 1 az1 aa.2.1.Vertices), pz aa.2.1.Cost]);
 .cut 1 (fun (ad : Bool) => ⟨[(14, .ptr 0 0), (15, pz y), (16, pz z), (17, .ptr 1 0), (18, .ptr 2 0), (19, pz aa.2.2.1), (20, pz aa.2.2.2), (74, .pure (.bool ad))], [t, ab, ac], [], 3⟩)
 (.br ((aa.1.Edges.length : Int) != (q : Int))
 (.oo true)
 (.cc (fz2 n.Points aa.1.Points) fun ad =>
 .oo (!ad))) fun ad =>
 .br ad
 (.ret false)
 (.loop (fun (ae : Ak) => ⟨[(14, .ptr 0 0), (15, pz y), (16, pz z), (17, .ptr 1 0), (18, .ptr 2 0), (19, pz aa.2.2.1), (20, pz aa.2.2.2), (21, pz ae.1), (22, pz ae.2)], [t, ab, ac], [], 3⟩)
 (.exit 0) (fun (ae : Int) => ⟨[(20, pz aa.2.2.2), (21, pz ae)], [], [], 0⟩)
 (fun ae => let af := (ae.2).toNat; let ag := n.Edges.getD af default; let ah := ag.U; let ai := ag.V; let aj := ag.Cost; let ak := aa.1.Edges.getD af default; let al := i64.wrap (ae.1 + 1); .br (decide (ae.2 < (q : Int)))
 (.cut 0 (fun (am : Int) => ⟨[(14, .ptr 0 0), (15, pz y), (16, pz z), (17, .ptr 1 0), (18, .ptr 2 0), (19, pz aa.2.2.1), (20, pz aa.2.2.2), (21, pz am), (22, pz ae.2)], [t, ab, ac], [], 3⟩)
 (.gh ae.2 n.Edges.length <|
 .gh ae.2 aa.1.Edges.length <|
 .cut 1 (fun (am : Bool) => ⟨[(14, .ptr 0 0), (15, pz y), (16, pz z), (17, .ptr 1 0), (18, .ptr 2 0), (19, pz aa.2.2.1), (20, pz aa.2.2.2), (21, pz ae.1), (22, pz ae.2), (23, .ptr 3 0), (24, .ptr 4 0), (110, .pure (.bool am))], [t, ab, ac, (3, .box [pz ah, pz ai, pz aj, pz (ag.State), pz (ag.Proof.Kind), .pure (encL 3 bz2 (ag.Proof.Pieces)), pz (ag.Proof.At.Depth), pz (ag.Proof.At.Index), .pure (encL 3 az3 (ag.Proof.At.Normals)), pz (ag.Proof.Witness.Pair), .pure (encL 1 az1 (ag.Proof.Witness.Left)), .pure (encL 1 az1 (ag.Proof.Witness.Right))]), (4, .box [pz (ak.U), pz (ak.V), pz (ak.Cost), pz (ak.State), pz (ak.Proof.Kind), .pure (encL 3 bz2 (ak.Proof.Pieces)), pz (ak.Proof.At.Depth), pz (ak.Proof.At.Index), .pure (encL 3 az3 (ak.Proof.At.Normals)), pz (ak.Proof.Witness.Pair), .pure (encL 1 az1 (ak.Proof.Witness.Left)), .pure (encL 1 az1 (ak.Proof.Witness.Right))])], [], 5⟩)
 (.br (ah != (ak.U))
 (.oo true)
 (.br (ai != (ak.V))
 (.oo true)
 (.oo (aj != (ak.Cost))))) fun am =>
 .br am
 (.ff (.fin false))
 (.br ((ak.State) == 0)
 (.oo ae.1)
 (.cut 1 (fun (an : Bool) => ⟨[(14, .ptr 0 0), (15, pz y), (16, pz z), (17, .ptr 1 0), (18, .ptr 2 0), (19, pz aa.2.2.1), (20, pz aa.2.2.2), (21, pz al), (22, pz ae.2), (142, .pure (.bool an))], [t, ab, ac], [], 3⟩)
 (.br (aa.2.2.1 == 1)
 (.cc (dzq w y ah ai z) fun an =>
 .cc (dzq w y ai ah z) fun ao =>
 .oo (decide ((i64.wrap ((min an ao) + aj)) > aa.2.1.Cost)))
 (.oo false)) fun an =>
 .br an
 (.ff (.fin false))
 (.oo al)))) fun am =>
 .nn (am, (i64.wrap (ae.2 + 1))))
 (.oo ae.1))
 (0, 0) [] fun ae =>
 .cc (vzt) fun af =>
 .br af
 (.ret (ae == aa.2.2.2))
 (.ret false))
noncomputable def czp (c) (d) (e) (f) (g) (h) :=
 mkD Tryz.func5 (fzx c d e f g h) 0 [.pure (encL 1 az1 c), .pure (encL 1 az1 d), pz e, pz f, pz g, pz h] [] (fun r => .pure (.bool r)) (fun _ => [])
noncomputable def vz0 (c : Int) (d : Int) : T Int := let e := i64.wrap (c.tdiv d); .grd (d ≠ 0) <|
 .cut 0 (fun (f : Int) => ⟨[(5, pz f)], [], [], 0⟩)
 (.grd (d ≠ 0) <|
 .br (decide ((c.tmod d) > 0))
 (.oo (i64.wrap (e + 1)))
 (.oo e)) fun f =>
 .ret f
noncomputable def izk (c) (d) :=
 mkD Tryz.func109 (vz0 c d) 0 [pz c, pz d] [] (fun r => pz r) (fun _ => [])
open Go.Proofs
noncomputable def lzq (c : As) : T Bool := let d : Nat × Res := (0, .box [pz c.1.Lo, pz c.1.Hi, pz c.2.1.Lo, pz c.2.1.Hi, pz c.2.2.Lo, pz c.2.2.Hi]); .unroll 4 <|
 .known true <|
 .cut 1 (fun (e : Bool) => ⟨[(1, .ptr 0 0), (3, pz 0), (30, .pure (.bool e))], [d], [], 1⟩)
 (.ix 0 3 rfl <|
 .br (decide (c.1.Lo < (-268435456)))
 (.oo true)
 (.ix 0 3 rfl <|
 .ix 0 3 rfl <|
 .br (decide (c.1.Lo > c.1.Hi))
 (.oo true)
 (.ix 0 3 rfl <|
 .oo (decide (c.1.Hi > 268435456))))) fun e =>
 .br e
 (.ret false)
 (.lit 3001 (1) <|
 .known true <|
 .cut 1 (fun (f : Bool) => ⟨[(1, .ptr 0 0), (3, pz 1), (30, .pure (.bool f))], [d], [], 1⟩)
 (.ix 1 3 rfl <|
 .br (decide (c.2.1.Lo < (-268435456)))
 (.oo true)
 (.ix 1 3 rfl <|
 .ix 1 3 rfl <|
 .br (decide (c.2.1.Lo > c.2.1.Hi))
 (.oo true)
 (.ix 1 3 rfl <|
 .oo (decide (c.2.1.Hi > 268435456))))) fun f =>
 .br f
 (.ret false)
 (.lit 3001 (2) <|
 .known true <|
 .cut 1 (fun (g : Bool) => ⟨[(1, .ptr 0 0), (3, pz 2), (30, .pure (.bool g))], [d], [], 1⟩)
 (.ix 2 3 rfl <|
 .br (decide (c.2.2.Lo < (-268435456)))
 (.oo true)
 (.ix 2 3 rfl <|
 .ix 2 3 rfl <|
 .br (decide (c.2.2.Lo > c.2.2.Hi))
 (.oo true)
 (.ix 2 3 rfl <|
 .oo (decide (c.2.2.Hi > 268435456))))) fun g =>
 .br g
 (.ret false)
 (.lit 3001 (3) <|
 .known false <|
 .ret true)))
noncomputable def szd (c) :=
 mkD Tryz.func190 (lzq c) 0 [.pure (az4 c)] [] (fun r => .pure (.bool r)) (fun _ => [])
noncomputable def nzu (c : Au) : T Bool := let d := encL 6 az4 c; let e := (c.length : Int); .loop (fun (f : Int) => ⟨[(0, .pure d), (3, pz f)], [], [], 0⟩)
 (.exit 0) (fun (_ : U0) => ⟨[(0, .pure d)], [], [], 0⟩)
 (fun f => .cut 1 (fun (g : Bool) => ⟨[(0, .pure d), (3, pz f), (11, .pure (.bool g))], [], [], 0⟩)
 (.br (decide (f < e))
 (.oo (decide (f ≤ 8)))
 (.oo false)) fun g =>
 .br g
 (.gh f c.length <|
 .cc (szd (c.getD (f.toNat) default)) fun h =>
 .br (!h)
 (.ff false)
 (.nn (i64.wrap (f + 1))))
 (.oo .u))
 0 [] fun _ =>
 .br (decide (e ≥ 1))
 (.ret (decide (e ≤ 8)))
 (.ret false)
noncomputable def uz5 (c) :=
 mkD Tryz.func158 (nzu c) 0 [.pure (encL 6 az4 c)] [] (fun r => .pure (.bool r)) (fun _ => [])
noncomputable def gz7 (c : Int) : T Bool :=
 .br (decide (c ≥ 0))
 (.ret (decide (c ≤ 1048576)))
 (.ret false)
noncomputable def jzc (c) :=
 mkD Tryz.func184 (gz7 c) 0 [pz c] [] (fun r => .pure (.bool r)) (fun _ => [])
noncomputable def vz1 (c : Int) : T Int :=
 .br (decide (c < 1))
 (.ret 0)
 (.loop (fun (d : Ak) => ⟨[(0, pz c), (3, pz d.1), (4, pz d.2)], [], [], 0⟩)
 (.exit 0) (fun (d : Int) => ⟨[(3, pz d)], [], [], 0⟩)
 (fun d => let e := i64.wrap (d.2 - d.1); let f := i64.wrap (d.1 + (i64.wrap (e.tdiv 2))); .br (decide (e > 1))
 (.ok ((2 : Int) ≠ 0) (by decide) <|
 .grd (f ≠ 0) <|
 .br (decide (f ≤ (i64.wrap (c.tdiv f))))
 (.nn (f, d.2))
 (.nn (d.1, f)))
 (.oo d.1))
 (1, 4294967296) [] fun d =>
 .ret d)
noncomputable def qz1 (c) :=
 mkD Tryz.func231 (vz1 c) 0 [pz c] [] (fun r => pz r) (fun _ => [])
open Go.Proofs
set_option maxHeartbeats 8000000 in
set_option maxRecDepth 20000 in
noncomputable def lzp (c : Au) (d : A0) : T (As × Int × Bool) := let e := encL 6 az4 c; let f := encL 1 az1 d; let g := (d.length : Nat); let h := (c.length : Nat); .cut 2 (fun (i : Bool) => ⟨[(0, .pure e), (1, .pure f), (4, .ptr 0 0), (21, .pure (.bool i))], [(0, .box [pz 0, pz 0, pz 0, pz 0, pz 0, pz 0])], [], 1⟩)
 (.cc (uz5 c) fun i =>
 .br (!i)
 (.oo true)
 (.oo ((g : Int) != (h : Int)))) fun i =>
 .br i
 (.ret (((⟨0, 0⟩ : az0), (⟨0, 0⟩ : az0), (⟨0, 0⟩ : az0)), 0, false))
 (.loop (fun (j : Ak) => ⟨[(0, .pure e), (1, .pure f), (4, .ptr 0 0), (7, pz j.1), (8, pz j.2)], [(0, .box [pz 0, pz 0, pz 0, pz 0, pz 0, pz 0])], [], 1⟩)
 (.exit 0) (fun (j : Int) => ⟨[(0, .pure e), (1, .pure f), (4, .ptr 0 0), (7, pz j)], [(0, .box [pz 0, pz 0, pz 0, pz 0, pz 0, pz 0])], [], 1⟩)
 (fun j => let k := d.getD ((j.2).toNat) default; .br (decide (j.2 < (g : Int)))
 (.cut 2 (fun (m : Bool) => ⟨[(0, .pure e), (1, .pure f), (4, .ptr 0 0), (7, pz j.1), (8, pz j.2), (42, .pure (.bool m))], [(0, .box [pz 0, pz 0, pz 0, pz 0, pz 0, pz 0])], [], 1⟩)
 (.gh j.2 d.length <|
 .br (decide (k < 0))
 (.oo true)
 (.gh j.2 d.length <|
 .oo (decide (k > (i64.wrap (65536 - j.1)))))) fun m =>
 .br m
 (.ff (((⟨0, 0⟩ : az0), (⟨0, 0⟩ : az0), (⟨0, 0⟩ : az0)), 0, false))
 (.gh j.2 d.length <|
 .nn ((i64.wrap (j.1 + k)), (i64.wrap (j.2 + 1)))))
 (.oo j.1))
 (0, 0) [] fun j =>
 .br (decide (j < 1))
 (.ret (((⟨0, 0⟩ : az0), (⟨0, 0⟩ : az0), (⟨0, 0⟩ : az0)), 0, false))
 (.loop (fun (k : B5) => ⟨[(0, .pure e), (1, .pure f), (4, .ptr 0 0), (7, pz j), (9, .ptr 1 0), (10, pz k.2.2.2.2.2.2)], [(0, .box [pz 0, pz 0, pz 0, pz 0, pz 0, pz 0]), (1, .box [pz k.1, pz k.2.1, pz k.2.2.1, pz k.2.2.2.1, pz k.2.2.2.2.1, pz k.2.2.2.2.2.1])], [], 2⟩)
 (.exit 2) (fun (k : B3) => ⟨[(4, .ptr 0 0), (7, pz j), (9, .ptr 1 0)], [(0, .box [pz 0, pz 0, pz 0, pz 0, pz 0, pz 0]), (1, .box [pz k.1, pz k.2.1, pz k.2.2.1, pz k.2.2.2.1, pz k.2.2.2.2.1, pz k.2.2.2.2.2])], [], 2⟩)
 (fun k => let m := (k.2.2.2.2.2.2).toNat; let n := d.getD m default; let q := c.getD m default; .br (decide (k.2.2.2.2.2.2 < (h : Int)))
 (.unroll 4 <|
 .known true <|
 .ix 0 3 rfl <|
 .gh k.2.2.2.2.2.2 d.length <|
 .gh k.2.2.2.2.2.2 c.length <|
 .ix 0 3 rfl <|
 .name 19015 ((i64.wrap (n * (q.1.Lo)))) fun s =>
 .name 19016 ((i64.wrap (k.1 + s))) fun t =>
 .ix 0 3 rfl <|
 .ix 0 3 rfl <|
 .gh k.2.2.2.2.2.2 d.length <|
 .gh k.2.2.2.2.2.2 c.length <|
 .ix 0 3 rfl <|
 .name 20015 ((i64.wrap (n * (q.1.Hi)))) fun w =>
 .name 20016 ((i64.wrap (k.2.1 + w))) fun y =>
 .ix 0 3 rfl <|
 .lit 18001 (1) <|
 .known true <|
 .ix 1 3 rfl <|
 .gh k.2.2.2.2.2.2 d.length <|
 .gh k.2.2.2.2.2.2 c.length <|
 .ix 1 3 rfl <|
 .name 19015 ((i64.wrap (n * (q.2.1.Lo)))) fun z =>
 .name 19016 ((i64.wrap (k.2.2.1 + z))) fun aa =>
 .ix 1 3 rfl <|
 .ix 1 3 rfl <|
 .gh k.2.2.2.2.2.2 d.length <|
 .gh k.2.2.2.2.2.2 c.length <|
 .ix 1 3 rfl <|
 .name 20015 ((i64.wrap (n * (q.2.1.Hi)))) fun ab =>
 .name 20016 ((i64.wrap (k.2.2.2.1 + ab))) fun ac =>
 .ix 1 3 rfl <|
 .lit 18001 (2) <|
 .known true <|
 .ix 2 3 rfl <|
 .gh k.2.2.2.2.2.2 d.length <|
 .gh k.2.2.2.2.2.2 c.length <|
 .ix 2 3 rfl <|
 .name 19015 ((i64.wrap (n * (q.2.2.Lo)))) fun ad =>
 .name 19016 ((i64.wrap (k.2.2.2.2.1 + ad))) fun ae =>
 .ix 2 3 rfl <|
 .ix 2 3 rfl <|
 .gh k.2.2.2.2.2.2 d.length <|
 .gh k.2.2.2.2.2.2 c.length <|
 .ix 2 3 rfl <|
 .name 20015 ((i64.wrap (n * (q.2.2.Hi)))) fun af =>
 .name 20016 ((i64.wrap (k.2.2.2.2.2.1 + af))) fun ag =>
 .ix 2 3 rfl <|
 .lit 18001 (3) <|
 .known false <|
 .nn (t, y, aa, ac, ae, ag, (i64.wrap (k.2.2.2.2.2.2 + 1))))
 (.oo (k.1, k.2.1, k.2.2.1, k.2.2.2.1, k.2.2.2.2.1, k.2.2.2.2.2.1)))
 (0, 0, 0, 0, 0, 0, 0) [] fun k =>
 .ret (((⟨k.1, k.2.1⟩ : az0), (⟨k.2.2.1, k.2.2.2.1⟩ : az0), (⟨k.2.2.2.2.1, k.2.2.2.2.2⟩ : az0)), j, true)))
noncomputable def lzo (c) (d) :=
 mkD Tryz.func192 (lzp c d) 0 [.pure (encL 6 az4 c), .pure (encL 1 az1 d)] [] (fun r => .tup [.pure (az4 r.1), pz r.2.1, .pure (.bool r.2.2)]) (fun _ => [])
noncomputable def Gzo (c : Int) : T Int :=
 .ret (max c (i64.wrap (0 - c)))
noncomputable def fzf (c) :=
 mkD Tryz.func193 (Gzo c) 0 [pz c] [] (fun r => pz r) (fun _ => [])
noncomputable def gz6 (c : A0) (d : A0) (e : Au) (f : Int) (g : Au) (h : Int) : T Am := let i := i64.wrap (f + h); .cc (lzo e c) fun j =>
 .cc (lzo g d) fun k =>
 .cut 1 (fun (m : Bool) => ⟨[(3, pz f), (5, pz h), (14, .ptr 0 0), (15, pz j.2.1), (17, .ptr 1 0), (57, .pure (.bool m))], [(0, .box [pz j.1.1.Lo, pz j.1.1.Hi, pz j.1.2.1.Lo, pz j.1.2.1.Hi, pz j.1.2.2.Lo, pz j.1.2.2.Hi]), (1, .box [pz k.1.1.Lo, pz k.1.1.Hi, pz k.1.2.1.Lo, pz k.1.2.1.Hi, pz k.1.2.2.Lo, pz k.1.2.2.Hi])], [], 2⟩)
 (.br (!j.2.2)
 (.oo true)
 (.br (!k.2.2)
 (.oo true)
 (.br (j.2.1 != k.2.1)
 (.oo true)
 (.cc (jzc f) fun m =>
 .br (!m)
 (.oo true)
 (.cc (jzc h) fun n =>
 .oo (!n)))))) fun m =>
 .br m
 (.ret (0, false))
 (.unroll 4 <|
 .known true <|
 .ix 0 3 rfl <|
 .ix 0 3 rfl <|
 .cc (fzf (i64.wrap (j.1.1.Lo - k.1.1.Hi))) fun n =>
 .ix 0 3 rfl <|
 .ix 0 3 rfl <|
 .cc (fzf (i64.wrap (j.1.1.Hi - k.1.1.Lo))) fun q =>
 .cc (izk (max n q) j.2.1) fun s =>
 .br (decide (s > i))
 (.ret ((-1), true))
 (.name 12004 ((i64.wrap ((i64.wrap (i * i)) - (i64.wrap (s * s))))) fun t =>
 .lit 8001 (1) <|
 .known true <|
 .ix 1 3 rfl <|
 .ix 1 3 rfl <|
 .cc (fzf (i64.wrap (j.1.2.1.Lo - k.1.2.1.Hi))) fun w =>
 .ix 1 3 rfl <|
 .ix 1 3 rfl <|
 .cc (fzf (i64.wrap (j.1.2.1.Hi - k.1.2.1.Lo))) fun y =>
 .cc (izk (max w y) j.2.1) fun z =>
 .br (decide (z > i))
 (.ret ((-1), true))
 (.name 12004 ((i64.wrap (t - (i64.wrap (z * z))))) fun aa =>
 .lit 8001 (2) <|
 .known true <|
 .ix 2 3 rfl <|
 .ix 2 3 rfl <|
 .cc (fzf (i64.wrap (j.1.2.2.Lo - k.1.2.2.Hi))) fun ab =>
 .ix 2 3 rfl <|
 .ix 2 3 rfl <|
 .cc (fzf (i64.wrap (j.1.2.2.Hi - k.1.2.2.Lo))) fun ac =>
 .cc (izk (max ab ac) j.2.1) fun ad =>
 .br (decide (ad > i))
 (.ret ((-1), true))
 (.name 12004 ((i64.wrap (aa - (i64.wrap (ad * ad))))) fun ae =>
 .lit 8001 (3) <|
 .known false <|
 .ret (ae, true)))))
noncomputable def jzb (c) (d) (e) (f) (g) (h) :=
 mkD Tryz.func160 (gz6 c d e f g h) 0 [.pure (encL 1 az1 c), .pure (encL 1 az1 d), .pure (encL 6 az4 e), pz f, .pure (encL 6 az4 g), pz h] [] (fun r => .tup [pz r.1, .pure (.bool r.2)]) (fun _ => [])
noncomputable def ezv (c : A0) (d : A0) (e : Au) (f : Int) (g : Au) (h : Int) : T Bool :=
 .cc (jzb c d e f g h) fun i =>
 .br i.2
 (.ret (decide (i.1 ≥ 0)))
 (.ret false)
noncomputable def ezu (c) (d) (e) (f) (g) (h) :=
 mkD Tryz.func114 (ezv c d e f g h) 0 [.pure (encL 1 az1 c), .pure (encL 1 az1 d), .pure (encL 6 az4 e), pz f, .pure (encL 6 az4 g), pz h] [] (fun r => .pure (.bool r)) (fun _ => [])
end Go.Abs
