/-
  SoundJ (a part of a claim: our own text).
-/
import Derived.Test.YtkbjjlfpbebiaaaGreatDoorYKSoundI
namespace Go.Abs
variable {P:Program} {o:Oper} {env:Operand->AVal} {m:Mem} {id:Nat}
theorem Mz2 {F:Cells}{w:World}{ρ:Env}{id:Nat}{v:Value}(h:ARel F w ρ (.vec id) v):(ρ.vec id=none->v=.slice none 0 0)/\∀b n cap,ρ.vec id=some (b,n,cap)->v=.slice (some ⟨b,0,none⟩) n cap:=by
 cases h with
 |vnil hh=>exact⟨fun _=>rfl,fun b n cap h=>by rw[hh]at h;cases h⟩
 |vec hh=>exact⟨fun h=>(by rw[hh]at h;cases h),fun b n cap h=>by rw[hh]at h;cases h;rfl⟩
theorem Szj {F:Cells}{w:World}{ρ:Env}{id sz k:Nat}{v:Value}(h:ARel F w ρ (.view id sz 0 k) v):(ρ.vec id=none->v=.slice none 0 0)/\∀b n cap,ρ.vec id=some (b,n,cap)->v=.slice (some ⟨b,0,none⟩) k cap:=by
 cases h with
 |viewN hh h0=>subst h0;exact⟨fun _=>rfl,fun b n cap h=>by rw[hh]at h;cases h⟩
 |view hh _ hab=>exact⟨fun h=>(by rw[hh]at h;cases h),fun b n cap h=>by rw[hh]at h;cases h;rw[hab (.inr rfl)];simp⟩
theorem Vzp {F:Cells}{w:World}{ρ:Env}{Mine:Nat->Prop}{M:Mem}(hm:MemOk F w ρ Mine M){id sz n sh:Nat}{f:Nat->PVal}{e:TypeId}{v:Value}(hM:M.get id=some (.vec sz n f sh e))
 (h:∀b n cap,ρ.vec id=some (b,n,cap)->v=.slice (some ⟨b,0,none⟩) n cap) (b n' cap:Nat) (hv:ρ.vec id=some (b,n',cap)):v=.slice (some ⟨b,0,none⟩) n cap:=by
 obtain⟨_,hok⟩:=hm.ok id _ hM
 rcases hok with⟨h1,h2⟩|⟨b,cap,c,q1,q2⟩
 ·rw[hv]at h1;cases h1
 ·rw[hv]at q1;cases q1;exact h _ _ _ hv
theorem Mzq {s x:Operand}{ts:Array TypeId}{out:Out}(ho:o.op=.call {callee:=.builtin .append,args:=#[s,x],argTypes:=ts})
 (hts:∀t,ts[0]?=some t->ts[1]?=some t->ts=#[t,t]) (h:Az2 P ts id s (env s) (env x) m=some out) (hob:holds out.obl):Sound1 P o env m id out:=by
 have hop:s∈o.op.operands/\x∈o.op.operands:=by simp[ho,Op.operands,Call.operands]
 unfold Az2 at h
 split at h
 ·rename_i t t' ht0 ht1
  split at h
  ·rename_i htt;subst htt
   obtain rfl:=hts t ht0 ht1
   split at h
   ·rename_i e hu
    split at h
    ·rename_i sz by_ hs hby
     split at h
     ·rename_i z hz
      split at h
      ·rename_i hzl
       split at h
       ·rename_i k gg is hsrc
        obtain⟨i,zv,hi,hzv,hzz⟩:=hz3 hz
        obtain⟨i',hi',hsz⟩:=ez2 hs
        rw[hi]at hi';cases hi'
        obtain⟨i',hi',hbb⟩:=jzt hby
        rw[hi]at hi';cases hi'
        have hzs:zv.cells.size=sz+1:=by rw[←hzl,←hzz];simp
        split at h
        ·cases h
         obtain⟨hb,hk⟩:=hob
         intro F w ρ Mine M a hm g fr hrd hfe ha
         obtain⟨news,hsr⟩:=Az8 hm (Nat.succ_pos _) hsrc hrd (ha x hop.2)
         obtain⟨v,w',F',ρ',h1,h2,h3,h4,h5⟩:=append_nil (P:=P) (ty:=o.type) hm g fr hu hi hzv hsz hbb hzs [] (a.eval x) news hsr hb hk
         exact⟨v,w',F',ρ',tz9 ho h1,h2,h3,h4,by simpa using h5⟩
        ·rename_i old _ hold
         split at h
         ·rename_i hmo
          cases h
          obtain⟨hb,hk⟩:=hob
          intro F w ρ Mine M a hm g fr hrd hfe ha
          obtain⟨news,hsr⟩:=Az8 hm (Nat.succ_pos _) hsrc (fun i hi=>hrd i (by simp[hi])) (ha x hop.2)
          have hnone:ρ.vec old=none:=hm.ok old _ ((hrd old (by simp)).trans hmo)
          have hsv:=ha _ hop.1
          rw[hold]at hsv
          have hsv':=fun (u:Value) (hu:ARel F w ρ (.vec old) u)=>(show u=.slice none 0 0 by
           cases hu with
           |vnil _=>rfl
           |vec hh=>rw[hh]at hnone;cases hnone)
          obtain⟨v,w',F',ρ',h1,h2,h3,h4,h5⟩:=append_nil (P:=P) (ty:=o.type) hm g fr hu hi hzv hsz hbb hzs [old] (a.eval x) news hsr hb hk
          exact⟨v,w',F',ρ',tz9 ho (by rw[hsv' _ hsv];exact h1),h2,h3,h4,by simpa using h5⟩
         ·rename_i sz' n f sh e' hmo
          split at h
          ·rename_i hc
           simp only[Bool.and_eq_true,decide_eq_true_eq]at hc
           obtain⟨rfl,rfl⟩:=hc
           cases h
           obtain⟨hb,hk⟩:=hob
           intro F w ρ Mine M a hm g fr hrd hfe ha
           obtain⟨news,hsr⟩:=Az8 hm (Nat.succ_pos _) hsrc (fun i hi=>hrd i (by simp[hi])) (ha x hop.2)
           have hsv:=ha _ hop.1
           rw[hold]at hsv
           obtain⟨hs0,hs1⟩:=Mz2 hsv
           obtain⟨v,w',F',ρ',h1,h2,h3,h4,h5⟩:=wz0 (P:=P) (ty:=o.type) hm g fr hu hi hzv hsz hbb hzs ((hrd old (by simp)).trans hmo) (Nat.le_refl _) (hm.ok _ _ ((hrd old (by simp)).trans hmo)).1 _ (a.eval x) hs0 (Vzp hm ((hrd old (by simp)).trans hmo) hs1) news hsr hb hk
           exact⟨v,w',F',ρ',tz9 ho h1,h2,h3,h4,by simpa using h5⟩
          ·cases h
         ·cases h
        ·cases h
       ·cases h
      ·cases h
     ·cases h
    ·cases h
   ·cases h
  ·cases h
 ·cases h
theorem Pzl {s x:Operand}{ts:Array TypeId}{out:Out}(ho:o.op=.call {callee:=.builtin .append,args:=#[s,x],argTypes:=ts})
 (hts:∀t,ts[0]?=some t->ts[1]?=some t->ts=#[t,t]) (h:Bz6 P ts id s (env s) (env x) m=some out) (hob:holds out.obl):Sound1 P o env m id out:=by
 have hop:s∈o.op.operands/\x∈o.op.operands:=by simp[ho,Op.operands,Call.operands]
 unfold Bz6 at h
 split at h
 ·rename_i j szv lo k hx
  split at h
  ·rename_i t t' szf n f shf ef ht0 ht1 hj
   split at h
   ·rename_i htt;subst htt
    obtain rfl:=hts t ht0 ht1
    split at h
    ·rename_i e hu
     split at h
     ·rename_i sz by_ hs hby
      split at h
      ·rename_i z hz
       split at h
       ·rename_i hc
        simp only[Bool.and_eq_true,decide_eq_true_eq]at hc
        obtain⟨⟨hzl,rfl⟩,rfl⟩:=hc
        obtain⟨i,zv,hi,hzv,hzz⟩:=hz3 hz
        obtain⟨i',hi',hsz⟩:=ez2 hs
        rw[hi]at hi';cases hi'
        obtain⟨i',hi',hbb⟩:=jzt hby
        rw[hi]at hi';cases hi'
        have hzs:zv.cells.size=sz+1:=by rw[←hzl,←hzz];simp
        split at h
        ·cases h
         obtain⟨hb,hk,hle⟩:=hob
         intro F w ρ Mine M a hm g fr hrd hfe ha
         obtain⟨news,hsr⟩:=xzk hm (Nat.succ_pos _) ((hrd j (by simp)).trans hj) (hx▸ha x hop.2) hle
         obtain⟨v,w',F',ρ',h1,h2,h3,h4,h5⟩:=append_nil (P:=P) (ty:=o.type) hm g fr hu hi hzv hsz hbb hzs [] (a.eval x) news hsr hb hk
         exact⟨v,w',F',ρ',tz9 ho h1,h2,h3,h4,by simpa using h5⟩
        ·rename_i old _ hold
         split at h
         ·rename_i sz' n' f' sh e' hmo
          split at h
          ·rename_i hc
           simp only[Bool.and_eq_true,decide_eq_true_eq]at hc
           obtain⟨⟨rfl,rfl⟩,_⟩:=hc
           cases h
           obtain⟨hb,hk,hle⟩:=hob
           intro F w ρ Mine M a hm g fr hrd hfe ha
           obtain⟨news,hsr⟩:=xzk hm (Nat.succ_pos _) ((hrd j (by simp)).trans hj) (hx▸ha x hop.2) hle
           have hsv:=ha _ hop.1
           rw[hold]at hsv
           obtain⟨hs0,hs1⟩:=Mz2 hsv
           obtain⟨v,w',F',ρ',h1,h2,h3,h4,h5⟩:=wz0 (P:=P) (ty:=o.type) hm g fr hu hi hzv hsz hbb hzs ((hrd old (by simp)).trans hmo) (Nat.le_refl _) (hm.ok _ _ ((hrd old (by simp)).trans hmo)).1 _ (a.eval x) hs0 (Vzp hm ((hrd old (by simp)).trans hmo) hs1) news hsr hb hk
           exact⟨v,w',F',ρ',tz9 ho h1,h2,h3,h4,by simpa using h5⟩
          ·cases h
         ·cases h
        ·rename_i old szw k1 _ hold
         split at h
         ·rename_i hc
          simp only[Bool.and_eq_true,decide_eq_true_eq]at hc
          obtain⟨⟨⟨rfl,rfl⟩,rfl⟩,rfl⟩:=hc
          cases h
          obtain⟨hb,hk,hle1,hle⟩:=hob
          intro F w ρ Mine M a hm g fr hrd hfe ha
          have hM:=(hrd old (by simp)).trans hj
          obtain⟨news,hsr⟩:=xzk hm (Nat.succ_pos _) hM (hx▸ha x hop.2) hle
          have hsv:=ha _ hop.1
          rw[hold]at hsv
          obtain⟨hs0,hs1⟩:=Szj hsv
          obtain⟨v,w',F',ρ',h1,h2,h3,h4,h5⟩:=wz0 (P:=P) (ty:=o.type) hm g fr hu hi hzv hsz hbb hzs hM hle1 (Nat.zero_le _) _ (a.eval x) hs0 hs1 news hsr hb hk
          exact⟨v,w',F',ρ',tz9 ho h1,h2,h3,h4,by simpa using h5⟩
         ·cases h
        ·cases h
       ·cases h
      ·cases h
     ·cases h
    ·cases h
   ·cases h
  ·cases h
 ·cases h
theorem fzz {F:Cells}{w:World}{ρ:Env}{a:Act}{d:Nat}{x:Option Operand}{n:Int}(h:tzj d (x.map env)=some n)(ha:∀y,x=some y->ARel F w ρ (env y) (a.eval y)):
 (x=none/\n=d)\/∃k,x.map a.eval=some (.int k n):=by
 cases x with
 |none=>simp[tzj]at h;exact .inl ⟨rfl,h.symm⟩
 |some y=>
  simp only[Option.map_some]at h⊢
  unfold tzj at h
  split at h
  ·rename_i hh;cases hh
  ·rename_i k q hh
   cases h
   simp only[Option.some.injEq]at hh
   have:=ha y rfl
   rw[hh]at this
   exact .inr ⟨k,by rw[this.pure_inv.int_inv]⟩
  ·cases h
theorem fzf {w:World}{isS:Bool}{len cap:Nat}{lo hi:Option Value}{l h:Int}(hl:(lo=none/\l=0)\/∃k,lo=some (.int k l))(hh:(hi=none/\h=len)\/∃k,hi=some (.int k h))
 (h0:0≤l) (h1:l≤h) (h2:h≤cap):(Instr.sliceBounds isS len cap lo hi none).run P w=.ok (l.toNat,h.toNat,cap) w:=by
 rcases hh with⟨rfl,rfl⟩|⟨k,rfl⟩
 ·rcases hl with⟨rfl,rfl⟩|⟨k,rfl⟩
  ·simp[Instr.sliceBounds]
  ·simp[Instr.sliceBounds,Instr.sliceBound,asIntOf,h0,h1]
 ·have h3:0≤h:=by omega
  have h4:l≤(h.toNat:Int):=by omega
  rcases hl with⟨rfl,rfl⟩|⟨k',rfl⟩
  ·simp[Instr.sliceBounds,Instr.sliceBound,asIntOf,h3,h2]
  ·simp only[Instr.sliceBounds,Instr.sliceBound,asIntOf,Sem.run_bind,Sem.run_pure,Result.andThen_ok,h3,h2,and_self,if_true,h0,h4]
theorem Dz2 {t:TypeId}{x:Operand}{lo hi:Option Operand}{e:TypeId}{sz n:Nat}{f:Nat->PVal}{l hh:Int}(ho:o.op=.slice t x lo hi none)(hu:P.underlying t=some (.slice e))(hs:bzi P e=some sz)
 {F:Cells} {w:World} {ρ:Env} {a:Act} (hx:PRel F w (.lst sz n f) (a.eval x))
 (hb1':(lo.map a.eval=none/\l=0)\/∃k,lo.map a.eval=some (.int k l)) (hb2':(hi.map a.eval=none/\hh=n)\/∃k,hi.map a.eval=some (.int k hh)) (h0:0≤l) (h1:l≤hh) (h2:hh≤n):
 ∃v,Ran P o a w v w/\ARel F w ρ (.pure (.lst sz (hh.toNat-l.toNat) (fun i=>f (l.toNat+i)))) v:=by
 rcases hx.lst_inv with⟨hv,hn0⟩|⟨ad,cap,hv,hn0,hcm⟩|⟨b,off,cap,c,hv,hnc,hcm,hsz,hc,hr⟩
 rotate_left
 ·subst hn0
  obtain rfl:l=0:=by omega
  obtain rfl:hh=0:=by omega
  have hbb:=fzf (P:=P) (w:=w) (isS:=true) (len:=0) (cap:=cap) (lo:=lo.map a.eval) (hi:=hi.map a.eval) hb1' (by simpa using hb2') (Int.le_refl _) (Int.le_refl _) (by omega)
  by_cases hc0:cap=0
  ·subst hc0
   refine⟨.slice (some ad) 0 0,.value ?_,.pure (.emp (Nat.zero_le _))⟩
   simp only[execOp,ho,Instr.sliceAt,Instr.slice,Sem.run_bind,run_underlying hu,Result.andThen_ok,hv,hbb,Option.map_none,cz2 hs,Sem.run_pure]
   simp
  ·refine⟨.slice (some (ad.add 0)) 0 cap,.value ?_,.pure (.emp hcm)⟩
   simp only[execOp,ho,Instr.sliceAt,Instr.slice,Sem.run_bind,run_underlying hu,Result.andThen_ok,hv,hbb,Option.map_none,cz2 hs,Sem.run_pure]
   simp[hc0]
 rotate_right
 ·subst hn0
  obtain rfl:l=0:=by omega
  obtain rfl:hh=0:=by omega
  refine⟨.slice none 0 0,.value ?_,.pure .nil⟩
  have hbb:=fzf (P:=P) (w:=w) (isS:=true) (len:=0) (cap:=0) (lo:=lo.map a.eval) (hi:=hi.map a.eval) hb1' (by simpa using hb2') (Int.le_refl _) (Int.le_refl _) (by omega)
  simp only[execOp,ho,Instr.sliceAt,Instr.slice,Sem.run_bind,run_underlying hu,Result.andThen_ok,hv,hbb,Option.map_none,cz2 hs,Sem.run_pure]
  simp
 ·have hbb:=fzf (P:=P) (w:=w) (isS:=true) (len:=n) (cap:=cap) (lo:=lo.map a.eval) (hi:=hi.map a.eval) hb1' hb2' h0 h1 (by omega)
  have hrun:∀ad,(if cap=l.toNat then some ⟨b,off,none⟩else(some (⟨b,off,none⟩:Addr)).map (·.add (l.toNat * sz)))=some ad->Ran P o a w (.slice (some ad) (hh.toNat-l.toNat) (cap-l.toNat)) w:=by
   intro ad had
   refine .value ?_
   simp only[execOp,ho,Instr.sliceAt,Instr.slice,Sem.run_bind,run_underlying hu,Result.andThen_ok,hv,hbb,Option.map_none,cz2 hs,Sem.run_pure,had]
  by_cases hcl:cap=l.toNat
  ·refine⟨_,hrun ⟨b,off,none⟩ (by rw[if_pos hcl]),.pure ?_⟩
   have hz:hh.toNat-l.toNat=0:=by omega
   rw[hz]
   exact .sl c (Nat.zero_le _) (by omega) (by intro i hi;omega) (by intro i j p hi;omega) (by intro i j p hi;omega)
  ·refine⟨_,hrun ⟨b,off+l.toNat * sz,none⟩ (by rw[if_neg hcl,Option.map_some,dzg]),.pure ?_⟩
   have hmul:∀i j,(l.toNat+i) * sz+j=l.toNat * sz+(i * sz+j):=fun i j=>by rw[Nat.add_mul];omega
   refine .sl (fun q=>c (l.toNat * sz+q)) (by omega) (by omega) (fun i hi=>hsz _ (by omega)) (fun i j p hi hp=>?_) (fun i j p hi hp=>?_)
   ·have:=hc (l.toNat+i) j p (by omega) hp
    rw[hmul]at this
    simpa[Nat.add_assoc]using this
   ·have:=hr (l.toNat+i) j p (by omega) hp
    rw[hmul]at this
    exact this
theorem Sz3 {t:TypeId}{x:Operand}{lo hi mx:Option Operand}{out:Out}(ho:o.op=.slice t x lo hi mx)
 (h:tzs P t (env x) (lo.map env) (hi.map env) (mx.map env) m=some out) (hob:holds out.obl):Sound1 P o env m id out:=by
 unfold tzs at h
 split at h
 ·cases h
 ·rename_i hmx
  have hmx':mx=none:=by simpa using hmx
  subst hmx'
  have hop:x∈o.op.operands:=by simp[ho,Op.operands]
  have hlo:∀y,lo=some y->y∈o.op.operands:=fun y hy=>by simp[ho,Op.operands,hy]
  have hhi:∀y,hi=some y->y∈o.op.operands:=fun y hy=>by simp[ho,Op.operands,hy]
  split at h
  ·rename_i e hu
   split at h
   ·rename_i sz n f is hx
    split at h
    ·rename_i l hh hl hh'
     split at h
     ·rename_i hs
      cases h
      obtain⟨h0,h1,h2⟩:=hob
      intro F w ρ Mine M a hm g fr hrd hown ha
      have hb1:=fzz (F:=F) (w:=w) (ρ:=ρ) (a:=a) hl (fun y hy=>ha y (hlo y hy))
      have hb2:=fzz (F:=F) (w:=w) (ρ:=ρ) (a:=a) hh' (fun y hy=>ha y (hhi y hy))
      have hb1':(lo.map a.eval=none/\l=0)\/∃k,lo.map a.eval=some (.int k l):=hb1.imp (fun h=>⟨by simp[h.1],by simpa using h.2⟩) (fun h=>h)
      have hb2':(hi.map a.eval=none/\hh=n)\/∃k,hi.map a.eval=some (.int k hh):=hb2.imp (fun h=>⟨by simp[h.1],h.2⟩) (fun h=>h)
      obtain⟨st1,hm1⟩:=iz4 (m:=m) hm g (is:=is) hrd
      have hp:=fze hm g hx (fun i h=>h) hrd (ha x hop)
      obtain⟨v,hr,hv⟩:=Dz2 (ρ:=ρ) ho hu hs hp hb1' hb2' h0 h1 h2
      exact⟨v,w,_,ρ,hr,st1,fun _ _=>⟨rfl,rfl⟩,hv,hm1⟩
     ·cases h
    ·cases h
   ·cases h
  ·cases h
theorem Sz4 {t:TypeId}{x:Operand}{lo hi mx:Option Operand}{out:Out}(ho:o.op=.slice t x lo hi mx)
 (h:Gzl P t (env x) (lo.map env) (hi.map env) (mx.map env) m=some out) (hob:holds out.obl):Sound1 P o env m id out:=by
 unfold Gzl at h
 split at h
 ·cases h
 ·rename_i hmx
  have hmx':mx=none:=by simpa using hmx
  subst hmx'
  have hop:x∈o.op.operands:=by simp[ho,Op.operands]
  have hlo:∀y,lo=some y->y∈o.op.operands:=fun y hy=>by simp[ho,Op.operands,hy]
  have hhi:∀y,hi=some y->y∈o.op.operands:=fun y hy=>by simp[ho,Op.operands,hy]
  split at h
  ·rename_i e hu
   split at h
   ·rename_i old hx
    split at h
    ·rename_i sz n f sh e' hmo
     split at h
     ·rename_i l hh hl hh'
      split at h
      ·rename_i hs
       cases h
       obtain⟨h0,h1,h2⟩:=hob
       refine Sound1.still fun F w ρ Mine M a hm hrd ha=>?_
       have hb1:=fzz (F:=F) (w:=w) (ρ:=ρ) (a:=a) hl (fun y hy=>ha y (hlo y hy))
       have hb2:=fzz (F:=F) (w:=w) (ρ:=ρ) (a:=a) hh' (fun y hy=>ha y (hhi y hy))
       have hb1':(lo.map a.eval=none/\l=0)\/∃k,lo.map a.eval=some (.int k l):=hb1.imp (fun h=>⟨by simp[h.1],by simpa using h.2⟩) (fun h=>h)
       have hb2':(hi.map a.eval=none/\hh=n)\/∃k,hi.map a.eval=some (.int k hh):=hb2.imp (fun h=>⟨by simp[h.1],h.2⟩) (fun h=>h)
       have hM:=(hrd old (by simp)).trans hmo
       obtain⟨hs0,hs1⟩:=Mz2 (hx▸ha x hop)
       obtain⟨_,hok⟩:=hm.ok old _ hM
       rcases hok with⟨hnone,hn0⟩|⟨b,cap,c,q1,q2,q3,q4,q5,q6,q7,q8⟩
       ·subst hn0
        obtain rfl:l=0:=by omega
        obtain rfl:hh=0:=by omega
        refine⟨.slice none 0 0,.value ?_,.viewN hnone (by simp)⟩
        have hbb:=fzf (P:=P) (w:=w) (isS:=true) (len:=0) (cap:=0) (lo:=lo.map a.eval) (hi:=hi.map a.eval) hb1' (by simpa using hb2') (Int.le_refl _) (Int.le_refl _) (by omega)
        simp only[execOp,ho,Instr.sliceAt,Instr.slice,Sem.run_bind,run_underlying hu,Result.andThen_ok,hs0 hnone,hbb,Option.map_none,cz2 hs,Sem.run_pure]
        simp
       ·have hv:=hs1 _ _ _ q1
        have hbb:=fzf (P:=P) (w:=w) (isS:=true) (len:=n) (cap:=cap) (lo:=lo.map a.eval) (hi:=hi.map a.eval) hb1' hb2' h0 h1 (by omega)
        have hrun:∀ad,(if cap=l.toNat then some ⟨b,0,none⟩else(some (⟨b,0,none⟩:Addr)).map (·.add (l.toNat * sz)))=some ad->Ran P o a w (.slice (some ad) (hh.toNat-l.toNat) (cap-l.toNat)) w:=by
         intro ad had
         refine .value ?_
         simp only[execOp,ho,Instr.sliceAt,Instr.slice,Sem.run_bind,run_underlying hu,Result.andThen_ok,hv,hbb,Option.map_none,cz2 hs,Sem.run_pure,had]
        by_cases hcl:cap=l.toNat
        ·refine⟨_,hrun ⟨b,0,none⟩ (by rw[if_pos hcl]),.view q1 (by omega) (fun h=>?_)⟩
         rcases h with h|h
         ·omega
         ·rw[h];simp
        ·exact⟨_,hrun ⟨b,0+l.toNat * sz,none⟩ (by rw[if_neg hcl,Option.map_some,dzg]),.view q1 (by omega) (fun _=>by simp)⟩
      ·cases h
     ·cases h
    ·cases h
   ·cases h
  ·cases h
theorem Uzc {t:TypeId}{x:Operand}{lo hi mx:Option Operand}{out:Out}(ho:o.op=.slice t x lo hi mx)
 (h:Lz4 P t id (env x) (lo.map env) (hi.map env) (mx.map env) m=some out) (hob:holds out.obl):Sound1 P o env m id out:=by
 unfold Lz4 at h
 split at h
 ·cases h
 ·rename_i hmx
  have hmx':mx=none:=by simpa using hmx
  subst hmx'
  have hop:x∈o.op.operands:=by simp[ho,Op.operands]
  have hlo:∀y,lo=some y->y∈o.op.operands:=fun y hy=>by simp[ho,Op.operands,hy]
  have hhi:∀y,hi=some y->y∈o.op.operands:=fun y hy=>by simp[ho,Op.operands,hy]
  split at h
  ·rename_i e hu
   split at h
   ·rename_i sz n f hx
    split at h
    ·rename_i l hh hl hh'
     split at h
     ·rename_i hs
      cases h
      obtain⟨h0,h1,h2⟩:=hob
      refine Sound1.still fun F w ρ Mine M a hm hrd ha=>?_
      have hb1:=fzz (F:=F) (w:=w) (ρ:=ρ) (a:=a) hl (fun y hy=>ha y (hlo y hy))
      have hb2:=fzz (F:=F) (w:=w) (ρ:=ρ) (a:=a) hh' (fun y hy=>ha y (hhi y hy))
      have hb1':(lo.map a.eval=none/\l=0)\/∃k,lo.map a.eval=some (.int k l):=hb1.imp (fun h=>⟨by simp[h.1],by simpa using h.2⟩) (fun h=>h)
      have hb2':(hi.map a.eval=none/\hh=n)\/∃k,hi.map a.eval=some (.int k hh):=hb2.imp (fun h=>⟨by simp[h.1],h.2⟩) (fun h=>h)
      exact Dz2 ho hu hs (hx▸ha x hop).pure_inv hb1' hb2' h0 h1 h2
     ·cases h
    ·cases h
   ·rename_i old hx
    split at h
    ·rename_i sz n f sh e' hmo
     split at h
     ·rename_i hlon
      have hlo':lo=none:=by simpa using hlon
      subst hlo'
      split at h
      ·rename_i hh hh'
       split at h
       ·rename_i hs
        cases h
        obtain⟨h0,h1,h2⟩:=hob
        intro F w ρ Mine M a hm g fr hrd hfe ha
        have hM:=(hrd old (by simp)).trans hmo
        have hb2:=fzz (F:=F) (w:=w) (ρ:=ρ) (a:=a) hh' (fun y hy=>ha y (hhi y hy))
        have hb2':(hi.map a.eval=none/\hh=n)\/∃k,hi.map a.eval=some (.int k hh):=hb2.imp (fun h=>⟨by simp[h.1],h.2⟩) (fun h=>h)
        have hsv:=hx▸ha x hop
        obtain⟨hshn,hok⟩:=hm.ok old _ hM
        rcases hok with⟨hnone,hn0⟩|⟨b,cap,c,q1,q2,q3,q4,q5,q6,q7,q8⟩
        ·subst hn0
         obtain rfl:hh=0:=by omega
         have hv:a.eval x=.slice none 0 0:=by
          generalize a.eval x=u at hsv⊢
          cases hsv with
          |vnil _=>rfl
          |vec q=>rw[q]at hnone;cases hnone
         have hbb:=fzf (P:=P) (w:=w) (isS:=true) (len:=0) (cap:=0) (lo:=none) (hi:=hi.map a.eval) (.inl ⟨rfl,rfl⟩) (by simpa using hb2') (Int.le_refl _) (Int.le_refl _) (by omega)
         have hvv:(ρ.setVec id none).vec id=none:=if_pos rfl
         refine⟨.slice none 0 0,w,F,ρ.setVec id none,.value ?_,Step.refl g,cz4 ρ id none,.vnil hvv,by simpa using hm.newVec fr (Step.refl g) none [old] sz 0 sh f e' ⟨by omega,.inl ⟨hvv,rfl⟩⟩ (fun b hb=>by simp at hb) (fun _ _ _ _ _ _=>⟨rfl,fun _ h=>h⟩)⟩
         simp only[execOp,ho,Instr.sliceAt,Instr.slice,Sem.run_bind,run_underlying hu,Result.andThen_ok,hv,hbb,Option.map_none,cz2 hs,Sem.run_pure]
         simp
        ·have hv:a.eval x=.slice (some ⟨b,0,none⟩) n cap:=by
          generalize a.eval x=u at hsv⊢
          cases hsv with
          |vnil q=>rw[q]at q1;cases q1
          |vec q=>rw[q]at q1;cases q1;rfl
         have hmine:=hm.mine old _ b hM (.inl (by simp[bzc,q1]))
         have hbb:=fzf (P:=P) (w:=w) (isS:=true) (len:=n) (cap:=cap) (lo:=none) (hi:=hi.map a.eval) (.inl ⟨rfl,rfl⟩) hb2' (Int.le_refl _) h0 (by omega)
         have hvv:(ρ.setVec id (some (b,hh.toNat,cap))).vec id=some (b,hh.toNat,cap):=if_pos rfl
         have hmem:=hm.newVec fr (Step.refl g) (some (b,hh.toNat,cap)) [old] sz hh.toNat sh f e' ⟨h2,.inr ⟨b,cap,c,hvv,q2,by omega,q4,q5,q6,fun i hi=>q7 i (by omega),fun i j p hi hp=>q8 i j p (by omega) hp⟩⟩
          (fun b' hb'=>by
           simp at hb';subst hb'
           refine⟨hmine.1,hmine.2,fun q r' hq hnot hbq=>?_⟩
           have:=hm.disj old q _ r' _ hM hq (.inl (by simp[bzc,q1])) hbq
           subst this;simp at hnot) (fun _ _ _ _ _ _=>⟨rfl,fun _ h=>h⟩)
         refine⟨.slice (some ⟨b,0,none⟩) hh.toNat cap,w,F,ρ.setVec id (some (b,hh.toNat,cap)),.value ?_,Step.refl g,cz4 ρ id _,.vec hvv,by simpa using hmem⟩
         simp only[execOp,ho,Instr.sliceAt,Instr.slice,Sem.run_bind,run_underlying hu,Result.andThen_ok,hv,hbb,Option.map_none,cz2 hs,Sem.run_pure]
         simp[dzg]
       ·cases h
      ·cases h
     ·cases h
    ·cases h
   ·cases h
  ·rename_i hu
   split at h
   ·rename_i s hx
    split at h
    ·rename_i l hh hl hh'
     cases h
     obtain⟨h0,h1,h2⟩:=hob
     refine Sound1.still fun F w ρ Mine M a hm hrd ha=>?_
     have hb1:=fzz (F:=F) (w:=w) (ρ:=ρ) (a:=a) hl (fun y hy=>ha y (hlo y hy))
     have hb2:=fzz (F:=F) (w:=w) (ρ:=ρ) (a:=a) hh' (fun y hy=>ha y (hhi y hy))
     have hb1':(lo.map a.eval=none/\l=0)\/∃k,lo.map a.eval=some (.int k l):=hb1.imp (fun h=>⟨by simp[h.1],by simpa using h.2⟩) (fun h=>h)
     have hb2':(hi.map a.eval=none/\hh=s.size)\/∃k,hi.map a.eval=some (.int k hh):=hb2.imp (fun h=>⟨by simp[h.1],h.2⟩) (fun h=>h)
     have hv:=(hx▸ha x hop).pure_inv.str_inv
     have hbb:=fzf (P:=P) (w:=w) (isS:=false) (len:=s.size) (cap:=s.size) (lo:=lo.map a.eval) (hi:=hi.map a.eval) hb1' hb2' h0 h1 h2
     refine⟨_,.value ?_,.pure .str⟩
     simp only[execOp,ho,Instr.sliceAt,Instr.slice,Sem.run_bind,run_underlying hu,Result.andThen_ok,hv,Option.map_none,Option.isSome_none,Bool.false_eq_true,if_false,Sem.run_pure,hbb]
    ·cases h
   ·cases h
  ·cases h
end Go.Abs
