/-
  SoundJ (a part of a claim: our own text).
-/
import Derived.Test.YtlmicknhpllbdaaGreatDoorYMSoundI
namespace Go.Abs
variable {P:Program} {o:Oper} {env:Operand->AVal} {m:Mem} {id:Nat}
theorem az1y {F:Cells}{w:World}{ρ:Env}{id:Nat}{v:Value}(h:ARel F w ρ (.vec id) v):(ρ.vec id=none->v=.slice none 0 0)/\∀b n cap,ρ.vec id=some (b,n,cap)->v=.slice (some ⟨b,0,none⟩) n cap:=by
 cases h<;>simp_all
theorem azbn {F:Cells}{w:World}{ρ:Env}{id sz k:Nat}{v:Value}(h:ARel F w ρ (.view id sz 0 k) v):(ρ.vec id=none->v=.slice none 0 0)/\∀b n cap,ρ.vec id=some (b,n,cap)->v=.slice (some ⟨b,0,none⟩) k cap:=by
 cases h<;>simp_all
theorem azgq {F:Cells}{w:World}{ρ:Env}{Mine:Nat->Prop}{M:Mem}(g:MemOk F w ρ Mine M){id sz n sh:Nat}{f:Nat->PVal}{e:TypeId}{v:Value}(d:M.get id=some (.vec sz n f sh e))
 (h:∀b n cap,ρ.vec id=some (b,n,cap)->v=.slice (some ⟨b,0,none⟩) n cap) (b c cap:Nat) (i:ρ.vec id=some (b,c,cap)):v=.slice (some ⟨b,0,none⟩) n cap:=by
 obtain⟨_,a⟩:=g.ok id _ d
 grind
theorem azas {s x:Operand}{K:Array TypeId}{out:Out}(ho:o.op=.call {callee:=.builtin .append,args:=#[s,x],argTypes:=K})
 (W:∀t,K[0]?=some t->K[1]?=some t->K=#[t,t]) (h:Uzl P K id s (env s) (env x) m=some out) (r:holds out.obl):Sound1 P o env m id out:=by
 have q:s∈o.op.operands/\x∈o.op.operands:=by simp[ho,Op.operands,Call.operands]
 unfold Uzl at h
 split at h
 ·rename_i t t' S Q
  split at h
  ·rename_i htt;subst htt
   obtain rfl:=W t S Q
   split at h
   ·rename_i e E
    split at h
    ·rename_i sz by_ hs hby
     split at h
     ·rename_i z hz
      split at h
      ·split at h
       ·rename_i k gg is d
        obtain⟨i,zv,hi,B,hzz⟩:=nzh hz
        obtain⟨i',j,y⟩:=izf hs
        rw[hi]at j;cases j
        obtain⟨i',j,A⟩:=uz0 hby
        rw[hi]at j;cases j
        have C:zv.cells.size=sz+1:=by grind
        split at h
        ·cases h
         obtain⟨I,H⟩:=r
         intro F w ρ Mine M a p g L b G D
         obtain⟨news,c⟩:=Wzo p (Nat.succ_pos _) d b (D x q.2)
         obtain⟨v,V,F',ρ',T,U,Z,X,h5⟩:=append_nil (P:=P) (ty:=o.type) p g L E hi B y A C [] (a.eval x) news c I H
         exact⟨v,V,F',ρ',Kzh ho T,U,Z,X,by simp_all⟩
        ·rename_i old _ N
         split at h
         ·rename_i l
          cases h
          obtain⟨I,H⟩:=r
          intro F w ρ Mine M a p g L b G D
          obtain⟨news,c⟩:=Wzo p (Nat.succ_pos _) d (fun i hi=>b i (by grind)) (D x q.2)
          have Y:ρ.vec old=none:=p.ok old _ ((b old (by simp)).trans l)
          have hsv':=fun (u:Value) (E:ARel F w ρ (.vec old) u)=>(show u=.slice none 0 0 by
           cases E<;>simp_all)
          obtain⟨v,V,F',ρ',T,U,Z,X,h5⟩:=append_nil (P:=P) (ty:=o.type) p g L E hi B y A C [old] (a.eval x) news c I H
          grind[Kzh]
         ·rename_i sz' n f sh e' l
          split at h
          ·rename_i hc
           simp only[Bool.and_eq_true,decide_eq_true_eq]at hc
           obtain⟨rfl,rfl⟩:=hc
           cases h
           obtain⟨I,H⟩:=r
           intro F w ρ Mine M a p g L b G D
           obtain⟨news,c⟩:=Wzo p (Nat.succ_pos _) d (fun i hi=>b i (by grind)) (D x q.2)
           have J:=D _ q.1
           rw[N]at J
           obtain⟨R,O⟩:=az1y J
           obtain⟨v,V,F',ρ',T,U,Z,X,h5⟩:=Izx (P:=P) (ty:=o.type) p g L E hi B y A C ((b old (by simp)).trans l) (Nat.le_refl _) (p.ok _ _ ((b old (by simp)).trans l)).1 _ (a.eval x) R (azgq p ((b old (by simp)).trans l) O) news c I H
           grind[Kzh]
          grind
         grind
        grind
       grind
      grind
     grind
    grind
   grind
  grind
 grind
theorem az7u {s x:Operand}{O:Array TypeId}{out:Out}(ho:o.op=.call {callee:=.builtin .append,args:=#[s,x],argTypes:=O})
 (hts:∀t,O[0]?=some t->O[1]?=some t->O=#[t,t]) (h:Ozi P O id s (env s) (env x) m=some out) (A:holds out.obl):Sound1 P o env m id out:=by
 have d:s∈o.op.operands/\x∈o.op.operands:=by simp[ho,Op.operands,Call.operands]
 unfold Ozi at h
 split at h
 ·rename_i j szv lo k Z
  split at h
  ·rename_i t t' szf n f shf ef ht0 V S
   split at h
   ·rename_i htt;subst htt
    obtain rfl:=hts t ht0 V
    split at h
    ·rename_i e hu
     split at h
     ·rename_i sz by_ hs W
      split at h
      ·rename_i z hz
       split at h
       ·rename_i y
        simp only[Bool.and_eq_true,decide_eq_true_eq]at y
        obtain⟨⟨hzl,rfl⟩,rfl⟩:=y
        obtain⟨i,zv,hi,B,hzz⟩:=nzh hz
        obtain⟨i',q,D⟩:=izf hs
        rw[hi]at q;cases q
        obtain⟨i',q,I⟩:=uz0 W
        rw[hi]at q;cases q
        have E:zv.cells.size=sz+1:=by grind
        split at h
        ·cases h
         obtain⟨L,R,l⟩:=A
         intro F w ρ Mine M a u g Q b N J
         obtain⟨news,p⟩:=Kzu u (Nat.succ_pos _) ((b j (by simp)).trans S) (Z▸J x d.2) l
         obtain⟨v,Y,F',ρ',X,h2,T,U,h5⟩:=append_nil (P:=P) (ty:=o.type) u g Q hu hi B D I E [] (a.eval x) news p L R
         exact⟨v,Y,F',ρ',Kzh ho X,h2,T,U,by simp_all⟩
        ·rename_i old _ r
         split at h
         ·rename_i sz' n' f' sh e' G
          split at h
          ·rename_i y
           simp only[Bool.and_eq_true,decide_eq_true_eq]at y
           obtain⟨⟨rfl,rfl⟩,_⟩:=y
           cases h
           obtain⟨L,R,l⟩:=A
           intro F w ρ Mine M a u g Q b N J
           obtain⟨news,p⟩:=Kzu u (Nat.succ_pos _) ((b j (by simp)).trans S) (Z▸J x d.2) l
           have c:=J _ d.1
           rw[r]at c
           obtain⟨C,H⟩:=az1y c
           obtain⟨v,Y,F',ρ',X,h2,T,U,h5⟩:=Izx (P:=P) (ty:=o.type) u g Q hu hi B D I E ((b old (by simp)).trans G) (Nat.le_refl _) (u.ok _ _ ((b old (by simp)).trans G)).1 _ (a.eval x) C (azgq u ((b old (by simp)).trans G) H) news p L R
           grind[Kzh]
          grind
         grind
        ·rename_i old szw k1 _ r
         split at h
         ·rename_i y
          simp only[Bool.and_eq_true,decide_eq_true_eq]at y
          obtain⟨⟨⟨rfl,rfl⟩,rfl⟩,rfl⟩:=y
          cases h
          obtain⟨L,R,K,l⟩:=A
          intro F w ρ Mine M a u g Q b N J
          have hM:=(b old (by simp)).trans S
          obtain⟨news,p⟩:=Kzu u (Nat.succ_pos _) hM (Z▸J x d.2) l
          have c:=J _ d.1
          rw[r]at c
          obtain⟨C,H⟩:=azbn c
          obtain⟨v,Y,F',ρ',X,h2,T,U,h5⟩:=Izx (P:=P) (ty:=o.type) u g Q hu hi B D I E hM K (Nat.zero_le _) _ (a.eval x) C H news p L R
          grind[Kzh]
         grind
        grind
       grind
      grind
     grind
    grind
   grind
  grind
 grind
theorem kzv {F:Cells}{w:World}{ρ:Env}{a:Act}{d:Nat}{x:Option Operand}{n:Int}(h:Gz2 d (x.map env)=some n)(e:∀y,x=some y->ARel F w ρ (env y) (a.eval y)):
 (x=none/\n=d)\/∃k,x.map a.eval=some (.int k n):=by
 cases x with
 |none=>grind[Gz2]
 |some y=>
  simp only[Option.map_some]at h⊢
  unfold Gz2 at h
  split at h
  ·simp_all
  ·rename_i k q c
   cases h
   simp only[Option.some.injEq]at c
   have:=e y rfl
   rw[c]at this
   exact .inr ⟨k,by rw[this.pure_inv.int_inv]⟩
  grind
theorem hz6 {w:World}{isS:Bool}{len cap:Nat}{lo hi:Option Value}{l h:Int}(a:(lo=none/\l=0)\/∃k,lo=some (.int k l))(b:(hi=none/\h=len)\/∃k,hi=some (.int k h))
 (g:0≤l) (f:l≤h) (e:h≤cap):(Instr.sliceBounds isS len cap lo hi none).run P w=.ok (l.toNat,h.toNat,cap) w:=by
 rcases b with⟨rfl,rfl⟩|⟨k,rfl⟩
 ·rcases a with⟨rfl,rfl⟩|⟨k,rfl⟩
  all_goals simp_all[Instr.sliceBounds,Instr.sliceBound,asIntOf]
 ·have d:0≤h:=by omega
  have c:l≤(h.toNat:Int):=by omega
  rcases a with⟨rfl,rfl⟩|⟨k',rfl⟩
  all_goals simp_all[Instr.sliceBounds,Instr.sliceBound,asIntOf]
theorem Zzp {t:TypeId}{x:Operand}{lo hi:Option Operand}{e:TypeId}{sz n:Nat}{f:Nat->PVal}{l g:Int}(L:o.op=.slice t x lo hi none)(Q:P.underlying t=some (.slice e))(N:bz9 P e=some sz)
 {F:Cells} {w:World} {ρ:Env} {a:Act} (G:PRel F w (.lst sz n f) (a.eval x))
 (d:(lo.map a.eval=none/\l=0)\/∃k,lo.map a.eval=some (.int k l)) (s:(hi.map a.eval=none/\g=n)\/∃k,hi.map a.eval=some (.int k g)) (H:0≤l) (I:l≤g) (O:g≤n):
 ∃v,Ran P o a w v w/\ARel F w ρ (.pure (.lst sz (g.toNat-l.toNat) (fun i=>f (l.toNat+i)))) v:=by
 rcases G.lst_inv with⟨A,m⟩|⟨r,cap,A,m,y⟩|⟨b,off,cap,c,A,E,y,z,R,M⟩
 rotate_left
 ·subst m
  obtain rfl:l=0:=by omega
  obtain rfl:g=0:=by omega
  have u:=hz6 (P:=P) (w:=w) (isS:=true) (len:=0) (cap:=cap) (lo:=lo.map a.eval) (hi:=hi.map a.eval) d (by omega) (Int.le_refl _) (Int.le_refl _) (by omega)
  by_cases J:cap=0
  ·refine⟨.slice (some r) 0 0,.value ?_,.pure (.emp (Nat.zero_le _))⟩
   simp_all[execOp,Instr.sliceAt,Instr.slice,run_underlying,cz3]
  ·refine⟨.slice (some (r.add 0)) 0 cap,.value ?_,.pure (.emp y)⟩
   simp_all[execOp,Instr.sliceAt,Instr.slice,run_underlying,cz3]
 rotate_right
 ·subst m
  obtain rfl:l=0:=by omega
  obtain rfl:g=0:=by omega
  refine⟨.slice none 0 0,.value ?_,.pure .nil⟩
  have u:=hz6 (P:=P) (w:=w) (isS:=true) (len:=0) (cap:=0) (lo:=lo.map a.eval) (hi:=hi.map a.eval) d (by omega) (Int.le_refl _) (Int.le_refl _) (by omega)
  simp_all[execOp,Instr.sliceAt,Instr.slice,run_underlying,cz3]
 ·have u:=hz6 (P:=P) (w:=w) (isS:=true) (len:=n) (cap:=cap) (lo:=lo.map a.eval) (hi:=hi.map a.eval) d s H I (by omega)
  have h:∀r,(if cap=l.toNat then some ⟨b,off,none⟩else(some (⟨b,off,none⟩:Addr)).map (·.add (l.toNat * sz)))=some r->Ran P o a w (.slice (some r) (g.toNat-l.toNat) (cap-l.toNat)) w:=by
   intro r K
   refine .value ?_
   simp_all[execOp,Instr.sliceAt,Instr.slice,run_underlying,cz3]
  by_cases C:cap=l.toNat
  ·refine⟨_,h ⟨b,off,none⟩ (by simp_all),.pure ?_⟩
   have D:g.toNat-l.toNat=0:=by omega
   rw[D]
   exact .sl c (Nat.zero_le _) (by omega) (by omega) (by omega) (by omega)
  ·refine⟨_,h ⟨b,off+l.toNat * sz,none⟩ (by grind[ezl]),.pure ?_⟩
   refine .sl (fun q=>c (l.toNat * sz+q)) (by omega) (by omega) (fun i hi=>z _ (by omega)) (fun i j p hi B=>?_) (fun i j p hi B=>?_)
   all_goals grind
theorem azb2 {t:TypeId}{x:Operand}{lo hi mx:Option Operand}{out:Out}(H:o.op=.slice t x lo hi mx)
 (h:Uzr P t (env x) (lo.map env) (hi.map env) (mx.map env) m=some out) (A:holds out.obl):Sound1 P o env m id out:=by
 unfold Uzr at h
 split at h
 ·cases h
 ·have d:mx=none:=by simp_all
  subst d
  have E:x∈o.op.operands:=by simp[H,Op.operands]
  have z:∀y,lo=some y->y∈o.op.operands:=fun y c=>by grind[Op.operands]
  have u:∀y,hi=some y->y∈o.op.operands:=fun y c=>by grind[Op.operands]
  split at h
  ·rename_i e O
   split at h
   ·rename_i sz n f is U
    split at h
    ·rename_i l J Q s
     split at h
     ·rename_i N
      cases h
      obtain⟨L,S,T⟩:=A
      intro F w ρ Mine M a G g W p I D
      have r:=kzv (F:=F) (w:=w) (ρ:=ρ) (a:=a) Q (fun y c=>D y (z y c))
      have q:=kzv (F:=F) (w:=w) (ρ:=ρ) (a:=a) s (fun y c=>D y (u y c))
      have b:(lo.map a.eval=none/\l=0)\/∃k,lo.map a.eval=some (.int k l):=r.imp (fun h=>⟨by grind,by omega⟩) (fun h=>h)
      have j:(hi.map a.eval=none/\J=n)\/∃k,hi.map a.eval=some (.int k J):=q.imp (fun h=>⟨by grind,h.2⟩) (fun h=>h)
      obtain⟨C,B⟩:=tzt (m:=m) G g (is:=is) p
      have V:=mzw G g U (fun i h=>h) p (D x E)
      obtain⟨v,K,R⟩:=Zzp (ρ:=ρ) H O N V b j L S T
      exact⟨v,w,_,ρ,K,C,fun _ _=>⟨rfl,rfl⟩,R,B⟩
     grind
    grind
   grind
  grind
theorem azb3 {t:TypeId}{x:Operand}{lo hi mx:Option Operand}{out:Out}(Q:o.op=.slice t x lo hi mx)
 (h:Uzs P t (env x) (lo.map env) (hi.map env) (mx.map env) m=some out) (D:holds out.obl):Sound1 P o env m id out:=by
 unfold Uzs at h
 split at h
 ·cases h
 ·have I:x∈o.op.operands:=by simp[Q,Op.operands]
  have q:∀y,lo=some y->y∈o.op.operands:=fun y i=>by grind[Op.operands]
  have E:∀y,hi=some y->y∈o.op.operands:=fun y i=>by grind[Op.operands]
  split at h
  ·split at h
   ·rename_i old S
    split at h
    ·rename_i sz n f sh Z u
     split at h
     ·rename_i l p L z
      split at h
      ·cases h
       obtain⟨O,V,h2⟩:=D
       refine Sound1.still fun F w ρ Mine M a W G B=>?_
       have v:=kzv (F:=F) (w:=w) (ρ:=ρ) (a:=a) L (fun y i=>B y (q y i))
       have A:=kzv (F:=F) (w:=w) (ρ:=ρ) (a:=a) z (fun y i=>B y (E y i))
       have e:(lo.map a.eval=none/\l=0)\/∃k,lo.map a.eval=some (.int k l):=v.imp (fun h=>⟨by grind,by omega⟩) (fun h=>h)
       have j:(hi.map a.eval=none/\p=n)\/∃k,hi.map a.eval=some (.int k p):=A.imp (fun h=>⟨by grind,h.2⟩) (fun h=>h)
       have U:=(G old (by simp)).trans u
       obtain⟨R,N⟩:=az1y (S▸B x I)
       obtain⟨_,H⟩:=W.ok old _ U
       rcases H with⟨g,s⟩|⟨b,cap,c,J,Y,q3,X,q5,q6,q7,q8⟩
       ·subst s
        obtain rfl:l=0:=by omega
        obtain rfl:p=0:=by omega
        refine⟨.slice none 0 0,.value ?_,.viewN g (by simp)⟩
        have C:=hz6 (P:=P) (w:=w) (isS:=true) (len:=0) (cap:=0) (lo:=lo.map a.eval) (hi:=hi.map a.eval) e (by omega) (Int.le_refl _) (Int.le_refl _) (by omega)
        simp_all[execOp,Instr.sliceAt,Instr.slice,run_underlying,cz3]
       ·have C:=hz6 (P:=P) (w:=w) (isS:=true) (len:=n) (cap:=cap) (lo:=lo.map a.eval) (hi:=hi.map a.eval) e j O V (by omega)
        have d:∀r,(if cap=l.toNat then some ⟨b,0,none⟩else(some (⟨b,0,none⟩:Addr)).map (·.add (l.toNat * sz)))=some r->Ran P o a w (.slice (some r) (p.toNat-l.toNat) (cap-l.toNat)) w:=by
         intro r T
         refine .value ?_
         simp_all[execOp,Instr.sliceAt,Instr.slice,run_underlying,cz3]
        by_cases K:cap=l.toNat
        ·refine⟨_,d ⟨b,0,none⟩ (by simp_all),.view J (by omega) (fun h=>?_)⟩
         grind
        ·exact⟨_,d ⟨b,0+l.toNat * sz,none⟩ (by grind[ezl]),.view J (by omega) (fun _=>by simp)⟩
      grind
     grind
    grind
   grind
  grind
theorem azeq {t:TypeId}{x:Operand}{lo hi mx:Option Operand}{out:Out}(ho:o.op=.slice t x lo hi mx)
 (h:az0q P t id (env x) (lo.map env) (hi.map env) (mx.map env) m=some out) (J:holds out.obl):Sound1 P o env m id out:=by
 unfold az0q at h
 split at h
 ·cases h
 ·rename_i hmx
  have R:mx=none:=by simp_all
  subst R
  have I:x∈o.op.operands:=by simp[ho,Op.operands]
  have T:∀y,lo=some y->y∈o.op.operands:=fun y v=>by grind[Op.operands]
  have H:∀y,hi=some y->y∈o.op.operands:=fun y v=>by grind[Op.operands]
  split at h
  ·rename_i e hu
   split at h
   ·rename_i sz n f O
    split at h
    ·rename_i l r Z z
     split at h
     ·rename_i hs
      cases h
      obtain⟨V,X,U⟩:=J
      refine Sound1.still fun F w ρ Mine M a L N E=>?_
      have K:=kzv (F:=F) (w:=w) (ρ:=ρ) (a:=a) Z (fun y v=>E y (T y v))
      have A:=kzv (F:=F) (w:=w) (ρ:=ρ) (a:=a) z (fun y v=>E y (H y v))
      have D:(lo.map a.eval=none/\l=0)\/∃k,lo.map a.eval=some (.int k l):=K.imp (fun h=>⟨by grind,by omega⟩) (fun h=>h)
      have d:(hi.map a.eval=none/\r=n)\/∃k,hi.map a.eval=some (.int k r):=A.imp (fun h=>⟨by grind,h.2⟩) (fun h=>h)
      exact Zzp ho hu hs (O▸E x I).pure_inv D d V X U
     grind
    grind
   ·rename_i old O
    split at h
    ·rename_i sz n f sh e' hmo
     split at h
     ·rename_i hlon
      have W:lo=none:=by simp_all
      subst W
      split at h
      ·rename_i r z
       split at h
       ·rename_i hs
        cases h
        obtain⟨V,X,U⟩:=J
        intro F w ρ Mine M a L g fr N hfe E
        have hM:=(N old (by simp)).trans hmo
        have A:=kzv (F:=F) (w:=w) (ρ:=ρ) (a:=a) z (fun y v=>E y (H y v))
        have d:(hi.map a.eval=none/\r=n)\/∃k,hi.map a.eval=some (.int k r):=A.imp (fun h=>⟨by grind,h.2⟩) (fun h=>h)
        have G:=O▸E x I
        obtain⟨hshn,hok⟩:=L.ok old _ hM
        rcases hok with⟨Y,hn0⟩|⟨b,cap,c,q1,q2,q3,q4,q5,q6,q7,q8⟩
        ·subst hn0
         obtain rfl:r=0:=by omega
         have hv:a.eval x=.slice none 0 0:=by
          generalize a.eval x=u at G⊢
          cases G<;>simp_all
         have S:=hz6 (P:=P) (w:=w) (isS:=true) (len:=0) (cap:=0) (lo:=none) (hi:=hi.map a.eval) (.inl ⟨rfl,rfl⟩) (by omega) (Int.le_refl _) (Int.le_refl _) (by omega)
         have C:(ρ.setVec id none).vec id=none:=if_pos rfl
         refine⟨.slice none 0 0,w,F,ρ.setVec id none,.value ?_,Step.refl g,cz0 ρ id none,.vnil C,by simpa using L.newVec fr (Step.refl g) none [old] sz 0 sh f e' ⟨by omega,.inl ⟨C,rfl⟩⟩ (fun b hb=>by grind) (fun _ _ _ _ _ _=>⟨rfl,fun _ h=>h⟩)⟩
         simp_all[execOp,Instr.sliceAt,Instr.slice,run_underlying,cz3]
        ·have hv:a.eval x=.slice (some ⟨b,0,none⟩) n cap:=by
          generalize a.eval x=u at G⊢
          cases G<;>simp_all
         have B:=L.mine old _ b hM (.inl (by simp[bz4,q1]))
         have S:=hz6 (P:=P) (w:=w) (isS:=true) (len:=n) (cap:=cap) (lo:=none) (hi:=hi.map a.eval) (.inl ⟨rfl,rfl⟩) d (Int.le_refl _) V (by omega)
         have C:(ρ.setVec id (some (b,r.toNat,cap))).vec id=some (b,r.toNat,cap):=if_pos rfl
         have hmem:=L.newVec fr (Step.refl g) (some (b,r.toNat,cap)) [old] sz r.toNat sh f e' ⟨U,.inr ⟨b,cap,c,C,q2,by omega,q4,q5,q6,fun i hi=>q7 i (by omega),fun i j p hi hp=>q8 i j p (by omega) hp⟩⟩
          (fun b' Q=>by
           simp at Q;subst Q
           refine⟨B.1,B.2,fun q r' hq hnot hbq=>?_⟩
           have:=L.disj old q _ r' _ hM hq (.inl (by simp[bz4,q1])) hbq
           simp_all) (fun _ _ _ _ _ _=>⟨rfl,fun _ h=>h⟩)
         refine⟨.slice (some ⟨b,0,none⟩) r.toNat cap,w,F,ρ.setVec id (some (b,r.toNat,cap)),.value ?_,Step.refl g,cz0 ρ id _,.vec C,by simp_all⟩
         simp_all[execOp,Instr.sliceAt,Instr.slice,run_underlying,cz3,ezl]
       grind
      grind
     grind
    grind
   grind
  ·split at h
   ·rename_i s O
    split at h
    ·rename_i l r Z z
     cases h
     obtain⟨V,X,U⟩:=J
     refine Sound1.still fun F w ρ Mine M a L N E=>?_
     have K:=kzv (F:=F) (w:=w) (ρ:=ρ) (a:=a) Z (fun y v=>E y (T y v))
     have A:=kzv (F:=F) (w:=w) (ρ:=ρ) (a:=a) z (fun y v=>E y (H y v))
     have D:(lo.map a.eval=none/\l=0)\/∃k,lo.map a.eval=some (.int k l):=K.imp (fun h=>⟨by grind,by omega⟩) (fun h=>h)
     have d:(hi.map a.eval=none/\r=s.size)\/∃k,hi.map a.eval=some (.int k r):=A.imp (fun h=>⟨by grind,h.2⟩) (fun h=>h)
     have hv:=(O▸E x I).pure_inv.str_inv
     have S:=hz6 (P:=P) (w:=w) (isS:=false) (len:=s.size) (cap:=s.size) (lo:=lo.map a.eval) (hi:=hi.map a.eval) D d V X U
     refine⟨_,.value ?_,.pure .str⟩
     simp_all[execOp,Instr.sliceAt,Instr.slice,run_underlying]
    grind
   grind
  grind
end Go.Abs
