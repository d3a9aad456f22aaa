import Derived.Test.YtnfbbidmdkfilaaGreatDoorZDSoundI
open Bool renaming and_eq_true->qm
open Go renaming TypeId->qq,Operand->xQ,World->qn,execOp->zb,run_underlying->zd
open Go.Op renaming operands->za
open Int renaming le_refl->wY
open Nat renaming succ_pos->zw,zero_le->wy
namespace Go.Abs
variable {P:Program} {o:Oper} {env:xQ->AVal} {m:Mem} {id:Nat}
theorem az65 {F:Cells}{w:qn}{ρ:Env}{id:Nat}{v:Value}(h:ARel F w ρ (.vec id) v):(ρ.vec id=none->v=.slice none 0 0)/\∀b n cap,ρ.vec id=some (b,n,cap)->v=.slice (some ⟨b,0,none⟩) n cap:=by
 cases h<;>simp_all
theorem azj5 {F:Cells}{w:qn}{ρ:Env}{id sz k:Nat}{v:Value}(h:ARel F w ρ (.view id sz 0 k) v):(ρ.vec id=none->v=.slice none 0 0)/\∀b n cap,ρ.vec id=some (b,n,cap)->v=.slice (some ⟨b,0,none⟩) k cap:=by
 cases h<;>simp_all
theorem azpq {F:Cells}{w:qn}{ρ:Env}{Mine:Nat->Prop}{M:Mem}(g:MemOk F w ρ Mine M){id sz n sh:Nat}{f:Nat->PVal}{e:qq}{v:Value}(d:M.get id=some (.vec sz n f sh e))
 (h:∀b n cap,ρ.vec id=some (b,n,cap)->v=.slice (some ⟨b,0,none⟩) n cap) (b c cap:Nat) (i:ρ.vec id=some (b,c,cap)):v=.slice (some ⟨b,0,none⟩) n cap:=by
 obtain⟨_,a⟩:=g.ok id _ d
 grind
theorem azi8 {s x:xQ}{K:Array qq}{out:Out}(ho:o.op=.call {callee:=.builtin .append,args:=#[s,x],argTypes:=K})
 (W:∀t,K[0]?=some t->K[1]?=some t->K=#[t,t]) (h:Xzm P K id s (env s) (env x) m=some out) (r:holds out.obl):Sound1 P o env m id out:=by
 have q:s∈o.op.operands/\x∈o.op.operands:=by simp[ho,za,Call.operands]
 unfold Xzm at h;split at h
 ·rename_i t t' S Q;split at h
  ·rename_i htt;subst htt;obtain rfl:=W t S Q;split at h
   ·rename_i e E;split at h
    ·rename_i sz by_ hs hby;split at h
     ·rename_i z hz;split at h
      ·split at h
       ·rename_i k gg is d;obtain⟨i,zv,hi,B,hzz⟩:=nzt hz;obtain⟨i',j,y⟩:=iz9 hs;rw[hi]at j;cases j;obtain⟨i',j,A⟩:=vzc hby;rw[hi]at j;cases j;have C:zv.cells.size=sz+1:=by grind
        split at h
        ·cases h;obtain⟨I,H⟩:=r;intro F w ρ Mine M a p g L b G D;obtain⟨news,c⟩:=Zzy p (zw _) d b (D x q.2);obtain⟨v,V,F',ρ',T,U,Z,X,h5⟩:=append_nil (P:=P) (ty:=o.type) p g L E hi B y A C [] (a.eval x) news c I H;exact⟨v,V,F',ρ',Nzj ho T,U,Z,X,jr⟩
        ·rename_i old _ N;split at h
         ·rename_i l;cases h;obtain⟨I,H⟩:=r;intro F w ρ Mine M a p g L b G D;obtain⟨news,c⟩:=Zzy p (zw _) d (λi hi=>b i jt) (D x q.2);have Y:ρ.vec old=none:=p.ok old _ ((b old jq).trans l);have hsv':=λ(u:Value) (E:ARel F w ρ (.vec old) u)=>(show u=.slice none 0 0 by
           cases E<;>simp_all)
          obtain⟨v,V,F',ρ',T,U,Z,X,h5⟩:=append_nil (P:=P) (ty:=o.type) p g L E hi B y A C [old] (a.eval x) news c I H
          grind[Nzj]
         ·rename_i sz' n f sh e' l;split at h
          ·rename_i hc;simp only[qm,qf]at hc;obtain⟨rfl,rfl⟩:=hc;cases h;obtain⟨I,H⟩:=r;intro F w ρ Mine M a p g L b G D;obtain⟨news,c⟩:=Zzy p (zw _) d (λi hi=>b i jt) (D x q.2);have J:=D _ q.1;rw[N]at J;obtain⟨R,O⟩:=az65 J;obtain⟨v,V,F',ρ',T,U,Z,X,h5⟩:=Mz9 (P:=P) (ty:=o.type) p g L E hi B y A C ((b old jq).trans l) (Nat.le_refl _) (p.ok _ _ ((b old jq).trans l)).1 _ (a.eval x) R (azpq p ((b old jq).trans l) O) news c I H
           grind[Nzj]
          grind
         grind
        grind
       grind
      grind
     grind
    grind
   grind
  grind
 grind
theorem azem {s x:xQ}{O:Array qq}{out:Out}(ho:o.op=.call {callee:=.builtin .append,args:=#[s,x],argTypes:=O})
 (hts:∀t,O[0]?=some t->O[1]?=some t->O=#[t,t]) (h:Rzm P O id s (env s) (env x) m=some out) (A:holds out.obl):Sound1 P o env m id out:=by
 have d:s∈o.op.operands/\x∈o.op.operands:=by simp[ho,za,Call.operands]
 unfold Rzm at h;split at h
 ·rename_i j szv lo k Z;split at h
  ·rename_i t t' szf n f shf ef ht0 V S;split at h
   ·rename_i htt;subst htt;obtain rfl:=hts t ht0 V;split at h
    ·rename_i e hu;split at h
     ·rename_i sz by_ hs W;split at h
      ·rename_i z hz;split at h
       ·rename_i y;simp only[qm,qf]at y;obtain⟨⟨hzl,rfl⟩,rfl⟩:=y;obtain⟨i,zv,hi,B,hzz⟩:=nzt hz;obtain⟨i',q,D⟩:=iz9 hs;rw[hi]at q;cases q;obtain⟨i',q,I⟩:=vzc W;rw[hi]at q;cases q;have E:zv.cells.size=sz+1:=by grind
        split at h
        ·cases h;obtain⟨L,R,l⟩:=A;intro F w ρ Mine M a u g Q b N J;obtain⟨news,p⟩:=Nzu u (zw _) ((b j jq).trans S) (Z▸J x d.2) l;obtain⟨v,Y,F',ρ',X,h2,T,U,h5⟩:=append_nil (P:=P) (ty:=o.type) u g Q hu hi B D I E [] (a.eval x) news p L R;exact⟨v,Y,F',ρ',Nzj ho X,h2,T,U,jr⟩
        ·rename_i old _ r;split at h
         ·rename_i sz' n' f' sh e' G;split at h
          ·rename_i y;simp only[qm,qf]at y;obtain⟨⟨rfl,rfl⟩,_⟩:=y;cases h;obtain⟨L,R,l⟩:=A;intro F w ρ Mine M a u g Q b N J;obtain⟨news,p⟩:=Nzu u (zw _) ((b j jq).trans S) (Z▸J x d.2) l;have c:=J _ d.1;rw[r]at c;obtain⟨C,H⟩:=az65 c;obtain⟨v,Y,F',ρ',X,h2,T,U,h5⟩:=Mz9 (P:=P) (ty:=o.type) u g Q hu hi B D I E ((b old jq).trans G) (Nat.le_refl _) (u.ok _ _ ((b old jq).trans G)).1 _ (a.eval x) C (azpq u ((b old jq).trans G) H) news p L R
           grind[Nzj]
          grind
         grind
        ·rename_i old szw k1 _ r;split at h
         ·rename_i y;simp only[qm,qf]at y;obtain⟨⟨⟨rfl,rfl⟩,rfl⟩,rfl⟩:=y;cases h;obtain⟨L,R,K,l⟩:=A;intro F w ρ Mine M a u g Q b N J;have hM:=(b old jq).trans S;obtain⟨news,p⟩:=Nzu u (zw _) hM (Z▸J x d.2) l;have c:=J _ d.1;rw[r]at c;obtain⟨C,H⟩:=azj5 c;obtain⟨v,Y,F',ρ',X,h2,T,U,h5⟩:=Mz9 (P:=P) (ty:=o.type) u g Q hu hi B D I E hM K (wy _) _ (a.eval x) C H news p L R
          grind[Nzj]
         grind
        grind
       grind
      grind
     grind
    grind
   grind
  grind
 grind
theorem kzt {F:Cells}{w:qn}{ρ:Env}{a:Act}{d:Nat}{x:Option xQ}{n:Int}(h:Jzi d (x.map env)=some n)(e:∀y,x=some y->ARel F w ρ (env y) (a.eval y)):
 (x=none/\n=d)\/∃k,x.map a.eval=some (.int k n):=by
 cases x with
 |none=>grind[Jzi]
 |some y=>
  simp only[Option.map_some]at h⊢;unfold Jzi at h;split at h
  ·simp_all
  ·rename_i k q c;cases h;simp only[Option.some.injEq]at c;have:=e y rfl;rw[c]at this;exact .inr ⟨k,by rw[this.pure_inv.int_inv]⟩
  grind
theorem hzi {w:qn}{isS:Bool}{len cap:Nat}{lo hi:Option Value}{l h:Int}(a:(lo=none/\l=0)\/∃k,lo=some (.int k l))(b:(hi=none/\h=len)\/∃k,hi=some (.int k h))
 (g:0<=l) (f:l<=h) (e:h<=cap):(Instr.sliceBounds isS len cap lo hi none).run P w=.ok (l.toNat,h.toNat,cap) w:=by
 rcases b with⟨rfl,rfl⟩|⟨k,rfl⟩
 ·rcases a with⟨rfl,rfl⟩|⟨k,rfl⟩;all_goals simp_all[Instr.sliceBounds,Instr.sliceBound,asIntOf]
 ·have d:0<=h:=qa
  have c:l<=(h.toNat:Int):=qa
  rcases a with⟨rfl,rfl⟩|⟨k',rfl⟩;all_goals simp_all[Instr.sliceBounds,Instr.sliceBound,asIntOf]
theorem az3j {t:qq}{x:xQ}{lo hi:Option xQ}{e:qq}{sz n:Nat}{f:Nat->PVal}{l g:Int}(L:o.op=.slice t x lo hi none)(Q:P.underlying t=some (.slice e))(N:bzi P e=some sz)
 {F:Cells} {w:qn} {ρ:Env} {a:Act} (G:PRel F w (.lst sz n f) (a.eval x))
 (d:(lo.map a.eval=none/\l=0)\/∃k,lo.map a.eval=some (.int k l)) (s:(hi.map a.eval=none/\g=n)\/∃k,hi.map a.eval=some (.int k g)) (H:0<=l) (I:l<=g) (O:g<=n):
 ∃v,Ran P o a w v w/\ARel F w ρ (.pure (.lst sz (g.toNat-l.toNat) (λi=>f (l.toNat+i)))) v:=by
 rcases G.lst_inv with⟨A,m⟩|⟨r,cap,A,m,y⟩|⟨b,off,cap,c,A,E,y,z,R,M⟩
 rotate_left
 ·subst m;obtain rfl:l=0:=qa
  obtain rfl:g=0:=qa
  have u:=hzi (P:=P) (w:=w) (isS:=true) (len:=0) (cap:=cap) (lo:=lo.map a.eval) (hi:=hi.map a.eval) d qa (wY _) (wY _) qa;by_cases J:cap=0
  ·refine⟨.slice (some r) 0 0,.value ?_,.pure (.emp (wy _))⟩
   simp_all[zb,Instr.sliceAt,Instr.slice,zd,bzx]
  ·refine⟨.slice (some (r.add 0)) 0 cap,.value ?_,.pure (.emp y)⟩
   simp_all[zb,Instr.sliceAt,Instr.slice,zd,bzx]
 rotate_right
 ·subst m;obtain rfl:l=0:=qa
  obtain rfl:g=0:=qa
  refine⟨.slice none 0 0,.value ?_,.pure .nil⟩;have u:=hzi (P:=P) (w:=w) (isS:=true) (len:=0) (cap:=0) (lo:=lo.map a.eval) (hi:=hi.map a.eval) d qa (wY _) (wY _) qa
  simp_all[zb,Instr.sliceAt,Instr.slice,zd,bzx]
 ·have u:=hzi (P:=P) (w:=w) (isS:=true) (len:=n) (cap:=cap) (lo:=lo.map a.eval) (hi:=hi.map a.eval) d s H I qa;have h:∀r,(if cap=l.toNat then some ⟨b,off,none⟩else(some (⟨b,off,none⟩:Addr)).map (·.add (l.toNat * sz)))=some r->Ran P o a w (.slice (some r) (g.toNat-l.toNat) (cap-l.toNat)) w:=by
   intro r K;refine .value ?_
   simp_all[zb,Instr.sliceAt,Instr.slice,zd,bzx]
  by_cases C:cap=l.toNat
  ·refine⟨_,h ⟨b,off,none⟩ jr,.pure ?_⟩;have D:g.toNat-l.toNat=0:=qa
   rw[D];exact .sl c (wy _) qa qa qa qa
  ·refine⟨_,h ⟨b,off+l.toNat * sz,none⟩ (by grind[eze]),.pure ?_⟩;refine .sl (λq=>c (l.toNat * sz+q)) qa qa (λi hi=>z _ qa) (λi j p hi B=>?_) (λi j p hi B=>?_);all_goals grind
theorem azii {t:qq}{x:xQ}{lo hi mx:Option xQ}{out:Out}(H:o.op=.slice t x lo hi mx)
 (h:Xzs P t (env x) (lo.map env) (hi.map env) (mx.map env) m=some out) (A:holds out.obl):Sound1 P o env m id out:=by
 unfold Xzs at h;split at h
 ·cases h
 ·have d:mx=none:=by simp_all
  subst d;have E:x∈o.op.operands:=by simp[H,za]
  have z:∀y,lo=some y->y∈o.op.operands:=λy c=>by grind[za]
  have u:∀y,hi=some y->y∈o.op.operands:=λy c=>by grind[za]
  split at h
  ·rename_i e O;split at h
   ·rename_i sz n f is U;split at h
    ·rename_i l J Q s;split at h
     ·rename_i N;cases h;obtain⟨L,S,T⟩:=A;intro F w ρ Mine M a G g W p I D;have r:=kzt (F:=F) (w:=w) (ρ:=ρ) (a:=a) Q (λy c=>D y (z y c));have q:=kzt (F:=F) (w:=w) (ρ:=ρ) (a:=a) s (λy c=>D y (u y c));have b:(lo.map a.eval=none/\l=0)\/∃k,lo.map a.eval=some (.int k l):=r.imp (λh=>⟨jt,qa⟩) (λh=>h);have j:(hi.map a.eval=none/\J=n)\/∃k,hi.map a.eval=some (.int k J):=q.imp (λh=>⟨jt,h.2⟩) (λh=>h);obtain⟨C,B⟩:=qzx (m:=m) G g (is:=is) p;have V:=kza G g U (λi h=>h) p (D x E);obtain⟨v,K,R⟩:=az3j (ρ:=ρ) H O N V b j L S T;exact⟨v,w,_,ρ,K,C,λ_ _=>⟨rfl,rfl⟩,R,B⟩
     grind
    grind
   grind
  grind
theorem azij {t:qq}{x:xQ}{lo hi mx:Option xQ}{out:Out}(Q:o.op=.slice t x lo hi mx)
 (h:Xzt P t (env x) (lo.map env) (hi.map env) (mx.map env) m=some out) (D:holds out.obl):Sound1 P o env m id out:=by
 unfold Xzt at h;split at h
 ·cases h
 ·have I:x∈o.op.operands:=by simp[Q,za]
  have q:∀y,lo=some y->y∈o.op.operands:=λy i=>by grind[za]
  have E:∀y,hi=some y->y∈o.op.operands:=λy i=>by grind[za]
  split at h
  ·split at h
   ·rename_i old S;split at h
    ·rename_i sz n f sh Z u;split at h
     ·rename_i l p L z;split at h
      ·cases h;obtain⟨O,V,h2⟩:=D;refine Sound1.still λF w ρ Mine M a W G B=>?_
       have v:=kzt (F:=F) (w:=w) (ρ:=ρ) (a:=a) L (λy i=>B y (q y i));have A:=kzt (F:=F) (w:=w) (ρ:=ρ) (a:=a) z (λy i=>B y (E y i));have e:(lo.map a.eval=none/\l=0)\/∃k,lo.map a.eval=some (.int k l):=v.imp (λh=>⟨jt,qa⟩) (λh=>h);have j:(hi.map a.eval=none/\p=n)\/∃k,hi.map a.eval=some (.int k p):=A.imp (λh=>⟨jt,h.2⟩) (λh=>h);have U:=(G old jq).trans u;obtain⟨R,N⟩:=az65 (S▸B x I);obtain⟨_,H⟩:=W.ok old _ U;rcases H with⟨g,s⟩|⟨b,cap,c,J,Y,q3,X,q5,q6,q7,q8⟩
       ·subst s;obtain rfl:l=0:=qa
        obtain rfl:p=0:=qa
        refine⟨.slice none 0 0,.value ?_,.viewN g jq⟩;have C:=hzi (P:=P) (w:=w) (isS:=true) (len:=0) (cap:=0) (lo:=lo.map a.eval) (hi:=hi.map a.eval) e qa (wY _) (wY _) qa
        simp_all[zb,Instr.sliceAt,Instr.slice,zd,bzx]
       ·have C:=hzi (P:=P) (w:=w) (isS:=true) (len:=n) (cap:=cap) (lo:=lo.map a.eval) (hi:=hi.map a.eval) e j O V qa;have d:∀r,(if cap=l.toNat then some ⟨b,0,none⟩else(some (⟨b,0,none⟩:Addr)).map (·.add (l.toNat * sz)))=some r->Ran P o a w (.slice (some r) (p.toNat-l.toNat) (cap-l.toNat)) w:=by
         intro r T;refine .value ?_
         simp_all[zb,Instr.sliceAt,Instr.slice,zd,bzx]
        by_cases K:cap=l.toNat
        ·refine⟨_,d ⟨b,0,none⟩ jr,.view J qa (λh=>?_)⟩
         grind
        ·exact⟨_,d ⟨b,0+l.toNat * sz,none⟩ (by grind[eze]),.view J qa (λ_=>jq)⟩
      grind
     grind
    grind
   grind
  grind
theorem azn8 {t:qq}{x:xQ}{lo hi mx:Option xQ}{out:Out}(ho:o.op=.slice t x lo hi mx)
 (h:az4p P t id (env x) (lo.map env) (hi.map env) (mx.map env) m=some out) (J:holds out.obl):Sound1 P o env m id out:=by
 unfold az4p at h;split at h
 ·cases h
 ·rename_i hmx;have R:mx=none:=by simp_all
  subst R;have I:x∈o.op.operands:=by simp[ho,za]
  have T:∀y,lo=some y->y∈o.op.operands:=λy v=>by grind[za]
  have H:∀y,hi=some y->y∈o.op.operands:=λy v=>by grind[za]
  split at h
  ·rename_i e hu;split at h
   ·rename_i sz n f O;split at h
    ·rename_i l r Z z;split at h
     ·rename_i hs;cases h;obtain⟨V,X,U⟩:=J;refine Sound1.still λF w ρ Mine M a L N E=>?_
      have K:=kzt (F:=F) (w:=w) (ρ:=ρ) (a:=a) Z (λy v=>E y (T y v));have A:=kzt (F:=F) (w:=w) (ρ:=ρ) (a:=a) z (λy v=>E y (H y v));have D:(lo.map a.eval=none/\l=0)\/∃k,lo.map a.eval=some (.int k l):=K.imp (λh=>⟨jt,qa⟩) (λh=>h);have d:(hi.map a.eval=none/\r=n)\/∃k,hi.map a.eval=some (.int k r):=A.imp (λh=>⟨jt,h.2⟩) (λh=>h);exact az3j ho hu hs (O▸E x I).pure_inv D d V X U
     grind
    grind
   ·rename_i old O;split at h
    ·rename_i sz n f sh e' hmo;split at h
     ·rename_i hlon;have W:lo=none:=by simp_all
      subst W;split at h
      ·rename_i r z;split at h
       ·rename_i hs;cases h;obtain⟨V,X,U⟩:=J;intro F w ρ Mine M a L g fr N hfe E;have hM:=(N old jq).trans hmo;have A:=kzt (F:=F) (w:=w) (ρ:=ρ) (a:=a) z (λy v=>E y (H y v));have d:(hi.map a.eval=none/\r=n)\/∃k,hi.map a.eval=some (.int k r):=A.imp (λh=>⟨jt,h.2⟩) (λh=>h);have G:=O▸E x I;obtain⟨hshn,hok⟩:=L.ok old _ hM;rcases hok with⟨Y,hn0⟩|⟨b,cap,c,q1,q2,q3,q4,q5,q6,q7,q8⟩
        ·subst hn0;obtain rfl:r=0:=qa
         have hv:a.eval x=.slice none 0 0:=by
          generalize a.eval x=u at G⊢;cases G<;>simp_all
         have S:=hzi (P:=P) (w:=w) (isS:=true) (len:=0) (cap:=0) (lo:=none) (hi:=hi.map a.eval) (.inl ⟨rfl,rfl⟩) qa (wY _) (wY _) qa;have C:(ρ.setVec id none).vec id=none:=qc rfl;refine⟨.slice none 0 0,w,F,ρ.setVec id none,.value ?_,Step.refl g,cz0 ρ id none,.vnil C,by simpa using L.newVec fr (Step.refl g) none [old] sz 0 sh f e' ⟨qa,.inl ⟨C,rfl⟩⟩ (λb hb=>jt) (λ_ _ _ _ _ _=>⟨rfl,λ_ h=>h⟩)⟩
         simp_all[zb,Instr.sliceAt,Instr.slice,zd,bzx]
        ·have hv:a.eval x=.slice (some ⟨b,0,none⟩) n cap:=by
          generalize a.eval x=u at G⊢;cases G<;>simp_all
         have B:=L.mine old _ b hM (.inl (by simp[bz8,q1]));have S:=hzi (P:=P) (w:=w) (isS:=true) (len:=n) (cap:=cap) (lo:=none) (hi:=hi.map a.eval) (.inl ⟨rfl,rfl⟩) d (wY _) V qa;have C:(ρ.setVec id (some (b,r.toNat,cap))).vec id=some (b,r.toNat,cap):=qc rfl
         have hmem:=L.newVec fr (Step.refl g) (some (b,r.toNat,cap)) [old] sz r.toNat sh f e' ⟨U,.inr ⟨b,cap,c,C,q2,qa,q4,q5,q6,λi hi=>q7 i qa,λi j p hi hp=>q8 i j p qa hp⟩⟩
          (λb' Q=>by
           simp at Q;subst Q;refine⟨B.1,B.2,λq r' hq hnot hbq=>?_⟩;have:=L.disj old q _ r' _ hM hq (.inl (by simp[bz8,q1])) hbq
           simp_all) (λ_ _ _ _ _ _=>⟨rfl,λ_ h=>h⟩)
         refine⟨.slice (some ⟨b,0,none⟩) r.toNat cap,w,F,ρ.setVec id (some (b,r.toNat,cap)),.value ?_,Step.refl g,cz0 ρ id _,.vec C,jr⟩
         simp_all[zb,Instr.sliceAt,Instr.slice,zd,bzx,eze]
       grind
      grind
     grind
    grind
   grind
  ·split at h
   ·rename_i s O;split at h
    ·rename_i l r Z z;cases h;obtain⟨V,X,U⟩:=J;refine Sound1.still λF w ρ Mine M a L N E=>?_
     have K:=kzt (F:=F) (w:=w) (ρ:=ρ) (a:=a) Z (λy v=>E y (T y v));have A:=kzt (F:=F) (w:=w) (ρ:=ρ) (a:=a) z (λy v=>E y (H y v));have D:(lo.map a.eval=none/\l=0)\/∃k,lo.map a.eval=some (.int k l):=K.imp (λh=>⟨jt,qa⟩) (λh=>h);have d:(hi.map a.eval=none/\r=s.size)\/∃k,hi.map a.eval=some (.int k r):=A.imp (λh=>⟨jt,h.2⟩) (λh=>h);have hv:=(O▸E x I).pure_inv.str_inv;have S:=hzi (P:=P) (w:=w) (isS:=false) (len:=s.size) (cap:=s.size) (lo:=lo.map a.eval) (hi:=hi.map a.eval) D d V X U;refine⟨_,.value ?_,.pure .str⟩
     simp_all[zb,Instr.sliceAt,Instr.slice,zd]
    grind
   grind
  grind
end Go.Abs
