import Derived.Test.YtagmfmidaochlaaGreatDoorZISoundI
open Option renaming some->AB,none->AC
open Bool renaming and_eq_true->ql
open Go renaming TypeId->qp,Operand->zw,World->qm,execOp->zM,run_underlying->zN
open Go.Op renaming operands->zL
open Int renaming le_refl->wL
open Nat renaming succ_pos->z7,zero_le->wN
namespace Go.Abs
variable {P:Program} {o:Oper} {env:zw->ac} {m:Mem} {id:Nat}{F:Cells}
theorem Fy{w:qm}{ρ:Env}{id:Nat}{v:Value}(h:ak F w ρ (.vec id) v):(ρ.vec id=none->v=.slice AC 0 0)/\∀b n cap,ρ.vec id=AB (b,n,cap)->v=.slice (AB ⟨b,0,AC⟩) n cap:=by cases h<;>simp_all
theorem agm{w:qm}{ρ:Env}{id c k:Nat}{v:Value}(h:ak F w ρ (.view id c 0 k) v):(ρ.vec id=none->v=.slice AC 0 0)/\∀b n a,ρ.vec id=AB (b,n,a)->v=.slice (AB ⟨b,0,AC⟩) k a:=by cases h<;>simp_all
variable {e:qp}
theorem UX{w:qm}{ρ:Env}{k:Nat->Prop}{M:Mem}(g:aG F w ρ k M){id p n l:Nat}{f:Nat->ae}{v:Value}(d:M.get id=AB (.vec p n f l e))
 (h:∀b n j,ρ.vec id=AB (b,n,j)->v=.slice (AB ⟨b,0,AC⟩) n j) (b c j:Nat) (i:ρ.vec id=AB (b,c,j)):v=.slice (AB ⟨b,0,AC⟩) n j:=by
 obtain⟨_,a⟩:=g.ok id _ d;grind
theorem afN {s x:zw}{K:Array qp}{out:Out}(ho:o.op=.call {callee:=.builtin .append,args:=#[s,x],argTypes:=K})
 (W:∀t,K[0]?=AB t->K[1]?=AB t->K=#[t,t]) (h:Er P K id s (env s) (env x) m=AB out) (r:holds out.obl):aq P o env m id out:=by
 have q:s∈o.op.operands/\x∈o.op.operands:=by simp[ho,zL,Call.operands]
 unfold Er at h;split at h
 ·rename_i t t' S Q;split at h
  ·rename_i htt;subst htt;obtain rfl:=W t S Q;split at h
   ·rename_i e E;split at h
    ·rename_i sz by_ hs hby;split at h
     ·rename_i z hz;split at h
      ·split at h
       ·rename_i k gg is d;obtain⟨i,zv,hi,B,hzz⟩:=nO hz;obtain⟨i',j,y⟩:=kQ hs;rw[hi]at j;cases j;obtain⟨i',j,A⟩:=vA hby;rw[hi]at j;cases j;have C:zv.cells.size=sz+1:=by grind
        split at h;{cases h;obtain⟨I,H⟩:=r;intro F w ρ Mine M a p g L b G D;obtain⟨news,c⟩:=E0 p (z7 _) d b (D x q.2);obtain⟨v,V,F',ρ',T,U,Z,X,h5⟩:=append_nil (P:=P) (ty:=o.type) p g L E hi B y A C [] (a.eval x) news c I H;exact⟨v,V,F',ρ',mM ho T,U,Z,X,jW⟩}
        ·rename_i old _ N;split at h
         ·rename_i l;cases h;obtain⟨I,H⟩:=r;intro F w ρ Mine M a p g L b G D;obtain⟨news,c⟩:=E0 p (z7 _) d (λi hi=>b i jX) (D x q.2);have Y:ρ.vec old=none:=p.ok old _ ((b old jV).trans l);have hsv':=λ(u:Value) (E:ak F w ρ (.vec old) u)=>(show u=.slice AC 0 0 by
           cases E<;>simp_all)
          obtain⟨v,V,F',ρ',T,U,Z,X,h5⟩:=append_nil (P:=P) (ty:=o.type) p g L E hi B y A C [old] (a.eval x) news c I H;grind[mM]
         ·rename_i sz' n f sh e' l;split at h
          ·rename_i hc;simp only[ql,qf]at hc;obtain⟨rfl,rfl⟩:=hc;cases h;obtain⟨I,H⟩:=r;intro F w ρ Mine M a p g L b G D;obtain⟨news,c⟩:=E0 p (z7 _) d (λi hi=>b i jX) (D x q.2);have J:=D _ q.1;rw[N]at J;obtain⟨R,O⟩:=Fy J;obtain⟨v,V,F',ρ',T,U,Z,X,h5⟩:=CZ (P:=P) (ty:=o.type) p g L E hi B y A C ((b old jV).trans l) (Nat.le_refl _) (p.ok _ _ ((b old jV).trans l)).1 _ (a.eval x) R (UX p ((b old jV).trans l) O) news c I H;grind[mM]
          grind
         grind
        grind
       grind
      grind
     grind
    grind
   grind
  grind
 grind
theorem ae4 {s x:zw}{O:Array qp}{out:Out}(ho:o.op=.call {callee:=.builtin .append,args:=#[s,x],argTypes:=O})
 (hts:∀t,O[0]?=AB t->O[1]?=AB t->O=#[t,t]) (h:DG P O id s (env s) (env x) m=AB out) (A:holds out.obl):aq P o env m id out:=by
 have d:s∈o.op.operands/\x∈o.op.operands:=by simp[ho,zL,Call.operands]
 unfold DG at h;split at h
 ·rename_i j szv lo k Z;split at h
  ·rename_i t t' szf n f shf ef ht0 V S;split at h
   ·rename_i htt;subst htt;obtain rfl:=hts t ht0 V;split at h
    ·rename_i e hu;split at h
     ·rename_i sz by_ hs W;split at h
      ·rename_i z hz;split at h
       ·rename_i y;simp only[ql,qf]at y;obtain⟨⟨hzl,rfl⟩,rfl⟩:=y;obtain⟨i,zv,hi,B,hzz⟩:=nO hz;obtain⟨i',q,D⟩:=kQ hs;rw[hi]at q;cases q;obtain⟨i',q,I⟩:=vA W;rw[hi]at q;cases q;have E:zv.cells.size=sz+1:=by grind
        split at h;{cases h;obtain⟨L,R,l⟩:=A;intro F w ρ Mine M a u g Q b N J;obtain⟨news,p⟩:=DC u (z7 _) ((b j jV).trans S) (Z▸J x d.2) l;obtain⟨v,Y,F',ρ',X,h2,T,U,h5⟩:=append_nil (P:=P) (ty:=o.type) u g Q hu hi B D I E [] (a.eval x) news p L R;exact⟨v,Y,F',ρ',mM ho X,h2,T,U,jW⟩}
        ·rename_i old _ r;split at h
         ·rename_i sz' n' f' sh e' G;split at h
          ·rename_i y;simp only[ql,qf]at y;obtain⟨⟨rfl,rfl⟩,_⟩:=y;cases h;obtain⟨L,R,l⟩:=A;intro F w ρ Mine M a u g Q b N J;obtain⟨news,p⟩:=DC u (z7 _) ((b j jV).trans S) (Z▸J x d.2) l;have c:=J _ d.1;rw[r]at c;obtain⟨C,H⟩:=Fy c;obtain⟨v,Y,F',ρ',X,h2,T,U,h5⟩:=CZ (P:=P) (ty:=o.type) u g Q hu hi B D I E ((b old jV).trans G) (Nat.le_refl _) (u.ok _ _ ((b old jV).trans G)).1 _ (a.eval x) C (UX u ((b old jV).trans G) H) news p L R;grind[mM]
          grind
         grind
        ·rename_i old szw k1 _ r;split at h
         ·rename_i y;simp only[ql,qf]at y;obtain⟨⟨⟨rfl,rfl⟩,rfl⟩,rfl⟩:=y;cases h;obtain⟨L,R,K,l⟩:=A;intro F w ρ Mine M a u g Q b N J;have hM:=(b old jV).trans S;obtain⟨news,p⟩:=DC u (z7 _) hM (Z▸J x d.2) l;have c:=J _ d.1;rw[r]at c;obtain⟨C,H⟩:=agm c;obtain⟨v,Y,F',ρ',X,h2,T,U,h5⟩:=CZ (P:=P) (ty:=o.type) u g Q hu hi B D I E hM K (wN _) _ (a.eval x) C H news p L R;grind[mM]
         grind
        grind
       grind
      grind
     grind
    grind
   grind
  grind
 grind
theorem gq {F:Cells}{w:qm}{ρ:Env}{a:Act}{d:Nat}{x:Option zw}{n:Int}(h:eO d (x.map env)=AB n)(e:∀y,x=AB y->ak F w ρ (env y) (a.eval y)):
 (x=AC/\n=d)\/∃k,x.map a.eval=AB (.int k n):=by
 cases x with
 |none=>grind[eO]
 |some y=>
  simp only[Option.map_some]at h⊢;unfold eO at h;split at h;{simp_all};{rename_i k q c;cases h;simp only[Option.some.injEq]at c;have:=e y rfl;rw[c]at this;exact .inr ⟨k,by rw[this.pure_inv.int_inv]⟩};grind
theorem gW {w:qm}{isS:Bool}{len cap:Nat}{lo hi:Option Value}{l h:Int}(a:(lo=AC/\l=0)\/∃k,lo=AB (.int k l))(b:(hi=AC/\h=len)\/∃k,hi=AB (.int k h))
 (g:0<=l) (f:l<=h) (e:h<=cap):(Instr.sliceBounds isS len cap lo hi AC).run P w=.ok (l.toNat,h.toNat,cap) w:=by
 rcases b with⟨rfl,rfl⟩|⟨k,rfl⟩;{rcases a with⟨rfl,rfl⟩|⟨k,rfl⟩;all_goals simp_all[Instr.sliceBounds,Instr.sliceBound,asIntOf]};have d:0<=h:=qa;have c:l<=(h.toNat:Int):=qa;rcases a with⟨rfl,rfl⟩|⟨i,rfl⟩;all_goals simp_all[Instr.sliceBounds,Instr.sliceBound,asIntOf]
theorem RT{x:zw}{V U:Option zw}{t:qp}{Y n:Nat}{f:Nat->ae}{l g:Int}(L:o.op=.slice e x V U AC)(Q:P.underlying e=AB (.slice t))(N:aQ P t=AB Y)
 {F:Cells} {w:qm} {ρ:Env} {a:Act} (G:aH F w (.lst Y n f) (a.eval x))
 (d:(V.map a.eval=AC/\l=0)\/∃k,V.map a.eval=AB (.int k l)) (s:(U.map a.eval=AC/\g=n)\/∃k,U.map a.eval=AB (.int k g)) (H:0<=l) (I:l<=g) (O:g<=n):
 ∃v,Ran P o a w v w/\ak F w ρ (.pure (.lst Y (g.toNat-l.toNat) (λi=>f (l.toNat+i)))) v:=by
 rcases G.lst_inv with⟨A,m⟩|⟨r,S,A,m,y⟩|⟨b,X,S,c,A,E,y,z,R,M⟩
 rotate_left
 ·subst m;obtain rfl:l=0:=qa;obtain rfl:g=0:=qa;have u:=gW (P:=P) (w:=w) (isS:=true) (len:=0) (cap:=S) (lo:=V.map a.eval) (hi:=U.map a.eval) d qa (wL _) (wL _) qa;by_cases J:S=0
  ·refine⟨.slice (AB r) 0 0,.value ?_,.pure (.emp (wN _))⟩;simp_all[zM,Instr.sliceAt,Instr.slice,zN,cz]
  refine⟨.slice (AB (r.add 0)) 0 S,.value ?_,.pure (.emp y)⟩;simp_all[zM,Instr.sliceAt,Instr.slice,zN,cz]
 rotate_right
 ·subst m;obtain rfl:l=0:=qa;obtain rfl:g=0:=qa;refine⟨.slice AC 0 0,.value ?_,.pure .nil⟩;have u:=gW (P:=P) (w:=w) (isS:=true) (len:=0) (cap:=0) (lo:=V.map a.eval) (hi:=U.map a.eval) d qa (wL _) (wL _) qa;simp_all[zM,Instr.sliceAt,Instr.slice,zN,cz]
 have u:=gW (P:=P) (w:=w) (isS:=true) (len:=n) (cap:=S) (lo:=V.map a.eval) (hi:=U.map a.eval) d s H I qa;have h:∀r,(if S=l.toNat then AB ⟨b,X,AC⟩else(AB (⟨b,X,AC⟩:Addr)).map (·.add (l.toNat * Y)))=AB r->Ran P o a w (.slice (AB r) (g.toNat-l.toNat) (S-l.toNat)) w:=by
  intro r K;refine .value ?_;simp_all[zM,Instr.sliceAt,Instr.slice,zN,cz]
 by_cases C:S=l.toNat
 ·refine⟨_,h ⟨b,X,AC⟩ jW,.pure ?_⟩;have D:g.toNat-l.toNat=0:=qa;rw[D];exact .sl c (wN _) qa qa qa qa
 refine⟨_,h ⟨b,X+l.toNat * Y,AC⟩ (by grind[dg]),.pure ?_⟩;refine .sl (λq=>c (l.toNat * Y+q)) qa qa (λi U=>z _ qa) (λi j p U B=>?_) (λi j p U B=>?_);all_goals grind
theorem afX{x:zw}{Y X Z:Option zw}{out:Out}(H:o.op=.slice e x Y X Z)
 (h:Ey P e (env x) (Y.map env) (X.map env) (Z.map env) m=AB out) (A:holds out.obl):aq P o env m id out:=by
 unfold Ey at h;split at h;{cases h};have d:Z=none:=by simp_all
 subst d;have E:x∈o.op.operands:=by simp[H,zL]
 have z:∀y,Y=AB y->y∈o.op.operands:=λy c=>by grind[zL]
 have u:∀y,X=AB y->y∈o.op.operands:=λy c=>by grind[zL]
 split at h
 ·rename_i t O;split at h
  ·rename_i sz n f is U;split at h
   ·rename_i l J Q s;split at h;{rename_i N;cases h;obtain⟨L,S,T⟩:=A;intro F w ρ Mine M a G g W p I D;have r:=gq (F:=F) (w:=w) (ρ:=ρ) (a:=a) Q (λy c=>D y (z y c));have q:=gq (F:=F) (w:=w) (ρ:=ρ) (a:=a) s (λy c=>D y (u y c));have b:(Y.map a.eval=AC/\l=0)\/∃k,Y.map a.eval=AB (.int k l):=r.imp (λh=>⟨jX,qa⟩) (λh=>h);have j:(X.map a.eval=AC/\J=n)\/∃k,X.map a.eval=AB (.int k J):=q.imp (λh=>⟨jX,h.2⟩) (λh=>h);obtain⟨C,B⟩:=k8 (m:=m) G g (is:=is) p;have V:=mf G g U (λi h=>h) p (D x E);obtain⟨v,K,R⟩:=RT (ρ:=ρ) H O N V b j L S T;exact⟨v,w,_,ρ,K,C,λ_ _=>⟨rfl,rfl⟩,R,B⟩};grind
   grind
  grind
 grind
theorem afY{x:zw}{lo hi mx:Option zw}{out:Out}(Q:o.op=.slice e x lo hi mx)
 (h:Ez P e (env x) (lo.map env) (hi.map env) (mx.map env) m=AB out) (D:holds out.obl):aq P o env m id out:=by
 unfold Ez at h;split at h;{cases h};have I:x∈o.op.operands:=by simp[Q,zL]
 have q:∀y,lo=AB y->y∈o.op.operands:=λy i=>by grind[zL]
 have E:∀y,hi=AB y->y∈o.op.operands:=λy i=>by grind[zL]
 split at h
 ·split at h
  ·rename_i old S;split at h
   ·rename_i sz n f sh Z u;split at h
    ·rename_i l p L z;split at h
     ·cases h;obtain⟨O,V,h2⟩:=D;refine aq.still λF w ρ Mine M a W G B=>?_
      have v:=gq (F:=F) (w:=w) (ρ:=ρ) (a:=a) L (λy i=>B y (q y i));have A:=gq (F:=F) (w:=w) (ρ:=ρ) (a:=a) z (λy i=>B y (E y i));have t:(lo.map a.eval=AC/\l=0)\/∃k,lo.map a.eval=AB (.int k l):=v.imp (λh=>⟨jX,qa⟩) (λh=>h);have j:(hi.map a.eval=AC/\p=n)\/∃k,hi.map a.eval=AB (.int k p):=A.imp (λh=>⟨jX,h.2⟩) (λh=>h);have U:=(G old jV).trans u;obtain⟨R,N⟩:=Fy (S▸B x I);obtain⟨_,H⟩:=W.ok old _ U;rcases H with⟨g,s⟩|⟨b,cap,c,J,Y,q3,X,q5,q6,q7,q8⟩
      ·subst s;obtain rfl:l=0:=qa;obtain rfl:p=0:=qa;refine⟨.slice AC 0 0,.value ?_,.viewN g jV⟩;have C:=gW (P:=P) (w:=w) (isS:=true) (len:=0) (cap:=0) (lo:=lo.map a.eval) (hi:=hi.map a.eval) t qa (wL _) (wL _) qa;simp_all[zM,Instr.sliceAt,Instr.slice,zN,cz]
      have C:=gW (P:=P) (w:=w) (isS:=true) (len:=n) (cap:=cap) (lo:=lo.map a.eval) (hi:=hi.map a.eval) t j O V qa;have d:∀r,(if cap=l.toNat then AB ⟨b,0,AC⟩else(AB (⟨b,0,AC⟩:Addr)).map (·.add (l.toNat * sz)))=AB r->Ran P o a w (.slice (AB r) (p.toNat-l.toNat) (cap-l.toNat)) w:=by
       intro r T;refine .value ?_;simp_all[zM,Instr.sliceAt,Instr.slice,zN,cz]
      by_cases K:cap=l.toNat
      ·refine⟨_,d ⟨b,0,AC⟩ jW,.view J qa (λh=>?_)⟩;grind
      exact⟨_,d ⟨b,0+l.toNat * sz,AC⟩ (by grind[dg]),.view J qa (λ_=>jV)⟩
     grind
    grind
   grind
  grind
 grind
theorem ahM{x:zw}{lo hi mx:Option zw}{out:Out}(ho:o.op=.slice e x lo hi mx)
 (h:Fg P e id (env x) (lo.map env) (hi.map env) (mx.map env) m=AB out) (J:holds out.obl):aq P o env m id out:=by
 unfold Fg at h;split at h;{cases h};rename_i hmx;have R:mx=none:=by simp_all
 subst R;have I:x∈o.op.operands:=by simp[ho,zL]
 have T:∀y,lo=AB y->y∈o.op.operands:=λy v=>by grind[zL]
 have H:∀y,hi=AB y->y∈o.op.operands:=λy v=>by grind[zL]
 split at h
 ·rename_i t hu;split at h
  ·rename_i sz n f O;split at h
   ·rename_i l r Z z;split at h
    ·rename_i hs;cases h;obtain⟨V,X,U⟩:=J;refine aq.still λF w ρ Mine M a L N E=>?_
     have K:=gq (F:=F) (w:=w) (ρ:=ρ) (a:=a) Z (λy v=>E y (T y v));have A:=gq (F:=F) (w:=w) (ρ:=ρ) (a:=a) z (λy v=>E y (H y v));have D:(lo.map a.eval=AC/\l=0)\/∃k,lo.map a.eval=AB (.int k l):=K.imp (λh=>⟨jX,qa⟩) (λh=>h);have d:(hi.map a.eval=AC/\r=n)\/∃k,hi.map a.eval=AB (.int k r):=A.imp (λh=>⟨jX,h.2⟩) (λh=>h);exact RT ho hu hs (O▸E x I).pure_inv D d V X U
    grind
   grind
  ·rename_i old O;split at h
   ·rename_i sz n f sh e' hmo;split at h
    ·rename_i hlon;have W:lo=none:=by simp_all
     subst W;split at h
     ·rename_i r z;split at h
      ·rename_i hs;cases h;obtain⟨V,X,U⟩:=J;intro F w ρ Mine M a L g fr N hfe E;have hM:=(N old jV).trans hmo;have A:=gq (F:=F) (w:=w) (ρ:=ρ) (a:=a) z (λy v=>E y (H y v));have d:(hi.map a.eval=AC/\r=n)\/∃k,hi.map a.eval=AB (.int k r):=A.imp (λh=>⟨jX,h.2⟩) (λh=>h);have G:=O▸E x I;obtain⟨hshn,hok⟩:=L.ok old _ hM;rcases hok with⟨Y,hn0⟩|⟨b,cap,c,q1,q2,q3,q4,q5,q6,q7,q8⟩
       ·subst hn0;obtain rfl:r=0:=qa;have hv:a.eval x=.slice AC 0 0:=by
         generalize a.eval x=u at G⊢;cases G<;>simp_all
        have S:=gW (P:=P) (w:=w) (isS:=true) (len:=0) (cap:=0) (lo:=AC) (hi:=hi.map a.eval) (.inl ⟨rfl,rfl⟩) qa (wL _) (wL _) qa;have C:(ρ.setVec id AC).vec id=none:=qc rfl;refine⟨.slice AC 0 0,w,F,ρ.setVec id AC,.value ?_,Step.refl g,eU ρ id AC,.vnil C,by simpa using L.newVec fr (Step.refl g) AC [old] sz 0 sh f e' ⟨qa,.inl ⟨C,rfl⟩⟩ (λb hb=>jX) (λ_ _ _ _ _ _=>⟨rfl,λ_ h=>h⟩)⟩;simp_all[zM,Instr.sliceAt,Instr.slice,zN,cz]
       have hv:a.eval x=.slice (AB ⟨b,0,AC⟩) n cap:=by
        generalize a.eval x=u at G⊢;cases G<;>simp_all
       have B:=L.mine old _ b hM (.inl (by simp[aX,q1]));have S:=gW (P:=P) (w:=w) (isS:=true) (len:=n) (cap:=cap) (lo:=AC) (hi:=hi.map a.eval) (.inl ⟨rfl,rfl⟩) d (wL _) V qa;have C:(ρ.setVec id (AB (b,r.toNat,cap))).vec id=AB (b,r.toNat,cap):=qc rfl
       have hmem:=L.newVec fr (Step.refl g) (AB (b,r.toNat,cap)) [old] sz r.toNat sh f e' ⟨U,.inr ⟨b,cap,c,C,q2,qa,q4,q5,q6,λi hi=>q7 i qa,λi j p hi hp=>q8 i j p qa hp⟩⟩
        (λb' Q=>by
         simp at Q;subst Q;refine⟨B.1,B.2,λq r' hq hnot hbq=>?_⟩;have:=L.disj old q _ r' _ hM hq (.inl (by simp[aX,q1])) hbq;simp_all) (λ_ _ _ _ _ _=>⟨rfl,λ_ h=>h⟩)
       refine⟨.slice (AB ⟨b,0,AC⟩) r.toNat cap,w,F,ρ.setVec id (AB (b,r.toNat,cap)),.value ?_,Step.refl g,eU ρ id _,.vec C,jW⟩;simp_all[zM,Instr.sliceAt,Instr.slice,zN,cz,dg]
      grind
     grind
    grind
   grind
  grind
 ·split at h
  ·rename_i s O;split at h
   ·rename_i l r Z z;cases h;obtain⟨V,X,U⟩:=J;refine aq.still λF w ρ Mine M a L N E=>?_
    have K:=gq (F:=F) (w:=w) (ρ:=ρ) (a:=a) Z (λy v=>E y (T y v));have A:=gq (F:=F) (w:=w) (ρ:=ρ) (a:=a) z (λy v=>E y (H y v));have D:(lo.map a.eval=AC/\l=0)\/∃k,lo.map a.eval=AB (.int k l):=K.imp (λh=>⟨jX,qa⟩) (λh=>h);have d:(hi.map a.eval=AC/\r=s.size)\/∃k,hi.map a.eval=AB (.int k r):=A.imp (λh=>⟨jX,h.2⟩) (λh=>h);have hv:=(O▸E x I).pure_inv.str_inv;have S:=gW (P:=P) (w:=w) (isS:=false) (len:=s.size) (cap:=s.size) (lo:=lo.map a.eval) (hi:=hi.map a.eval) D d V X U;refine⟨_,.value ?_,.pure .str⟩;simp_all[zM,Instr.sliceAt,Instr.slice,zN]
   grind
  grind
 grind
end Go.Abs
