import Derived.Test.YtagmfmidaochlaaGreatDoorZISoundR
open Option renaming some->AB,none->AC
open Bool renaming and_eq_true->ql
open Go renaming TypeId->qp,Operand->zw,Value->qq,execOp->zM,run_underlying->zN
open Go.Op renaming operands->zL
open Go.Result renaming andThen_ok->zB
open Go.Sem renaming run_bind->zC,run_pure->zD
open List renaming mem_of_getElem?->z6,all_eq_true->qk,mem_append_left->x7
open Option renaming map_eq_some_iff->zK
namespace Go.Abs
variable {P:Program} {o:Oper} {env:zw->ac} {m:Mem} {id:Nat}{t:qp}
theorem ab1{x i:zw}{out:Out}(q:o.op=.indexAddr t x i)(h:AL P t (env x) (env i) m=AB out)(g:holds out.obl):aq P o env m id out:=by
 unfold AL at h;split at h
 ·rename_i k B z A J;split at h
  ·rename_i K n f E C e s;split at h
   ·split at h
    ·simp at h;subst h;obtain⟨G,D⟩:=g;refine aq.still λF w ρ H M a r l p=>?_
     have y:=(J▸p i (by simp[q,zL])).pure_inv.int_inv;have j:=p x (by simp[q,zL]);rw[A]at j;obtain⟨b,I,c,d,_⟩:=r.ok k _ ((l k jV).trans s);generalize v:a.eval x=u at j;cases j with
     |vnil e=>simp_all
     |vec e=>
      rw[e]at d;cases d;refine⟨.pointer (AB ⟨b,z.toNat * 1+0,AC⟩),.value ?_,.eptr e⟩;simp_all[zM,Instr.indexAt,asIntOf,zN,cz,dg]
    grind
   grind
  grind
 grind
theorem Dz (x:Option (Nat×Nat×Nat)):(dA x).oneCell'=true:=by
 cases x with
 |none=>rfl
 |some x=>rfl
theorem ahI{x:zw}{out:Out}(ho:o.op=.load t x)(h:Fd P t id (env x) m=AB out)(hob:holds out.obl):aq P o env m id out:=by
 unfold Fd at h;split at h
 ·rename_i j i hx;split at h
  ·rename_i sz n f e s hj;split at h
   ·rename_i p Q N hta hfi;split at h
    ·rename_i hsz;subst hsz;cases h;intro F w ρ Mine M a S g fr hrd hfe ha;have hlt:i<n:=hob;have L:=(hrd j jV).trans hj;have U:=ha x (by simp[ho,zL]);rw[hx]at U;obtain⟨b,cap,c,q1,q2,q3,q4,q5,q6,q7,q8,q9⟩:=S.ok j _ L;generalize hu:a.eval x=u at U;cases U with
     |eptr B=>
      rw[B]at q1;cases q1;obtain⟨v,v1,v2,v3⟩:=q7 i hlt;obtain⟨y,n2,g2,p1,p2,p3⟩:=v3.resolve_left jV;rw[hfi]at p1;cases p1;have hjn:¬Own id j:=λhj'=>by rw[fr.none j hj']at L;grind
      have Z:id≠j:=λe=>hjn (e▸⟨Nat.le_refl _,qa⟩)
      have Y:(ρ.setVec id y).vec id=y:=qc rfl;have O:(ρ.setVec id y).vec j=AB (b,n,cap):=(qb (Ne.symm Z)).trans B;have T:w.cell? ⟨b,i * 1+0,AC⟩=AB v:=by grind[cell_of_row]
      have A:∀q d,Inn c n (AB i) q d->Inn c n AC q d/\q≠i:=λq d ⟨J,W,r3⟩=>⟨⟨J,jV,r3⟩,λe=>W (by rw[e])⟩
      have I:∀d,y.map (·.1)=AB d->Inn c n AC i d:=by
       intro d l;obtain⟨z,rfl,rfl⟩:=zK.1 l;obtain⟨z1,z2,z3⟩:=z;exact⟨hlt,jV,z2,z3,by rw[v1,p2];rfl⟩
      have R:∀d,aE w (ρ.setVec id y) j (.vecT p n f e s (AB i)) d->(d=b\/∃q,Inn c n (AB i) q d)/\aE w ρ j (.vecT p n f e s AC) d:=by
       intro d l;rcases l with l|⟨b0,n0,cap0,c0,e0,q,J,W,r3⟩
       {simp only[aX,O,Option.map_some,Option.some.injEq]at l;exact⟨.inl l.symm,.inl (by grind[aX])⟩};rw[O]at J;cases J;rw[q2]at W;cases W;exact⟨.inr ⟨q,r3⟩,.inr ⟨b,n,cap,c,e,q,B,q2,(A q d r3).1⟩⟩
      have H:∀d,aE w (ρ.setVec id y) id (.vec p Q N 0 s) d->Inn c n AC i d/\aE w ρ j (.vecT p n f e s AC) d:=by
       intro d l;rw[owns_vec,Y]at l;exact⟨I d l,.inr ⟨b,n,cap,c,e,i,B,q2,I d l⟩⟩
      have E:∀d,aE w (ρ.setVec id y) j (.vecT p n f e s (AB i)) d->aE w (ρ.setVec id y) id (.vec p Q N 0 s) d->False:=by
       grind
      have G:∀k r,Mem.get [(j,Res.vecT p n f e s (AB i)),(id,.vec p Q N 0 s)] k=AB r->(k=j/\r=.vecT p n f e s (AB i))\/(k=id/\r=.vec p Q N 0 s):=by
       grind[Mem.get]
      have K:∀k,Mem.get [(j,Res.vecT p n f e s (AB i)),(id,.vec p Q N 0 s)] k=none->k≠j:=by
       intro k hk e1;subst e1;simp[Mem.get]at hk
      have D:∀d,aE w ρ j (.vecT p n f e s AC) d->∀k X,M.get k=AB X->Mem.get [(j,Res.vecT p n f e s (AB i)),(id,.vec p Q N 0 s)] k=none->¬aE w ρ k X d:=by
       intro d l k X hk hn hbk;exact K k hn (S.disj j k _ X d L hk l hbk).symm
      refine⟨v,w,F,ρ.setVec id y,.value ?_,Step.refl g,eU ρ id y,?_,aG.step S (Step.refl g) (λi=>¬Own id i) (eU ρ id y) _ (λk r h hn=>⟨λhk=>(by rw[fr.none k hk]at h;cases h),λi hi=>fr.has i k r (Classical.not_not.1 hi) h,λb hb=>⟨rfl,λ_ h=>h⟩⟩) (λk r h=>?_) (λk k' r X d h h' hb l=>?_)⟩;{have hr:=uy (P:=P) hta T;simp only[zM,ho,Instr.loadAt,Instr.sureAddr,hu,zC,zD,zB,hr]}
      ·rw[p2];cases C:y with
       |none=>rw[C]at Y;exact .vnil (by rw[<-C]at Y⊢;rw[Y,C])
       |some z=>
        exact .vec (by rw[<-C];rw[Y,C])
      ·rcases G k r h with⟨rfl,rfl⟩|⟨rfl,rfl⟩
       ·refine⟨⟨b,cap,c,O,q2,q3,q4,q5,q6,λq hq=>?_,λq q' d J W=>q8 q q' d (A q d J).1 (A q' d W).1,λq J=>q9 q (A q b J).1⟩,λd l=>?_⟩;{obtain⟨u,u1,u2,u3⟩:=q7 q hq;exact⟨u,u1,u2,.inr (u3.resolve_left jV)⟩};obtain⟨_,V⟩:=R d l;exact⟨(S.mine _ _ _ L V).1,(S.mine _ _ _ L V).2,D d V⟩
       refine⟨?_,λd l=>?_⟩;{show jo F w p Q N 0 s ((ρ.setVec k y).vec k);rw[Y];exact p3};obtain⟨_,V⟩:=H d l;exact⟨(S.mine _ _ _ L V).1,(S.mine _ _ _ L V).2,D d V⟩
      rcases G k r h with⟨rfl,rfl⟩|⟨rfl,rfl⟩<;>rcases G k' X h' with⟨rfl,rfl⟩|⟨rfl,rfl⟩
      {rfl};{exact(E d hb l).elim};{exact(E d l hb).elim};rfl
    cases h
   cases h
  cases h
 cases h
theorem ag2{x y:zw}{out:Out}(ho:o.op=.store t x y)(h:ED P t (env x) (env y) m=AB out)(hob:holds out.obl):aq P o env m id out:=by
 unfold ED at h;split at h
 ·rename_i j i k hx hy;split at h
  ·rename_i sz n f e e' i' l W Y s hj E;split at h
   ·rename_i hc;simp only[ql,qf]at hc;obtain⟨⟨hs,rfl⟩,rfl⟩:=hc;cases h;obtain⟨hlt,rfl⟩:=hob;intro F w ρ Mine M a I g fr hrd hfe ha;have Z:=(hrd j jV).trans hj;have H:=(hrd k jV).trans E;have hax:=ha x (by simp[ho,zL]);have hay:=ha y (by simp[ho,zL]);rw[hx]at hax;rw[hy]at hay;have hjk:j≠k:=λe=>by simp_all
    obtain⟨b,cap,c,q1,q2,q3,q4,q5,q6,q7,q8,q9⟩:=I.ok j _ Z;have hkok:jo F w l W Y 0 s (ρ.vec k):=I.ok k _ H;generalize hu:a.eval x=u at hax;cases hax with
    |eptr A=>
     rw[A]at q1;cases q1;have hv:a.eval y=dA (ρ.vec k):=by
      generalize a.eval y=vv at hay;cases hay with
      |vnil hh=>rw[hh];rfl
      |vec hh=>rw[hh];rfl
     have hone:=Dz (ρ.vec k);have T:(a.eval y).cells=#[dA (ρ.vec k)]:=by
      rw[hv];cases ρ.vec k with
      |none=>rfl
      |some z=>rfl
     have hr:=rn (P:=P) (off:=i * 1+0) (v:=a.eval y) hs jW q2 qa jW;rw[T]at hr;have N:∀q,((c.toList.take (i * 1+0)++(#[dA (ρ.vec k)]:Array qq).toList++c.toList.drop (i * 1+0+(#[dA (ρ.vec k)]:Array qq).toList.length)).toArray)[q]?=if q=i then AB (dA (ρ.vec k))else c[q]?:=by
      grind
     generalize hc':(c.toList.take (i * 1+0)++(#[dA (ρ.vec k)]:Array qq).toList++c.toList.drop (i * 1+0+(#[dA (ρ.vec k)]:Array qq).toList.length)).toArray=c' at hr N;have hsz:c'.size=cap:=by
      grind
     have hbj:aE w ρ j (.vecT l n f e s (AB i)) b:=.inl (by simp[aX,A]);have hmine:=I.mine j _ b Z hbj;have st:Step Mine F w F (w.setRow b c'):=Step.write g q2 hmine.1 (λo h=>absurd h (q6 o));have Q:=setRow_heap w b c c' e _ q2;have R:∀d,(ρ.vec k).map (·.1)=AB d->aE w ρ k (.vec l W Y 0 s) d:=λd h=>owns_vec.2 h
     have V:∀d,(ρ.vec k).map (·.1)=AB d->d≠b:=λd h J=>hjk (I.disj j k _ _ d Z H (J▸hbj) (R d h))
     have S:∀q d,Inn c' n AC q d->(q=i/\(ρ.vec k).map (·.1)=AB d)\/(q≠i/\Inn c n (AB i) q d):=by
      intro q d ⟨X,_,n2,cap2,L⟩;rw[N]at L;by_cases G:q=i
      ·rw[qc G]at L;refine .inl ⟨G,?_⟩;cases hz:ρ.vec k with
       |none=>rw[hz]at L;simp[dA]at L
       |some z=>obtain⟨z1,z2,z3⟩:=z;rw[hz]at L;simp[dA]at L;simp[L.1]
      rw[qb G]at L;exact .inr ⟨G,X,λh=>G (by simpa using h.symm),n2,cap2,L⟩
     have O:∀q d,Inn c n (AB i) q d->aE w ρ j (.vecT l n f e s (AB i)) d:=λq d h=>.inr ⟨b,n,cap,c,e,q,A,q2,h⟩
     have hown:∀d,aE (w.setRow b c') ρ j (.vecT l n (λq=>if q=i then .lst l W Y else f q) e s AC) d->aE w ρ j (.vecT l n f e s (AB i)) d\/aE w ρ k (.vec l W Y 0 s) d:=by
      intro d p;rcases p with p|⟨b0,n0,cap0,c0,e0,q,X,r2,L⟩
      {exact .inl (.inl p)};rw[A]at X;cases X;rw[Q]at r2;cases r2;rcases S q d L with⟨_,h⟩|⟨_,h⟩
      {exact .inr (R d h)};exact .inl (O q d h)
     have C:∀kk r,Mem.get [(j,Res.vecT l n (λq=>if q=i then .lst l W Y else f q) e s AC),(k,.gone)] kk=AB r->(kk=j/\r=.vecT l n (λq=>if q=i then .lst l W Y else f q) e s AC)\/(kk=k/\r=.gone):=by
      intro kk r E;simp only[Mem.get]at E;split at E;{rename_i J;subst J;cases E;exact .inl ⟨rfl,rfl⟩};split at E;{rename_i J;subst J;cases E;exact .inr ⟨rfl,rfl⟩};cases E
     have B:∀kk,Mem.get [(j,Res.vecT l n (λq=>if q=i then .lst l W Y else f q) e s AC),(k,.gone)] kk=none->kk≠j/\kk≠k:=by
      intro kk E;simp only[Mem.get]at E;split at E;{cases E};split at E;{cases E};rename_i a1 a2;exact⟨λe=>a1 e.symm,λe=>a2 e.symm⟩
     refine⟨undef,_,F,ρ,.inr ⟨by simp only[zM,ho,Instr.storeAt,Instr.sureAddr,hu,zC,zD,zB,hr],rfl⟩,st,λ_ _=>⟨rfl,rfl⟩,.any,aG.step I st (λ_=>True) (λ_ _=>⟨rfl,rfl⟩) _ (λkk r h hn=>⟨trivial,λq G=>absurd trivial G,λd p=>⟨?_,λ_ h=>h⟩⟩) (λkk r h=>?_) (λkk kk' r r' d h h' hb p=>?_)⟩;{refine setRow_other w b d _ (λJ=>?_);subst J;exact(B kk hn).1 (I.disj j kk _ r _ Z h hbj p).symm}
     ·rcases C kk r h with⟨rfl,rfl⟩|⟨rfl,rfl⟩
      ·refine⟨⟨b,cap,c',A,Q,q3,q4,hsz,q6,λq G=>?_,λq q' d X r2=>?_,λq X=>?_⟩,λd p=>?_⟩
       ·rw[N];by_cases K:q=i;{subst K;refine⟨_,qc rfl,hone,.inr ⟨ρ.vec k,W,Y,jV,rfl,hkok.mono st.sub st.cell λd m' U hx'=>⟨setRow_other w b d _ (V d (by simp[hx'])),λ_ h=>h⟩⟩⟩};rw[qb K];obtain⟨u,u1,u2,u3⟩:=q7 q G;obtain⟨z,n2,g2,p1,p2,p3⟩:=u3.resolve_left (λh=>K (by simpa using h.symm));refine⟨u,u1,u2,.inr ⟨z,n2,g2,by simp[K,p1],p2,p3.mono st.sub st.cell λd m' U hx'=>⟨setRow_other w b d _ (λJ=>?_),λ_ h=>h⟩⟩⟩;subst hx';exact q9 q ⟨G,λh=>K (by simpa using h.symm),m',U,by rw[u1,p2,J];rfl⟩
       ·rcases S q d X with⟨J,D⟩|⟨J,D⟩<;>rcases S q' d r2 with⟨e2,h2⟩|⟨e2,h2⟩
        {rw[J,e2]};{exact(hjk (I.disj _ _ _ _ d Z H (O q' d h2) (R d D))).elim};{exact(hjk (I.disj _ _ _ _ d Z H (O q d D) (R d h2))).elim};exact q8 q q' d D h2
       ·rcases S q b X with⟨_,D⟩|⟨_,D⟩;{exact V b D rfl};exact q9 q D
       rcases hown d p with D|D;{obtain⟨m1,m2⟩:=I.mine _ _ d Z D;exact⟨m1,by simpa using m2,λq r' G hn hbq=>(B q hn).1 (I.disj _ q _ r' d Z G D hbq).symm⟩};obtain⟨m1,m2⟩:=I.mine _ _ d H D;exact⟨m1,by simpa using m2,λq r' G hn hbq=>(B q hn).2 (I.disj _ q _ r' d H G D hbq).symm⟩
      exact⟨trivial,λd p=>by simp[aE,cX,aX]at p⟩
     rcases C kk r h with⟨rfl,rfl⟩|⟨rfl,rfl⟩
     ·rcases C kk' r' h' with⟨rfl,rfl⟩|⟨rfl,rfl⟩;{rfl};simp[aE,cX,aX]at p
     simp[aE,cX,aX]at hb
   cases h
  cases h
 cases h
theorem aaZ{x i:zw}{out:Out}(e:o.op=.indexAddr t x i)(h:AJ P t (env x) (env i)=AB out)(c:holds out.obl):aq P o env m id out:=by
 unfold AJ at h;split at h
 ·rename_i k n v p g z;split at h
  ·split at h
   ·simp at h;subst h;obtain⟨r,s⟩:=c;refine aq.still λF w ρ y M a q j d=>?_
    have f:=(z▸d i (by simp[e,zL])).pure_inv.int_inv;have b:=d x (by simp[e,zL]);rw[g]at b;generalize l:a.eval x=u at b;cases b with
    |bsl=>
     refine⟨.pointer (AB ⟨ρ.blk k,p.toNat,AC⟩),.value ?_,.ptr⟩;simp_all[zM,Instr.indexAt,asIntOf,zN,cz,dg]
   grind
  grind
 grind
theorem ahG{x:zw}{out:Out}(b:o.op=.makeInterface t x)(h:Fb P t (env x)=AB out):aq P o env m id out:=by
 unfold Fb at h;split at h
 ·rename_i d e;split at h;{cases h};rename_i f;cases h;refine aq.still λF w ρ j M a i g c=>⟨.iface t (a.eval x),.value ?_,.iface (c x (by simp[b,zL]))⟩
  simp only[zM,b,Instr.makeInterface,zC,zN e,zB];cases d<;>first|(simp only[zD,zB];done)|skip
  exact absurd rfl f
 grind
theorem afO {x:zw}{y c:qp}{k:Bool}{out:Out}(q:o.op=.typeAssert x y c k)(h:Es P (env x) c k=AB out):aq P o env m id out:=by
 unfold Es at h;split at h
 ·rename_i t r d A f;split at h;{cases h};rename_i C
  have g:∀ {a:Act} {w:World} {v u:qq},a.eval x=.iface t v->
   (if t=c then(pure (if k=true then .tuple #[v,.bool true]else v):Sem qq)else(if k=true then do pure (.tuple #[<-zeroValue c,.bool false])else runtimePanic (.typeAssertion (AB y) (AB t) c ""))).run P w=.ok u w->Ran P o a w u w:=by
   intro a w v u D n;refine .value ?_;simp only[zM,q,Instr.typeAssert,zC,zN f,zB,D];cases d<;>first|exact absurd rfl C|(simp only[n,zB,zD])
  split at h
  ·cases h;refine aq.still λF w ρ G M a B s p=>?_
   have i:=p x (by simp[q,zL]);rw[A]at i;generalize e:a.eval x=u at i;cases i with
   |iface n=>
    rename_i v;cases k with
    |true=>
     refine⟨.tuple #[v,.bool true],g e jW,.tup rfl λj b u l f=>?_⟩
     match j with
     |0=>simp_all
     |1=>simp at l f;subst l;subst f;exact .tt
     |j+2=>grind
    |false=>exact⟨v,g e jW,n⟩
  split at h
  ·split at h
   ·split at h
    ·rename_i z E;cases h;refine aq.still λF w ρ G M a B s p=>?_
     have i:=p x (by simp[q,zL]);rw[A]at i;generalize e:a.eval x=u at i;cases i with
     |iface n=>
      refine⟨.tuple #[z,.bool false],g e ?_,.tup rfl λj b u l f=>?_⟩;{simp_all[zeroValue,typeInfo]}
      ·match j with
       |0=>grind[Dc]
       |1=>simp at l f;subst l;subst f;exact .ff
       |j+2=>grind
    grind
   grind
  grind
 grind
theorem aao{len:Nat}{c:Array (Nat×zw)}{out:Out}(ho:o.op=.buildSlice t len c)(h:vJ P t len id env c.toList=AB out):aq P o env m id out:=by
 unfold vJ at h;split at h
 ·rename_i e hu;split at h
  ·rename_i zl l S D hl;split at h
   ·rename_i K;simp only[ql,qf]at K;obtain⟨⟨H,n⟩,I⟩:=K;cases h;intro F w ρ Mine M a hm g fr hrd Y V;have E:∀x∈c.toList,x.2∈o.op.operands:=λx B=>by
     grind[zL]
    obtain⟨e1,e2⟩:=AV (a:=a) c.toList 0 l hl;have hpl:c.toList.length=len:=jW;have d:∀ (i:Nat) (b:ac) (v:qq),l[i]?=AB b->(c.toList.map λx=>a.eval x.2)[i]?=AB v->ak F w ρ b v/\v.oneCell'=true/\v.cells=#[v]:=by
     intro i b v q r;rw[e2]at q;simp only[List.getElem?_map,zK]at q r;obtain⟨x,B,rfl⟩:=q;obtain⟨x',k,rfl⟩:=r;rw[B]at k;cases k;have J:=V x.2 (E x (z6 B));have C:(env x.2).scalar=true:=qk.1 n _ jX;have L:=J.one C;exact⟨J,L,by generalize a.eval x.2=u at L;cases u<;>simp_all [Value.cells,Value.oneCell']⟩
    have Q:∀v∈(c.toList.map λx=>a.eval x.2),v.oneCell'=true/\v.cells=#[v]:=by
     grind[List.getElem?_of_mem]
    obtain⟨N,Z,_⟩:=sF (P:=P) (w:=w) D;obtain⟨z,hz⟩:∃z:Array qq,z=if len * 1=0 then #[]else N.cells:=⟨_,rfl⟩
    obtain⟨A,f1,f2,f3,f4⟩:=Df 1 (c.toList.map λx=>a.eval x.2) 0 ((Array.range (len * 1)).map (z[· % z.size]!)) (λv r=>jX) jX;have hA:A.size=len:=jW;obtain⟨F',ρ',T,G,q,O⟩:=tj hm g fr e A l [] (by simp[Mem.get]) qa (λF' w' ρ' hF W G _ j y v U r=>by
     have s:j<(c.toList.map λx=>a.eval x.2).length:=jX;have p:(c.toList.map λx=>a.eval x.2)[j]?=AB (c.toList.map λx=>a.eval x.2)[j]:=List.getElem?_eq_getElem s;obtain⟨r1,R,r3⟩:=d j y _ U p;have X:=f4 j _ p 0 qa;have f:v=(c.toList.map λx=>a.eval x.2)[j]:=jW;rw[f];refine⟨r1.mono (λi=>¬Own id i) hF W G (λi hi=>?_),R⟩;grind)
    refine⟨.slice (AB ⟨w.heap.size,0,AC⟩) len len,w.alloc (.cells A e),F',ρ',.value ?_,T,G,?_,qa⟩;{simp only[zM,ho,Instr.buildSlice,zC,zN hu,zB,cz S];rw[qb qa];by_cases h0:len * 1=0;all_goals simp_all[newRow]};rw[<-q];exact .bsl
   cases h
  cases h
 cases h
theorem ab3{x i:zw}{out:Out}(q:o.op=.indexAddr t x i)(h:AN P t (env x) (env i) m=AB out)(p:holds out.obl):aq P o env m id out:=by
 unfold AN at h;split at h
 ·rename_i k J A z R;split at h
  ·rename_i Q n f E e O S s;split at h
   ·split at h
    ·simp at h;subst h;obtain⟨C,B⟩:=p;refine aq.still λF w ρ L M a y j l=>?_
     have r:=(R▸l i (by simp[q,zL])).pure_inv.int_inv;have g:=l x (by simp[q,zL]);rw[z]at g;obtain⟨_,b,N,c,d,_⟩:=y.ok k _ ((j k jV).trans s);generalize v:a.eval x=u at g;cases g with
     |vnil e=>simp_all
     |vec e=>
      rw[e]at d;cases d;refine⟨.pointer (AB ⟨b,A.toNat * Q+0,AC⟩),.value ?_,.eptr e⟩;simp_all[zM,Instr.indexAt,asIntOf,zN,cz,dg]
    grind
   grind
  ·rename_i Q n f D E O K I H s;split at h
   ·split at h
    ·simp at h;subst h;obtain⟨C,B⟩:=p;refine aq.still λF w ρ L M a y j l=>?_
     have r:=(R▸l i (by simp[q,zL])).pure_inv.int_inv;have g:=l x (by simp[q,zL]);rw[z]at g;obtain⟨_,_,⟨_,G,_⟩|⟨b,N,c,d,_⟩⟩:=y.ok k _ ((j k jV).trans s);{omega};generalize v:a.eval x=u at g;cases g with
     |vnil e=>simp_all
     |vec e=>
      rw[e]at d;cases d;refine⟨.pointer (AB ⟨b,A.toNat * Q+0,AC⟩),.value ?_,.eptr e⟩;simp_all[zM,Instr.indexAt,asIntOf,zN,cz,dg]
    grind
   grind
  grind
 grind
variable {F:Cells}{w:World}
theorem QW{ρ:Env}(k:Nat):ak F w ρ (.vec k) (dA (ρ.vec k)):=by
 cases h:ρ.vec k with
 |none=>exact .vnil h
 |some z=>exact .vec h
theorem RS{ρ:Env}{k:Nat}{v:qq}(h:ak F w ρ (.vec k) v):v=dA (ρ.vec k):=by
 cases h with
 |vnil a=>rw[a];rfl
 |vec a=>rw[a];rfl
theorem ahK{x:zw}{out:Out}(E:o.op=.load t x)(h:Ff P t (env x) m=AB out)(q:holds out.obl):aq P o env m id out:=by
 unfold Ff at h;split at h
 ·rename_i j U i Q C;split at h
  ·rename_i z n f e D r k A;split at h
   ·rename_i s;simp only[ql,qf]at s;obtain⟨⟨⟨l,rfl⟩,rfl⟩,_⟩:=s;cases h;obtain rfl:i=D:=q;refine aq.still λF w ρ R M a y p B=>?_
    have d:=B x (by simp[E,zL]);rw[C]at d;obtain⟨_,b,S,c,N,H,L,J,I,O⟩:=y.ok j _ ((p j jV).trans A);generalize G:a.eval x=u at d;cases d with
    |eptr v=>
     have g:w.cell? ⟨b,i * U+Q,AC⟩=AB (dA (ρ.vec k)):=by grind[cell_of_row]
     have K:=uy (P:=P) l g;exact⟨_,.value (by grind[zM,Instr.loadAt,Instr.sureAddr,zC,zD,zB]),QW k⟩
   grind
  grind
 grind
theorem aG.setX{ρ:Env}{E:Nat->Prop}{M:Mem}{j D n a C k:Nat}{f:Nat->ae}(o:aG F w ρ E ([(j,.vec D n (c9 f a C .unk) 0 t)]++M))
 (u:∃b G c,ρ.vec j=AB (b,n,G)/\w.heap[b]?=AB (.cells c t (0,0))/\a<n/\C<D/\(f a).cells.length=D/\c[a * D+C]?=AB (dA (ρ.vec k))):
 aG F w ρ E ([(j,.vecX D n f t a C k)]++M):=by
 have e:Mem.get ([(j,Res.vec D n (c9 f a C .unk) 0 t)]++M) j=AB (.vec D n (c9 f a C .unk) 0 t):=by simp[Mem.get]
 have g:∀i r,Mem.get ([(j,Res.vecX D n f t a C k)]++M) i=AB r->(i=j/\r=.vecX D n f t a C k)\/Mem.get ([(j,Res.vec D n (c9 f a C .unk) 0 t)]++M) i=AB r:=by
  grind[Mem.get]
 have d:∀i r,Mem.get ([(j,Res.vecX D n f t a C k)]++M) i=AB r->∃l,Mem.get ([(j,Res.vec D n (c9 f a C .unk) 0 t)]++M) i=AB l/\∀b,aE w ρ i r b->aE w ρ i l b:=by
  intro i r h;rcases g i r h with⟨rfl,rfl⟩|h
  {exact⟨_,e,λb m=>m⟩};simp_all
 refine⟨λi r h=>?_,λi r b h m=>?_,λi z r l b h y m q=>?_⟩
 ·rcases g i r h with⟨rfl,rfl⟩|h;{exact⟨o.ok _ _ e,u⟩};exact o.ok _ _ h
 {obtain⟨l,p,s⟩:=d i r h;exact o.mine _ _ _ p (s b m)};obtain⟨B,p,s⟩:=d i r h;obtain⟨A,x,v⟩:=d z l y;exact o.disj _ _ _ _ b p x (s b m) (v b q)
theorem ag4{x y:zw}{out:Out}(J:o.op=.store t x y)(h:EF P t (env x) (env y) m=AB out)(Z:holds out.obl):aq P o env m id out:=by
 unfold EF at h;split at h
 ·rename_i j sz d off k hx hy;split at h
  ·rename_i sz' n f sh e sz2 n2 f2 sh2 e2 hj hk;split at h
   ·rename_i hc;simp only[ql,qf,bne_iff_ne,ne_eq]at hc;obtain⟨⟨⟨⟨hs,rfl⟩,I⟩,hjk⟩,rfl⟩:=hc;cases h;have p:d<n:=Z
    classical
    obtain⟨l,N⟩:∃l:zw->ac,l=λz=>if z=y then .pure .unk else env z:=⟨_,rfl⟩
    have K:l y=.pure .unk:=jW;have hxy:x≠y:=λe1=>jW
    have Y:l x=.eptr j sz d off:=jW;have O:(f d).cells.length=sz->(lu (f d) ((f d).cells.take off++[.unk]++(f d).cells.drop (off+1))).cells=(f d).cells.take off++[.unk]++(f d).cells.drop (off+1):=λ_=>by
     grind[Bd,ae.cells_scalar,ae.scalar]
    have U:=D9 (P:=P) (id:=id) (env:=l) (m:=m) (ob:=AC) (i:=j) (sz:=sz) (k:=d) (off:=off) (s:=1) (n:=n) (sh:=0) (f:=f) (e:=e) (ps:=[.unk]) (el:=lu (f d) ((f d).cells.take off++[.unk]++(f d).cells.drop (off+1)))
     J hs (by rw[K];rfl) Y hj (by rw[K];rfl) (by rfl) (λ_=>I) O p (Nat.zero_le _)
    intro F w ρ Mine M a hm g fr H hfe ha;have V:=hy▸ha y (by simp[J,zL]);have L:=hx▸ha x (by simp[J,zL]);have hv:=RS V;have D:(a.eval y).oneCell'=true:=by grind[Dz]
    have hM:=(H j jV).trans hj;have S:=(H k jV).trans hk;obtain⟨v,w',F',ρ',B,k2,Q,k4,k5⟩:=U F w ρ Mine M a hm g fr (λi hi=>H i jW) (λz hz i hi=>by
     grind[ac.has]) (λz hz=>by
     rw[N];by_cases e1:z=y;{subst e1;simp only[if_true];exact .pure (.unk D)};simp_all)
    have E:∀q r,M.get q=AB r->¬Own id q:=λq r hq J=>by rw[fr.none q J]at hq;grind
    have T:ρ'.vec j=ρ.vec j:=(Q j (E j _ hM)).2;have W:ρ'.vec k=ρ.vec k:=(Q k (E k _ S)).2;obtain⟨_,X⟩:=hm.ok j _ hM;rcases X with⟨_,hn0⟩|⟨b,cap,c,q1,q2,q3,q4,q5,q6,q7,q8⟩
    {omega};generalize hu:a.eval x=u at L;cases L with
    |eptr G=>
     rw[G]at q1;cases q1;have A:(a.eval y).cells=#[a.eval y]:=by generalize a.eval y=z at D;cases z<;>simp_all [Value.cells,Value.oneCell']
     have R:=q7 d p;have hle:d * sz+off<c.size:=by rw[q5];exact Nat.lt_of_lt_of_le (h7 p qa) (Nat.mul_le_mul_right _ q3)
     have hr:=rn (P:=P) (off:=d * sz+off) (v:=a.eval y) hs jW q2 qa jW;have C:(zM a.eval o).run P w=.ok .skip (w.setRow b (c.toList.take (d * sz+off)++(a.eval y).cells.toList++c.toList.drop (d * sz+off+(a.eval y).cells.toList.length)).toArray):=by
      grind[zM,Instr.storeAt,Instr.sureAddr,zC,zD,zB]
     have hw:w'=w.setRow b (c.toList.take (d * sz+off)++(a.eval y).cells.toList++c.toList.drop (d * sz+off+(a.eval y).cells.toList.length)).toArray:=by
      rcases B with B|⟨B,_⟩;{rw[C]at B;cases B};rw[C]at B;cases B;rfl
     refine⟨v,w',F',ρ',B,k2,Q,k4,aG.setX k5 ⟨b,cap,_,by rw[T];exact G,by rw[hw];exact setRow_heap w b c _ e _ q2,p,qa,R,?_⟩⟩;rw[W,A,List.getElem?_toArray,fQ _ _ _ _ jZ];simp[hv]
   cases h
  cases h
 cases h
theorem ag1{x y:zw}{out:Out}(K:o.op=.store t x y)(h:EC P t (env x) (env y) m=AB out):aq P o env m id out:=by
 unfold EC at h;split at h
 ·rename_i j off k hx X;split at h
  ·rename_i A sz n f sh e Z J;split at h
   ·split at h
    ·cases h
     classical
     obtain⟨b,H⟩:∃b:zw->ac,b=λz=>if z=y then .pure (.lst sz n f)else env z:=⟨_,rfl⟩
     have u:bG m [k]=[(k,.vec sz n f n e)]:=by simp[bG,J]
     have Y:Mem.get ([(k,Res.vec sz n f n e)]++m) j=AB (.box A):=by grind[Mem.get]
     have I:ll P t (b x) (b y) ([(k,Res.vec sz n f n e)]++m)=AB ⟨.any,[j],[(j,.box (A.take off++[.pure (.lst sz n f)]++A.drop (off+1)))],AC⟩:=by
      grind[ll,ac.cells,ac.scalar]
     have C:=s6 (P:=P) (id:=id) (env:=b) (m:=[(k,Res.vec sz n f n e)]++m) K I trivial;intro F w ρ Mine M a O g B G W N;have E:=(G k jV).trans J;obtain⟨s,d⟩:=k8 (m:=m) O g (is:=[k]) (λi hi=>jW);rw[u]at d;have Q:=mf (m:=m) O g (a:=.vec k) (p:=.lst sz n f) (is:=[k]) (js:=[k]) (by grind[fZ,o9]) (λ_ h=>h) (λi hi=>jW) (X▸N y (by simp[K,zL]));have D:dN id ([(k,Res.vec sz n f n e)]++M):=by
      refine⟨λi hi=>?_,λi q r hi l=>?_⟩
      ·by_cases c:k=i;{subst c;rw[B.none k hi]at E;grind};simp[Mem.get,c,B.none i hi]
      by_cases c:k=q;{subst c;simp[Mem.get]at l;subst l;rfl};simp[Mem.get,c]at l;exact B.has i q r hi l
     obtain⟨v,U,F',ρ',V,T,S,R,k5⟩:=C (cM F w ρ m [k]) w ρ Mine _ a d (s.good g) D (λi hi=>by
      grind[Mem.get]) (λz L i hi=>by
      grind[ac.has]) (λz L=>by
      rw[H];by_cases c:z=y;{simp only[qc c];rw[c];exact .pure Q};simp only[qb c];exact(N z L).mono' s.sub s.cell)
     exact⟨v,U,F',ρ',V,s.trans T,S,R,jW⟩
    grind
   grind
  grind
 grind
theorem SH {m:Mem}:∀ {vs ds:List ac},(purC m vs ds).length=vs.length/\∀ (j:Nat) (b:ac),(purC m vs ds)[j]?=AB b->
 ∃a,vs[j]?=AB a/\(b=a\/∃p is,fZ m a=AB (p,is)/\(∀i∈is,i∈purI m vs ds)/\b=.pure p)
 |[],ds=>by grind[purC]
 |a::l,[]=>⟨rfl,λj b h=>⟨b,h,.inl rfl⟩⟩
 |a::l,d::ds=>by
  obtain⟨o,f⟩:=SH (m:=m) (vs:=l) (ds:=ds);refine⟨by simp[purC,o],λj b h=>?_⟩;cases j with
  |zero=>
   simp only[purC,List.getElem?_cons_zero,Option.some.injEq]at h;refine⟨a,jV,?_⟩;subst h;have e:∀i∈(pur1 m a d).2,i∈purI m (a::l) (d::ds):=λi w=>by exact x7 _ w
   generalize c:pur1 m a d=q at e⊢;unfold pur1 at c;split at c
   ·split at c;{rename_i p is t;subst c;exact .inr ⟨p,is,t,e,rfl⟩};subst c;exact .inl rfl
   subst c;exact .inl rfl
  |succ j=>
   obtain⟨s,g,n⟩:=f j b h;exact⟨s,g,n.imp (λh=>h) λ⟨p,is,r,k,u⟩=>⟨p,is,r,λi w=>by exact List.mem_append_right _ (k i w),u⟩⟩
theorem ag0{x y:zw}{out:Out}(ho:o.op=.store t x y)(h:EB P t (env x) (env y) m=AB out)(R:holds out.obl):aq P o env m id out:=by
 classical
 unfold EB at h;split at h
 ·rename_i j off vs hx Z;split at h
  ·rename_i N hj;split at h;{cases h};split at h
   ·rename_i C hs;cases h;generalize B:purI m vs (N.drop off)=d at *
    obtain⟨f,A⟩:∃f:zw->ac,f=λz=>if z=y then .agg (purC m vs (N.drop off))else env z:=⟨_,rfl⟩
    have hxy:x≠y:=λn=>jW
    have K:=s6 (P:=P) (id:=id) (env:=f) (m:=bG m d++m) (out:=C) ho jW R;intro F w ρ Mine M a V g S U T X;obtain⟨hlen,e⟩:=SH (m:=m) (vs:=vs) (ds:=N.drop off);rw[B]at e;have k:∀i∈d,M.get i=m.get i:=λi hi=>U i (x7 _ hi)
    obtain⟨q,L⟩:=k8 (m:=m) V g (is:=d) k;have O:dN id (bG m d++M):=by
     refine⟨λi hi=>?_,λi j r hi hj=>?_⟩
     ·rw[Mem.get_append];cases W:(bG m d).get i with
      |none=>simpa using S.none i hi
      |some r=>
       obtain⟨G,r0,E,_⟩:=fk W;have:=S.none i hi;simp_all
     rw[Mem.get_append]at hj;cases W:(bG m d).get j with
     |none=>exact S.has i j r hi jW
     |some r'=>
      grind[fk,CU]
    obtain⟨v,w',F',ρ',k1,k2,k3,k4,k5⟩:=K (cM F w ρ m d) w ρ Mine (bG m d++M) a L (q.good g) O (λi hi=>by
     grind[Mem.get_append]) (λz H i hi=>by
     rw[A];by_cases n:z=y
     ·simp only[qc n,ac.has];have s:=T z H i hi;rw[n,Z]at s;have Q:∀ (l:List ac),(∀ (j:Nat) (b:ac),l[j]?=AB b->b.has i=false)->ac.hasL i l=false:=by
       intro l;induction l with
       |nil=>intro _;rfl
       |cons b l ih=>intro h;simp only[ac.hasL,Bool.or_eq_false_iff];exact⟨h 0 b jV,ih λj c hc=>h (j+1) c jW⟩
      refine Q _ λI b J=>?_
      obtain⟨a',G,E⟩:=e I b J;rcases E with rfl|⟨_,_,_,_,rfl⟩;{exact iO s G};rfl
     simp_all) (λz H=>by
     rw[A];by_cases n:z=y
     ·simp only[qc n];have s:=X z H;rw[n,Z]at s;rw[n];generalize a.eval y=u at s;cases s with
      |agg hl hr=>
       refine .agg qa λI b v J hv=>?_
       obtain⟨a',G,E⟩:=e I b J;have Y:=hr I a' v G hv;rcases E with rfl|⟨p,is,hp,D,rfl⟩;{exact Y.mono' q.sub q.cell};exact .pure (mf V g hp D (λi hi=>k i (D i hi)) Y)
     simp only[qb n];exact(X z H).mono' q.sub q.cell)
    exact⟨v,w',F',ρ',k1,q.trans k2,k3,k4,jW⟩
   grind
  grind
 grind
theorem CW {F:Cells}{w:World}{ρ:Env}:∀ (l:List qq),(gu l).length=l.length/\∀ (j:Nat) (a:ac) (v:qq),(gu l)[j]?=AB a->l[j]?=AB v->ak F w ρ a v
 |[]=>by simp[gu]
 |x::l=>by
  have d:=CW (F:=F) (w:=w) (ρ:=ρ) l;have c:∀ (b:ac),ak F w ρ b x->(b::gu l).length=(x::l).length/\∀ (j:Nat) (a:ac) (v:qq),(b::gu l)[j]?=AB a->(x::l)[j]?=AB v->ak F w ρ a v:=by
   grind
  unfold gu;split;{simp_all};{rename_i e;cases e;exact c _ (.pure .nil)};grind[nF]
theorem afM{out:Out}(J:o.op=.alloc t)(h:Ep P t id=AB out):aq P o env m id out:=by
 unfold Ep at h;split at h
 ·rename_i z k;split at h
  ·rename_i B;cases h;intro F w ρ Mine M a f g s _ A D;obtain⟨v,G,l⟩:=sF (P:=P) (w:=w) k;have c:v.cells.size=z.length:=by grind
   obtain⟨K,ρ',q,d,C,e⟩:=tj f g s t v.cells (gu z) []
    (λi r h=>by simp[Mem.get]at h)
    (by rw[c];exact(CW (F:=F) (w:=w) (ρ:=ρ) z).1)
    (λK x ρ' E I d p j y u n H=>by
     have b:z[j]?=AB u:=jX;exact⟨(CW (F:=K) (w:=x) (ρ:=ρ') z).2 j y u n b,qk.1 B u (z6 b)⟩)
   refine⟨.pointer (AB ⟨w.heap.size,0,AC⟩),w.alloc (.cells v.cells t),K,ρ',.value ?_,q,d,?_,qa⟩;{simp_all[zM,Instr.alloc,newVar,newRow]};rw[<-C];exact .ptr
  grind
 grind
end Go.Abs
