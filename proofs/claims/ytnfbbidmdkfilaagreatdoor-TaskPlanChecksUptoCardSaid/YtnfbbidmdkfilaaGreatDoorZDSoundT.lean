import Derived.Test.YtnfbbidmdkfilaaGreatDoorZDSoundR
open Bool renaming and_eq_true->qm
open Go renaming TypeId->qq,Operand->xQ,Value->qr,World->qn,execOp->zb,run_underlying->zd
open Go.Op renaming operands->za
open Go.Result renaming andThen_ok->xT
open Go.Sem renaming run_bind->xU,run_pure->xV
open List renaming mem_of_getElem?->zu,all_eq_true->ql,mem_append_left->zV
open Option renaming map_eq_some_iff->x9
namespace Go.Abs
variable {P:Program} {o:Oper} {env:xQ->AVal} {m:Mem} {id:Nat}
theorem az38 {t:qq}{x i:xQ}{out:Out}(q:o.op=.indexAddr t x i)(h:Dzb P t (env x) (env i) m=some out)(g:holds out.obl):Sound1 P o env m id out:=by
 unfold Dzb at h;split at h
 ·rename_i k B z A hi;split at h
  ·rename_i sz n f E C e s;split at h
   ·split at h
    ·simp at h;subst h;obtain⟨G,D⟩:=g;refine Sound1.still λF w ρ Mine M a r l p=>?_
     have y:=(hi▸p i (by simp[q,za])).pure_inv.int_inv;have j:=p x (by simp[q,za]);rw[A]at j;obtain⟨b,cap,c,d,_⟩:=r.ok k _ ((l k jq).trans s);generalize v:a.eval x=u at j;cases j with
     |vnil e=>simp_all
     |vec e=>
      rw[e]at d;cases d;refine⟨.pointer (some ⟨b,z.toNat * 1+0,none⟩),.value ?_,.eptr e⟩
      simp_all[zb,Instr.indexAt,asIntOf,zd,bzx,eze]
    grind
   grind
  grind
 grind
theorem Gz7 (x:Option (Nat×Nat×Nat)):(gzs x).oneCell'=true:=by
 cases x with
 |none=>rfl
 |some x=>rfl
theorem azn4 {t:qq}{x:xQ}{out:Out}(ho:o.op=.load t x)(h:az4m P t id (env x) m=some out)(hob:holds out.obl):Sound1 P o env m id out:=by
 unfold az4m at h;split at h
 ·rename_i j i hx;split at h
  ·rename_i sz n f e s hj;split at h
   ·rename_i p Q N hta hfi;split at h
    ·rename_i hsz;subst hsz;cases h;intro F w ρ Mine M a S g fr hrd hfe ha;have hlt:i<n:=hob;have L:=(hrd j jq).trans hj;have U:=ha x (by simp[ho,za]);rw[hx]at U;obtain⟨b,cap,c,q1,q2,q3,q4,q5,q6,q7,q8,q9⟩:=S.ok j _ L;generalize hu:a.eval x=u at U;cases U with
     |eptr B=>
      rw[B]at q1;cases q1;obtain⟨v,v1,v2,v3⟩:=q7 i hlt;obtain⟨y,n2,g2,p1,p2,p3⟩:=v3.resolve_left jq;rw[hfi]at p1;cases p1;have hjn:¬Own id j:=λhj'=>by rw[fr.none j hj']at L;grind
      have Z:id≠j:=λe=>hjn (e▸⟨Nat.le_refl _,qa⟩)
      have Y:(ρ.setVec id y).vec id=y:=qc rfl;have O:(ρ.setVec id y).vec j=some (b,n,cap):=(qb (Ne.symm Z)).trans B;have T:w.cell? ⟨b,i * 1+0,none⟩=some v:=by grind[cell_of_row]
      have A:∀q d,Inn c n (some i) q d->Inn c n none q d/\q≠i:=λq d ⟨J,W,r3⟩=>⟨⟨J,jq,r3⟩,λe=>W (by rw[e])⟩
      have I:∀d,y.map (·.1)=some d->Inn c n none i d:=by
       intro d l;obtain⟨z,rfl,rfl⟩:=x9.1 l;obtain⟨z1,z2,z3⟩:=z;exact⟨hlt,jq,z2,z3,by rw[v1,p2];rfl⟩
      have R:∀d,Owns w (ρ.setVec id y) j (.vecT p n f e s (some i)) d->(d=b\/∃q,Inn c n (some i) q d)/\Owns w ρ j (.vecT p n f e s none) d:=by
       intro d l;rcases l with l|⟨b0,n0,cap0,c0,e0,q,J,W,r3⟩
       ·simp only[bz8,O,Option.map_some,Option.some.injEq]at l;exact⟨.inl l.symm,.inl (by grind[bz8])⟩
       ·rw[O]at J;cases J;rw[q2]at W;cases W;exact⟨.inr ⟨q,r3⟩,.inr ⟨b,n,cap,c,e,q,B,q2,(A q d r3).1⟩⟩
      have H:∀d,Owns w (ρ.setVec id y) id (.vec p Q N 0 s) d->Inn c n none i d/\Owns w ρ j (.vecT p n f e s none) d:=by
       intro d l;rw[owns_vec,Y]at l;exact⟨I d l,.inr ⟨b,n,cap,c,e,i,B,q2,I d l⟩⟩
      have E:∀d,Owns w (ρ.setVec id y) j (.vecT p n f e s (some i)) d->Owns w (ρ.setVec id y) id (.vec p Q N 0 s) d->False:=by
       grind
      have G:∀k r,Mem.get [(j,Res.vecT p n f e s (some i)),(id,.vec p Q N 0 s)] k=some r->(k=j/\r=.vecT p n f e s (some i))\/(k=id/\r=.vec p Q N 0 s):=by
       grind[Mem.get]
      have K:∀k,Mem.get [(j,Res.vecT p n f e s (some i)),(id,.vec p Q N 0 s)] k=none->k≠j:=by
       intro k hk e1;subst e1;simp[Mem.get]at hk
      have D:∀d,Owns w ρ j (.vecT p n f e s none) d->∀k X,M.get k=some X->Mem.get [(j,Res.vecT p n f e s (some i)),(id,.vec p Q N 0 s)] k=none->¬Owns w ρ k X d:=by
       intro d l k X hk hn hbk;exact K k hn (S.disj j k _ X d L hk l hbk).symm
      refine⟨v,w,F,ρ.setVec id y,.value ?_,Step.refl g,cz0 ρ id y,?_,MemOk.step S (Step.refl g) (λi=>¬Own id i) (cz0 ρ id y) _ (λk r h hn=>⟨λhk=>(by rw[fr.none k hk]at h;cases h),λi hi=>fr.has i k r (Classical.not_not.1 hi) h,λb hb=>⟨rfl,λ_ h=>h⟩⟩) (λk r h=>?_) (λk k' r X d h h' hb l=>?_)⟩
      ·have hr:=lzp (P:=P) hta T;simp only[zb,ho,Instr.loadAt,Instr.sureAddr,hu,xU,xV,xT,hr]
      ·rw[p2];cases C:y with
       |none=>rw[C]at Y;exact .vnil (by rw[<-C]at Y⊢;rw[Y,C])
       |some z=>
        exact .vec (by rw[<-C];rw[Y,C])
      ·rcases G k r h with⟨rfl,rfl⟩|⟨rfl,rfl⟩
       ·refine⟨⟨b,cap,c,O,q2,q3,q4,q5,q6,λq hq=>?_,λq q' d J W=>q8 q q' d (A q d J).1 (A q' d W).1,λq J=>q9 q (A q b J).1⟩,λd l=>?_⟩
        ·obtain⟨u,u1,u2,u3⟩:=q7 q hq;exact⟨u,u1,u2,.inr (u3.resolve_left jq)⟩
        ·obtain⟨_,V⟩:=R d l;exact⟨(S.mine _ _ _ L V).1,(S.mine _ _ _ L V).2,D d V⟩
       ·refine⟨?_,λd l=>?_⟩
        ·show VecAt F w p Q N 0 s ((ρ.setVec k y).vec k);rw[Y];exact p3
        ·obtain⟨_,V⟩:=H d l;exact⟨(S.mine _ _ _ L V).1,(S.mine _ _ _ L V).2,D d V⟩
      ·rcases G k r h with⟨rfl,rfl⟩|⟨rfl,rfl⟩<;>rcases G k' X h' with⟨rfl,rfl⟩|⟨rfl,rfl⟩
       ·rfl
       ·exact(E d hb l).elim
       ·exact(E d l hb).elim
       ·rfl
    ·cases h
   ·cases h
  ·cases h
 ·cases h
theorem azin {t:qq}{x y:xQ}{out:Out}(ho:o.op=.store t x y)(h:Xzx P t (env x) (env y) m=some out)(hob:holds out.obl):Sound1 P o env m id out:=by
 unfold Xzx at h;split at h
 ·rename_i j i k hx hy;split at h
  ·rename_i sz n f e e' i' l W Y s hj E;split at h
   ·rename_i hc;simp only[qm,qf]at hc;obtain⟨⟨hs,rfl⟩,rfl⟩:=hc;cases h;obtain⟨hlt,rfl⟩:=hob;intro F w ρ Mine M a I g fr hrd hfe ha;have Z:=(hrd j jq).trans hj;have H:=(hrd k jq).trans E;have hax:=ha x (by simp[ho,za]);have hay:=ha y (by simp[ho,za]);rw[hx]at hax;rw[hy]at hay;have hjk:j≠k:=λe=>by simp_all
    obtain⟨b,cap,c,q1,q2,q3,q4,q5,q6,q7,q8,q9⟩:=I.ok j _ Z;have hkok:VecAt F w l W Y 0 s (ρ.vec k):=I.ok k _ H;generalize hu:a.eval x=u at hax;cases hax with
    |eptr A=>
     rw[A]at q1;cases q1;have hv:a.eval y=gzs (ρ.vec k):=by
      generalize a.eval y=vv at hay;cases hay with
      |vnil hh=>rw[hh];rfl
      |vec hh=>rw[hh];rfl
     have hone:=Gz7 (ρ.vec k);have T:(a.eval y).cells=#[gzs (ρ.vec k)]:=by
      rw[hv];cases ρ.vec k with
      |none=>rfl
      |some z=>rfl
     have hr:=ozm (P:=P) (off:=i * 1+0) (v:=a.eval y) hs jr q2 qa jr;rw[T]at hr;have N:∀q,((c.toList.take (i * 1+0)++(#[gzs (ρ.vec k)]:Array qr).toList++c.toList.drop (i * 1+0+(#[gzs (ρ.vec k)]:Array qr).toList.length)).toArray)[q]?=if q=i then some (gzs (ρ.vec k))else c[q]?:=by
      grind
     generalize hc':(c.toList.take (i * 1+0)++(#[gzs (ρ.vec k)]:Array qr).toList++c.toList.drop (i * 1+0+(#[gzs (ρ.vec k)]:Array qr).toList.length)).toArray=c' at hr N;have hsz:c'.size=cap:=by
      grind
     have hbj:Owns w ρ j (.vecT l n f e s (some i)) b:=.inl (by simp[bz8,A]);have hmine:=I.mine j _ b Z hbj;have st:Step Mine F w F (w.setRow b c'):=Step.write g q2 hmine.1 (λo h=>absurd h (q6 o));have Q:=setRow_heap w b c c' e _ q2;have R:∀d,(ρ.vec k).map (·.1)=some d->Owns w ρ k (.vec l W Y 0 s) d:=λd h=>owns_vec.2 h
     have V:∀d,(ρ.vec k).map (·.1)=some d->d≠b:=λd h J=>hjk (I.disj j k _ _ d Z H (J▸hbj) (R d h))
     have S:∀q d,Inn c' n none q d->(q=i/\(ρ.vec k).map (·.1)=some d)\/(q≠i/\Inn c n (some i) q d):=by
      intro q d ⟨X,_,n2,cap2,L⟩;rw[N]at L;by_cases G:q=i
      ·rw[qc G]at L;refine .inl ⟨G,?_⟩;cases hz:ρ.vec k with
       |none=>rw[hz]at L;simp[gzs]at L
       |some z=>obtain⟨z1,z2,z3⟩:=z;rw[hz]at L;simp[gzs]at L;simp[L.1]
      ·rw[qb G]at L;exact .inr ⟨G,X,λh=>G (by simpa using h.symm),n2,cap2,L⟩
     have O:∀q d,Inn c n (some i) q d->Owns w ρ j (.vecT l n f e s (some i)) d:=λq d h=>.inr ⟨b,n,cap,c,e,q,A,q2,h⟩
     have hown:∀d,Owns (w.setRow b c') ρ j (.vecT l n (λq=>if q=i then .lst l W Y else f q) e s none) d->Owns w ρ j (.vecT l n f e s (some i)) d\/Owns w ρ k (.vec l W Y 0 s) d:=by
      intro d p;rcases p with p|⟨b0,n0,cap0,c0,e0,q,X,r2,L⟩
      ·exact .inl (.inl p)
      ·rw[A]at X;cases X;rw[Q]at r2;cases r2;rcases S q d L with⟨_,h⟩|⟨_,h⟩
       ·exact .inr (R d h)
       ·exact .inl (O q d h)
     have C:∀kk r,Mem.get [(j,Res.vecT l n (λq=>if q=i then .lst l W Y else f q) e s none),(k,.gone)] kk=some r->(kk=j/\r=.vecT l n (λq=>if q=i then .lst l W Y else f q) e s none)\/(kk=k/\r=.gone):=by
      intro kk r E;simp only[Mem.get]at E;split at E
      ·rename_i J;subst J;cases E;exact .inl ⟨rfl,rfl⟩
      ·split at E
       ·rename_i J;subst J;cases E;exact .inr ⟨rfl,rfl⟩
       ·cases E
     have B:∀kk,Mem.get [(j,Res.vecT l n (λq=>if q=i then .lst l W Y else f q) e s none),(k,.gone)] kk=none->kk≠j/\kk≠k:=by
      intro kk E;simp only[Mem.get]at E;split at E
      ·cases E
      ·split at E
       ·cases E
       ·rename_i a1 a2;exact⟨λe=>a1 e.symm,λe=>a2 e.symm⟩
     refine⟨undef,_,F,ρ,.inr ⟨by simp only[zb,ho,Instr.storeAt,Instr.sureAddr,hu,xU,xV,xT,hr],rfl⟩,st,λ_ _=>⟨rfl,rfl⟩,.any,MemOk.step I st (λ_=>True) (λ_ _=>⟨rfl,rfl⟩) _ (λkk r h hn=>⟨trivial,λq G=>absurd trivial G,λd p=>⟨?_,λ_ h=>h⟩⟩) (λkk r h=>?_) (λkk kk' r r' d h h' hb p=>?_)⟩
     ·refine setRow_other w b d _ (λJ=>?_);subst J;exact(B kk hn).1 (I.disj j kk _ r _ Z h hbj p).symm
     ·rcases C kk r h with⟨rfl,rfl⟩|⟨rfl,rfl⟩
      ·refine⟨⟨b,cap,c',A,Q,q3,q4,hsz,q6,λq G=>?_,λq q' d X r2=>?_,λq X=>?_⟩,λd p=>?_⟩
       ·rw[N];by_cases K:q=i
        ·subst K;refine⟨_,qc rfl,hone,.inr ⟨ρ.vec k,W,Y,jq,rfl,hkok.mono st.sub st.cell λd m' U hx'=>⟨setRow_other w b d _ (V d (by simp[hx'])),λ_ h=>h⟩⟩⟩
        ·rw[qb K];obtain⟨u,u1,u2,u3⟩:=q7 q G;obtain⟨z,n2,g2,p1,p2,p3⟩:=u3.resolve_left (λh=>K (by simpa using h.symm));refine⟨u,u1,u2,.inr ⟨z,n2,g2,by simp[K,p1],p2,p3.mono st.sub st.cell λd m' U hx'=>⟨setRow_other w b d _ (λJ=>?_),λ_ h=>h⟩⟩⟩;subst hx';exact q9 q ⟨G,λh=>K (by simpa using h.symm),m',U,by rw[u1,p2,J];rfl⟩
       ·rcases S q d X with⟨J,D⟩|⟨J,D⟩<;>rcases S q' d r2 with⟨e2,h2⟩|⟨e2,h2⟩
        ·rw[J,e2]
        ·exact(hjk (I.disj _ _ _ _ d Z H (O q' d h2) (R d D))).elim
        ·exact(hjk (I.disj _ _ _ _ d Z H (O q d D) (R d h2))).elim
        ·exact q8 q q' d D h2
       ·rcases S q b X with⟨_,D⟩|⟨_,D⟩
        ·exact V b D rfl
        ·exact q9 q D
       ·rcases hown d p with D|D
        ·obtain⟨m1,m2⟩:=I.mine _ _ d Z D;exact⟨m1,by simpa using m2,λq r' G hn hbq=>(B q hn).1 (I.disj _ q _ r' d Z G D hbq).symm⟩
        ·obtain⟨m1,m2⟩:=I.mine _ _ d H D;exact⟨m1,by simpa using m2,λq r' G hn hbq=>(B q hn).2 (I.disj _ q _ r' d H G D hbq).symm⟩
      ·exact⟨trivial,λd p=>by simp[Owns,mzh,bz8]at p⟩
     ·rcases C kk r h with⟨rfl,rfl⟩|⟨rfl,rfl⟩
      ·rcases C kk' r' h' with⟨rfl,rfl⟩|⟨rfl,rfl⟩
       ·rfl
       ·simp[Owns,mzh,bz8]at p
      ·simp[Owns,mzh,bz8]at hb
   ·cases h
  ·cases h
 ·cases h
theorem az36 {t:qq}{x i:xQ}{out:Out}(e:o.op=.indexAddr t x i)(h:Dz9 P t (env x) (env i)=some out)(c:holds out.obl):Sound1 P o env m id out:=by
 unfold Dz9 at h;split at h
 ·rename_i k n v p g hi;split at h
  ·split at h
   ·simp at h;subst h;obtain⟨r,s⟩:=c;refine Sound1.still λF w ρ Mine M a q j d=>?_
    have f:=(hi▸d i (by simp[e,za])).pure_inv.int_inv;have b:=d x (by simp[e,za]);rw[g]at b;generalize l:a.eval x=u at b;cases b with
    |bsl=>
     refine⟨.pointer (some ⟨ρ.blk k,p.toNat,none⟩),.value ?_,.ptr⟩
     simp_all[zb,Instr.indexAt,asIntOf,zd,bzx,eze]
   grind
  grind
 grind
theorem azn2 {t:qq}{x:xQ}{out:Out}(b:o.op=.makeInterface t x)(h:az4j P t (env x)=some out):Sound1 P o env m id out:=by
 unfold az4j at h;split at h
 ·rename_i d e;split at h
  ·cases h
  ·rename_i f;cases h;refine Sound1.still λF w ρ Mine M a i g c=>⟨.iface t (a.eval x),.value ?_,.iface (c x (by simp[b,za]))⟩
   simp only[zb,b,Instr.makeInterface,xU,zd e,xT];cases d<;>first|(simp only[xV,xT];done)|skip
   exact absurd rfl f
 grind
theorem azi9 {x:xQ}{y c:qq}{k:Bool}{out:Out}(q:o.op=.typeAssert x y c k)(h:Xzn P (env x) c k=some out):Sound1 P o env m id out:=by
 unfold Xzn at h;split at h
 ·rename_i t r d A f;split at h
  ·cases h
  ·rename_i C
   have g:∀ {a:Act} {w:qn} {v u:qr},a.eval x=.iface t v->
    (if t=c then(pure (if k=true then .tuple #[v,.bool true]else v):Sem qr)else(if k=true then do pure (.tuple #[<-zeroValue c,.bool false])else runtimePanic (.typeAssertion (some y) (some t) c ""))).run P w=.ok u w->Ran P o a w u w:=by
    intro a w v u D n;refine .value ?_;simp only[zb,q,Instr.typeAssert,xU,zd f,xT,D];cases d<;>first|exact absurd rfl C|(simp only[n,xT,xV])
   split at h
   ·cases h;refine Sound1.still λF w ρ Mine M a B s p=>?_
    have i:=p x (by simp[q,za]);rw[A]at i;generalize e:a.eval x=u at i;cases i with
    |iface n=>
     rename_i v;cases k with
     |true=>
      refine⟨.tuple #[v,.bool true],g e jr,.tup rfl λj b u l f=>?_⟩
      match j with
      |0=>simp_all
      |1=>simp at l f;subst l;subst f;exact .tt
      |j+2=>grind
     |false=>exact⟨v,g e jr,n⟩
   ·split at h
    ·split at h
     ·split at h
      ·rename_i z E;cases h;refine Sound1.still λF w ρ Mine M a B s p=>?_
       have i:=p x (by simp[q,za]);rw[A]at i;generalize e:a.eval x=u at i;cases i with
       |iface n=>
        refine⟨.tuple #[z,.bool false],g e ?_,.tup rfl λj b u l f=>?_⟩
        ·simp_all[zeroValue,typeInfo]
        ·match j with
         |0=>grind[Mzi]
         |1=>simp at l f;subst l;subst f;exact .ff
         |j+2=>grind
      grind
     grind
    grind
 grind
theorem Zzk {t:qq}{len:Nat}{c:Array (Nat×xQ)}{out:Out}(ho:o.op=.buildSlice t len c)(h:zz6 P t len id env c.toList=some out):Sound1 P o env m id out:=by
 unfold zz6 at h;split at h
 ·rename_i e hu;split at h
  ·rename_i zl l S D hl;split at h
   ·rename_i K;simp only[qm,qf]at K;obtain⟨⟨H,n⟩,I⟩:=K;cases h;intro F w ρ Mine M a hm g fr hrd Y V;have E:∀x∈c.toList,x.2∈o.op.operands:=λx B=>by
     grind[za]
    obtain⟨e1,e2⟩:=Dzn (a:=a) c.toList 0 l hl;have hpl:c.toList.length=len:=jr
    have d:∀ (i:Nat) (b:AVal) (v:qr),l[i]?=some b->(c.toList.map λx=>a.eval x.2)[i]?=some v->ARel F w ρ b v/\v.oneCell'=true/\v.cells=#[v]:=by
     intro i b v q r;rw[e2]at q;simp only[List.getElem?_map,x9]at q r;obtain⟨x,B,rfl⟩:=q;obtain⟨x',k,rfl⟩:=r;rw[B]at k;cases k;have J:=V x.2 (E x (zu B));have C:(env x.2).scalar=true:=ql.1 n _ jt;have L:=J.one C;exact⟨J,L,by generalize a.eval x.2=u at L;cases u<;>simp_all [Value.cells,Value.oneCell']⟩
    have Q:∀v∈(c.toList.map λx=>a.eval x.2),v.oneCell'=true/\v.cells=#[v]:=by
     grind[List.getElem?_of_mem]
    obtain⟨N,Z,_⟩:=Lzi (P:=P) (w:=w) D;obtain⟨z,hz⟩:∃z:Array qr,z=if len * 1=0 then #[]else N.cells:=⟨_,rfl⟩
    obtain⟨A,f1,f2,f3,f4⟩:=Fzw 1 (c.toList.map λx=>a.eval x.2) 0 ((Array.range (len * 1)).map (z[· % z.size]!)) (λv r=>jt) jt;have hA:A.size=len:=jr
    obtain⟨F',ρ',T,G,q,O⟩:=az7d hm g fr e A l [] (by simp[Mem.get]) qa (λF' w' ρ' hF W G _ j y v U r=>by
     have s:j<(c.toList.map λx=>a.eval x.2).length:=jt
     have p:(c.toList.map λx=>a.eval x.2)[j]?=some (c.toList.map λx=>a.eval x.2)[j]:=List.getElem?_eq_getElem s;obtain⟨r1,R,r3⟩:=d j y _ U p;have X:=f4 j _ p 0 qa;have f:v=(c.toList.map λx=>a.eval x.2)[j]:=jr
     rw[f];refine⟨r1.mono (λi=>¬Own id i) hF W G (λi hi=>?_),R⟩
     grind)
    refine⟨.slice (some ⟨w.heap.size,0,none⟩) len len,w.alloc (.cells A e),F',ρ',.value ?_,T,G,?_,qa⟩
    ·simp only[zb,ho,Instr.buildSlice,xU,zd hu,xT,bzx S];rw[qb qa];by_cases h0:len * 1=0;all_goals simp_all[newRow]
    ·rw[<-q];exact .bsl
   ·cases h
  ·cases h
 ·cases h
theorem az3a {t:qq}{x i:xQ}{out:Out}(q:o.op=.indexAddr t x i)(h:Dzd P t (env x) (env i) m=some out)(p:holds out.obl):Sound1 P o env m id out:=by
 unfold Dzd at h;split at h
 ·rename_i k J A z hi;split at h
  ·rename_i sz n f E e off k' s;split at h
   ·split at h
    ·simp at h;subst h;obtain⟨C,B⟩:=p;refine Sound1.still λF w ρ Mine M a y j l=>?_
     have r:=(hi▸l i (by simp[q,za])).pure_inv.int_inv;have g:=l x (by simp[q,za]);rw[z]at g;obtain⟨_,b,cap,c,d,_⟩:=y.ok k _ ((j k jq).trans s);generalize v:a.eval x=u at g;cases g with
     |vnil e=>simp_all
     |vec e=>
      rw[e]at d;cases d;refine⟨.pointer (some ⟨b,A.toNat * sz+0,none⟩),.value ?_,.eptr e⟩
      simp_all[zb,Instr.indexAt,asIntOf,zd,bzx,eze]
    grind
   grind
  ·rename_i sz n f D E off K I H s;split at h
   ·split at h
    ·simp at h;subst h;obtain⟨C,B⟩:=p;refine Sound1.still λF w ρ Mine M a y j l=>?_
     have r:=(hi▸l i (by simp[q,za])).pure_inv.int_inv;have g:=l x (by simp[q,za]);rw[z]at g;obtain⟨_,_,⟨_,G,_⟩|⟨b,cap,c,d,_⟩⟩:=y.ok k _ ((j k jq).trans s)
     ·omega
     generalize v:a.eval x=u at g;cases g with
     |vnil e=>simp_all
     |vec e=>
      rw[e]at d;cases d;refine⟨.pointer (some ⟨b,A.toNat * sz+0,none⟩),.value ?_,.eptr e⟩
      simp_all[zb,Instr.indexAt,asIntOf,zd,bzx,eze]
    grind
   grind
  grind
 grind
theorem Nzp {F:Cells}{w:qn}{ρ:Env}(k:Nat):ARel F w ρ (.vec k) (gzs (ρ.vec k)):=by
 cases h:ρ.vec k with
 |none=>exact .vnil h
 |some z=>exact .vec h
theorem az3i {F:Cells}{w:qn}{ρ:Env}{k:Nat}{v:qr}(h:ARel F w ρ (.vec k) v):v=gzs (ρ.vec k):=by
 cases h with
 |vnil a=>rw[a];rfl
 |vec a=>rw[a];rfl
theorem azn6 {t:qq}{x:xQ}{out:Out}(E:o.op=.load t x)(h:az4o P t (env x) m=some out)(q:holds out.obl):Sound1 P o env m id out:=by
 unfold az4o at h;split at h
 ·rename_i j sz i off C;split at h
  ·rename_i z n f e D r k A;split at h
   ·rename_i s;simp only[qm,qf]at s;obtain⟨⟨⟨l,rfl⟩,rfl⟩,_⟩:=s;cases h;obtain rfl:i=D:=q;refine Sound1.still λF w ρ Mine M a y p B=>?_
    have d:=B x (by simp[E,za]);rw[C]at d;obtain⟨_,b,cap,c,N,H,L,J,I,O⟩:=y.ok j _ ((p j jq).trans A);generalize G:a.eval x=u at d;cases d with
    |eptr v=>
     have g:w.cell? ⟨b,i * sz+off,none⟩=some (gzs (ρ.vec k)):=by grind[cell_of_row]
     have K:=lzp (P:=P) l g;exact⟨_,.value (by grind[zb,Instr.loadAt,Instr.sureAddr,xU,xV,xT]),Nzp k⟩
   grind
  grind
 grind
theorem MemOk.setX {F:Cells}{w:qn}{ρ:Env}{Mine:Nat->Prop}{M:Mem}{j sz n a off k:Nat}{f:Nat->PVal}{e:qq}(o:MemOk F w ρ Mine ([(j,.vec sz n (hz0 f a off .unk) 0 e)]++M))
 (u:∃b cap c,ρ.vec j=some (b,n,cap)/\w.heap[b]?=some (.cells c e (0,0))/\a<n/\off<sz/\(f a).cells.length=sz/\c[a * sz+off]?=some (gzs (ρ.vec k))):
 MemOk F w ρ Mine ([(j,.vecX sz n f e a off k)]++M):=by
 have t:Mem.get ([(j,Res.vec sz n (hz0 f a off .unk) 0 e)]++M) j=some (.vec sz n (hz0 f a off .unk) 0 e):=by simp[Mem.get]
 have g:∀i r,Mem.get ([(j,Res.vecX sz n f e a off k)]++M) i=some r->(i=j/\r=.vecX sz n f e a off k)\/Mem.get ([(j,Res.vec sz n (hz0 f a off .unk) 0 e)]++M) i=some r:=by
  grind[Mem.get]
 have d:∀i r,Mem.get ([(j,Res.vecX sz n f e a off k)]++M) i=some r->∃l,Mem.get ([(j,Res.vec sz n (hz0 f a off .unk) 0 e)]++M) i=some l/\∀b,Owns w ρ i r b->Owns w ρ i l b:=by
  intro i r h;rcases g i r h with⟨rfl,rfl⟩|h
  ·exact⟨_,t,λb m=>m⟩
  simp_all
 refine⟨λi r h=>?_,λi r b h m=>?_,λi z r l b h y m q=>?_⟩
 ·rcases g i r h with⟨rfl,rfl⟩|h
  ·exact⟨o.ok _ _ t,u⟩
  ·exact o.ok _ _ h
 ·obtain⟨l,p,s⟩:=d i r h;exact o.mine _ _ _ p (s b m)
 ·obtain⟨B,p,s⟩:=d i r h;obtain⟨A,x,v⟩:=d z l y;exact o.disj _ _ _ _ b p x (s b m) (v b q)
theorem azip {t:qq}{x y:xQ}{out:Out}(J:o.op=.store t x y)(h:Xzz P t (env x) (env y) m=some out)(Z:holds out.obl):Sound1 P o env m id out:=by
 unfold Xzz at h;split at h
 ·rename_i j sz d off k hx hy;split at h
  ·rename_i sz' n f sh e sz2 n2 f2 sh2 e2 hj hk;split at h
   ·rename_i hc;simp only[qm,qf,bne_iff_ne,ne_eq]at hc;obtain⟨⟨⟨⟨hs,rfl⟩,I⟩,hjk⟩,rfl⟩:=hc;cases h;have p:d<n:=Z
    classical
    obtain⟨l,N⟩:∃l:xQ->AVal,l=λz=>if z=y then .pure .unk else env z:=⟨_,rfl⟩
    have K:l y=.pure .unk:=jr
    have hxy:x≠y:=λe1=>jr
    have Y:l x=.eptr j sz d off:=jr
    have O:(f d).cells.length=sz->(Hz7 (f d) ((f d).cells.take off++[.unk]++(f d).cells.drop (off+1))).cells=(f d).cells.take off++[.unk]++(f d).cells.drop (off+1):=λ_=>by
     grind[ozd,PVal.cells_scalar,PVal.scalar]
    have U:=Tzu (P:=P) (id:=id) (env:=l) (m:=m) (ob:=none) (i:=j) (sz:=sz) (k:=d) (off:=off) (s:=1) (n:=n) (sh:=0) (f:=f) (e:=e) (ps:=[.unk]) (el:=Hz7 (f d) ((f d).cells.take off++[.unk]++(f d).cells.drop (off+1)))
     J hs (by rw[K];rfl) Y hj (by rw[K];rfl) (by rfl) (λ_=>I) O p (Nat.zero_le _)
    intro F w ρ Mine M a hm g fr H hfe ha;have V:=hy▸ha y (by simp[J,za]);have L:=hx▸ha x (by simp[J,za]);have hv:=az3i V;have D:(a.eval y).oneCell'=true:=by grind[Gz7]
    have hM:=(H j jq).trans hj;have S:=(H k jq).trans hk;obtain⟨v,w',F',ρ',B,k2,Q,k4,k5⟩:=U F w ρ Mine M a hm g fr (λi hi=>H i jr) (λz hz i hi=>by
     grind[AVal.has]) (λz hz=>by
     rw[N];by_cases e1:z=y
     ·subst e1;simp only[if_true];exact .pure (.unk D)
     simp_all)
    have E:∀q r,M.get q=some r->¬Own id q:=λq r hq J=>by rw[fr.none q J]at hq;grind
    have T:ρ'.vec j=ρ.vec j:=(Q j (E j _ hM)).2;have W:ρ'.vec k=ρ.vec k:=(Q k (E k _ S)).2;obtain⟨_,X⟩:=hm.ok j _ hM;rcases X with⟨_,hn0⟩|⟨b,cap,c,q1,q2,q3,q4,q5,q6,q7,q8⟩
    ·omega
    ·generalize hu:a.eval x=u at L;cases L with
     |eptr G=>
      rw[G]at q1;cases q1;have A:(a.eval y).cells=#[a.eval y]:=by generalize a.eval y=z at D;cases z<;>simp_all [Value.cells,Value.oneCell']
      have R:=q7 d p;have hle:d * sz+off<c.size:=by rw[q5];exact Nat.lt_of_lt_of_le (vzl p qa) (Nat.mul_le_mul_right _ q3)
      have hr:=ozm (P:=P) (off:=d * sz+off) (v:=a.eval y) hs jr q2 qa jr;have C:(zb a.eval o).run P w=.ok .skip (w.setRow b (c.toList.take (d * sz+off)++(a.eval y).cells.toList++c.toList.drop (d * sz+off+(a.eval y).cells.toList.length)).toArray):=by
       grind[zb,Instr.storeAt,Instr.sureAddr,xU,xV,xT]
      have hw:w'=w.setRow b (c.toList.take (d * sz+off)++(a.eval y).cells.toList++c.toList.drop (d * sz+off+(a.eval y).cells.toList.length)).toArray:=by
       rcases B with B|⟨B,_⟩
       ·rw[C]at B;cases B
       ·rw[C]at B;cases B;rfl
      refine⟨v,w',F',ρ',B,k2,Q,k4,MemOk.setX k5 ⟨b,cap,_,by rw[T];exact G,by rw[hw];exact setRow_heap w b c _ e _ q2,p,qa,R,?_⟩⟩;rw[W,A,List.getElem?_toArray,jzm _ _ _ _ jv];simp[hv]
   ·cases h
  ·cases h
 ·cases h
theorem MemOk.closeX {F:Cells}{w:qn}{ρ:Env}{Mine:Nat->Prop}{M:Mem}(U:MemOk F w ρ Mine M)(g:Good F w Mine){j sz n t off k d l O:Nat}{f s:Nat->PVal}{e y:qq}
 (hj:M.get j=some (.vecX sz n f e t off k)) (Z:M.get k=some (.vec d l s O y)):
 ∃F',Step Mine F w F' w/\MemOk F' w ρ Mine ((j,.vec sz n (hz0 f t off (.lst d l s)) 0 e)::((k,.vec d l s l y)::M)):=by
 obtain⟨V,u⟩:=qzx (m:=M) U g (is:=[k]) (λ_ _=>rfl);have I:bzk M [k]=[(k,.vec d l s l y)]:=by simp[bzk,Z]
 rw[I]at u;refine⟨_,V,?_⟩;have hp:=kza (m:=M) U g (a:=.vec k) (p:=.lst d l s) (is:=[k]) (js:=[k]) (by grind[Cz7,az9a]) (λ_ h=>h) (λ_ _=>rfl) (Nzp k);have C:Mem.get ([(k,Res.vec d l s l y)]++M) j=some (.vecX sz n f e t off k):=by grind[Mem.get]
 obtain⟨H,b,cap,c,D,E,Q,R,q6,q5⟩:=u.ok j _ C;have z:∀i r,Mem.get ((j,Res.vec sz n (hz0 f t off (.lst d l s)) 0 e)::((k,.vec d l s l y)::M)) i=some r->(i=j/\r=.vec sz n (hz0 f t off (.lst d l s)) 0 e)\/Mem.get ([(k,Res.vec d l s l y)]++M) i=some r:=by
  grind[Mem.get]
 have v:∀i r,Mem.get ((j,Res.vec sz n (hz0 f t off (.lst d l s)) 0 e)::((k,.vec d l s l y)::M)) i=some r->∃A,Mem.get ([(k,Res.vec d l s l y)]++M) i=some A/\∀b,Owns w ρ i r b->Owns w ρ i A b:=by
  intro i r h;rcases z i r h with⟨rfl,rfl⟩|h
  ·exact⟨_,C,λb B=>B⟩
  simp_all
 have o:∀p:PVal,p.scalar=true->(Hz7 (f t) ((f t).cells.take off++[p]++(f t).cells.drop (off+1))).cells=(f t).cells.take off++[p]++(f t).cells.drop (off+1):=λp hps=>by
  grind[ozd,PVal.cells_scalar]
 refine⟨λi r h=>?_,λi r b h B=>?_,λi X r A b h h' B K=>?_⟩
 ·rcases z i r h with⟨rfl,rfl⟩|h
  ·obtain⟨_,H⟩:=H;refine⟨Nat.zero_le _,.inr ?_⟩;rcases H with⟨hn,_⟩|⟨b',P,c',T,S,r3,r4,Y,r6,r7,r8⟩
   ·omega
   ·refine⟨_,_,_,T,S,r3,r4,Y,r6,λq J=>?_,λq N p J L=>?_⟩
    ·have:=r7 q J;simp only[hz0]at this⊢;by_cases G:q=t
     ·rw[qc G]at this⊢;rw[o _ rfl]at this⊢
      simp_all
     simp_all
    ·by_cases G:q=t
     ·subst G;simp only[hz0,if_true,o _ (show(PVal.lst d l s).scalar=true from rfl)]at L;by_cases W:off<=N/\N<off+1
      ·grind[Gz7]
      ·refine r8 q N p J ?_;simp only[hz0,if_true,o _ (show PVal.unk.scalar=true from rfl)]
       grind
     grind[hz0]
  ·exact u.ok _ _ h
 ·obtain⟨A,D,E⟩:=v i r h;exact u.mine _ _ _ D (E b B)
 ·obtain⟨T,D,E⟩:=v i r h;obtain⟨S,Q,R⟩:=v X A h';exact u.disj _ _ _ _ b D Q (E b B) (R b K)
theorem azim {t:qq}{x y:xQ}{out:Out}(K:o.op=.store t x y)(h:Xzw P t (env x) (env y) m=some out):Sound1 P o env m id out:=by
 unfold Xzw at h;split at h
 ·rename_i j off k hx X;split at h
  ·rename_i A sz n f sh e Z J;split at h
   ·split at h
    ·cases h
     classical
     obtain⟨b,H⟩:∃b:xQ->AVal,b=λz=>if z=y then .pure (.lst sz n f)else env z:=⟨_,rfl⟩
     have u:bzk m [k]=[(k,.vec sz n f n e)]:=by simp[bzk,J]
     have Y:Mem.get ([(k,Res.vec sz n f n e)]++m) j=some (.box A):=by grind[Mem.get]
     have I:Iz9 P t (b x) (b y) ([(k,Res.vec sz n f n e)]++m)=some ⟨.any,[j],[(j,.box (A.take off++[.pure (.lst sz n f)]++A.drop (off+1)))],none⟩:=by
      grind[Iz9,AVal.cells,AVal.scalar]
     have C:=Zzm (P:=P) (id:=id) (env:=b) (m:=[(k,Res.vec sz n f n e)]++m) K I trivial;intro F w ρ Mine M a O g B G W N;have E:=(G k jq).trans J;obtain⟨s,d⟩:=qzx (m:=m) O g (is:=[k]) (λi hi=>jr);rw[u]at d;have Q:=kza (m:=m) O g (a:=.vec k) (p:=.lst sz n f) (is:=[k]) (js:=[k]) (by grind[Cz7,az9a]) (λ_ h=>h) (λi hi=>jr) (X▸N y (by simp[K,za]));have D:Fresh id ([(k,Res.vec sz n f n e)]++M):=by
      refine⟨λi hi=>?_,λi q r hi l=>?_⟩
      ·by_cases c:k=i
       ·subst c;rw[B.none k hi]at E;grind
       ·simp[Mem.get,c,B.none i hi]
      ·by_cases c:k=q
       ·subst c;simp[Mem.get]at l;subst l;rfl
       ·simp[Mem.get,c]at l;exact B.has i q r hi l
     obtain⟨v,U,F',ρ',V,T,S,R,k5⟩:=C (dzv F w ρ m [k]) w ρ Mine _ a d (s.good g) D (λi hi=>by
      grind[Mem.get]) (λz L i hi=>by
      grind[AVal.has]) (λz L=>by
      rw[H];by_cases c:z=y
      ·simp only[qc c];rw[c];exact .pure Q
      ·simp only[qb c];exact(N z L).mono' s.sub s.cell)
     exact⟨v,U,F',ρ',V,s.trans T,S,R,jr⟩
    grind
   grind
  grind
 grind
theorem az7p {m:Mem}:∀ {vs ds:List AVal},(purC m vs ds).length=vs.length/\∀ (j:Nat) (b:AVal),(purC m vs ds)[j]?=some b->
 ∃a,vs[j]?=some a/\(b=a\/∃p is,Cz7 m a=some (p,is)/\(∀i∈is,i∈purI m vs ds)/\b=.pure p)
 |[],ds=>by grind[purC]
 |a::l,[]=>⟨rfl,λj b h=>⟨b,h,.inl rfl⟩⟩
 |a::l,d::ds=>by
  obtain⟨o,f⟩:=az7p (m:=m) (vs:=l) (ds:=ds);refine⟨by simp[purC,o],λj b h=>?_⟩;cases j with
  |zero=>
   simp only[purC,List.getElem?_cons_zero,Option.some.injEq]at h;refine⟨a,jq,?_⟩;subst h;have e:∀i∈(pur1 m a d).2,i∈purI m (a::l) (d::ds):=λi hi=>by exact zV _ hi
   generalize c:pur1 m a d=q at e⊢;unfold pur1 at c;split at c
   ·split at c
    ·rename_i p is t;subst c;exact .inr ⟨p,is,t,e,rfl⟩
    ·subst c;exact .inl rfl
   ·subst c;exact .inl rfl
  |succ j=>
   obtain⟨s,g,n⟩:=f j b h;exact⟨s,g,n.imp (λh=>h) λ⟨p,is,r,k,u⟩=>⟨p,is,r,λi hi=>by exact List.mem_append_right _ (k i hi),u⟩⟩
theorem azil {t:qq}{x y:xQ}{out:Out}(ho:o.op=.store t x y)(h:Xzv P t (env x) (env y) m=some out)(R:holds out.obl):Sound1 P o env m id out:=by
 classical
 unfold Xzv at h;split at h
 ·rename_i j off vs hx Z;split at h
  ·rename_i N hj;split at h
   ·cases h
   ·split at h
    ·rename_i C hs;cases h;generalize B:purI m vs (N.drop off)=d at *
     obtain⟨f,A⟩:∃f:xQ->AVal,f=λz=>if z=y then .agg (purC m vs (N.drop off))else env z:=⟨_,rfl⟩
     have hxy:x≠y:=λn=>jr
     have K:=Zzm (P:=P) (id:=id) (env:=f) (m:=bzk m d++m) (out:=C) ho jr R;intro F w ρ Mine M a V g S U T X;obtain⟨hlen,e⟩:=az7p (m:=m) (vs:=vs) (ds:=N.drop off);rw[B]at e;have k:∀i∈d,M.get i=m.get i:=λi hi=>U i (zV _ hi)
     obtain⟨q,L⟩:=qzx (m:=m) V g (is:=d) k;have O:Fresh id (bzk m d++M):=by
      refine⟨λi hi=>?_,λi j r hi hj=>?_⟩
      ·rw[Mem.get_append];cases W:(bzk m d).get i with
       |none=>simpa using S.none i hi
       |some r=>
        obtain⟨G,r0,E,_⟩:=ez5 W;have:=S.none i hi
        simp_all
      ·rw[Mem.get_append]at hj;cases W:(bzk m d).get j with
       |none=>exact S.has i j r hi jr
       |some r'=>
        grind[ez5,Jzc]
     obtain⟨v,w',F',ρ',k1,k2,k3,k4,k5⟩:=K (dzv F w ρ m d) w ρ Mine (bzk m d++M) a L (q.good g) O (λi hi=>by
      grind[Mem.get_append]) (λz H i hi=>by
      rw[A];by_cases n:z=y
      ·simp only[qc n,AVal.has];have s:=T z H i hi;rw[n,Z]at s;have Q:∀ (l:List AVal),(∀ (j:Nat) (b:AVal),l[j]?=some b->b.has i=false)->AVal.hasL i l=false:=by
        intro l;induction l with
        |nil=>intro _;rfl
        |cons b l ih=>intro h;simp only[AVal.hasL,Bool.or_eq_false_iff];exact⟨h 0 b jq,ih λj c hc=>h (j+1) c jr⟩
       refine Q _ λI b J=>?_
       obtain⟨a',G,E⟩:=e I b J;rcases E with rfl|⟨_,_,_,_,rfl⟩
       ·exact qzl s G
       ·rfl
      simp_all) (λz H=>by
      rw[A];by_cases n:z=y
      ·simp only[qc n];have s:=X z H;rw[n,Z]at s;rw[n];generalize a.eval y=u at s;cases s with
       |agg hl hr=>
        refine .agg qa λI b v J hv=>?_
        obtain⟨a',G,E⟩:=e I b J;have Y:=hr I a' v G hv;rcases E with rfl|⟨p,is,hp,D,rfl⟩
        ·exact Y.mono' q.sub q.cell
        ·exact .pure (kza V g hp D (λi hi=>k i (D i hi)) Y)
      ·simp only[qb n];exact(X z H).mono' q.sub q.cell)
     exact⟨v,w',F',ρ',k1,q.trans k2,k3,k4,jr⟩
    grind
  grind
 grind
theorem Jzg {F:Cells}{w:qn}{ρ:Env}:∀ (l:List qr),(xzo l).length=l.length/\∀ (j:Nat) (a:AVal) (v:qr),(xzo l)[j]?=some a->l[j]?=some v->ARel F w ρ a v
 |[]=>by simp[xzo]
 |x::l=>by
  have d:=Jzg (F:=F) (w:=w) (ρ:=ρ) l;have c:∀ (b:AVal),ARel F w ρ b x->(b::xzo l).length=(x::l).length/\∀ (j:Nat) (a:AVal) (v:qr),(b::xzo l)[j]?=some a->(x::l)[j]?=some v->ARel F w ρ a v:=by
   grind
  unfold xzo;split
  ·simp_all
  ·rename_i e;cases e;exact c _ (.pure .nil)
  grind[gzy]
theorem azi7 {e:qq}{out:Out}(J:o.op=.alloc e)(h:Xzl P e id=some out):Sound1 P o env m id out:=by
 unfold Xzl at h;split at h
 ·rename_i z k;split at h
  ·rename_i B;cases h;intro F w ρ Mine M a f g s _ A D;obtain⟨v,G,l⟩:=Lzi (P:=P) (w:=w) k;have c:v.cells.size=z.length:=by grind
   obtain⟨F',ρ',q,d,C,t⟩:=az7d f g s e v.cells (xzo z) []
    (λi r h=>by simp[Mem.get]at h)
    (by rw[c];exact(Jzg (F:=F) (w:=w) (ρ:=ρ) z).1)
    (λF' x ρ' E I d p j y u n H=>by
     have b:z[j]?=some u:=jt
     exact⟨(Jzg (F:=F') (w:=x) (ρ:=ρ') z).2 j y u n b,ql.1 B u (zu b)⟩)
   refine⟨.pointer (some ⟨w.heap.size,0,none⟩),w.alloc (.cells v.cells e),F',ρ',.value ?_,q,d,?_,qa⟩
   ·simp_all[zb,Instr.alloc,newVar,newRow]
   ·rw[<-C];exact .ptr
  grind
 grind
end Go.Abs
