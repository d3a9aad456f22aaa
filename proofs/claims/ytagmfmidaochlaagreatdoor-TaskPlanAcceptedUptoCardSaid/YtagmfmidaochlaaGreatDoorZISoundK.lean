import Derived.Test.YtagmfmidaochlaaGreatDoorZISoundT
import Derived.Laws.CopyRow
import Derived.Laws.Pointers
open List renaming length->AA
open Option renaming some->AB,none->AC
open Array renaming getElem?_eq_getElem->zo,getElem?_eq_some_iff->zG,getD->jh,range->ji,toArray_toList->ju
open Bool renaming and_eq_true->ql,or_eq_false_iff->qo,or_false->jm,false_eq_true->jn
open Go renaming TypeId->qp,Operand->zw,Value->qq,World->qm,Program->qn,execOp->zM,run_underlying->zN
open Go.Op renaming operands->zL
open Go.Result renaming andThen_ok->zB
open Go.Sem renaming run_bind->zC,run_pure->zD
open List renaming mem_of_getElem?->z6,getElem?_set_ne->z8,getElem?_map->z9,all_eq_true->qk,getElem?_of_mem->zT,getElem?_toArray->ja,getElem?_eq_some_iff->zZ,length_singleton->wV,getElem?_cons_zero->zm,mem_map->xi,mem_range->xA,map_toArray->jg,map_cons->wY,map_nil->xe,getElem_mem->wi
open Nat renaming succ_mul->zS,mul_le_mul_right->xo,min->jb,min_def->jc,min_le_left->jd,min_le_right->je,zero_add->zq,mul_one->jf,add_zero->xz,mul_comm->jq,mul_add_mod->jr,mod_eq_of_lt->jt,le_refl->wg
open Option renaming map_eq_some_iff->zK,map_some->wx
namespace Go.Abs
variable {P:qn} {o:Oper} {env:zw->ac} {m:Mem} {id:Nat}
theorem openB_true {a:List (Nat×Nat)}{i:Nat}:dj a i=true↔∃k,(i,k)∈a:=by grind[dj]
variable {t:qp}
theorem ahJ{x:zw}{q:Nat}{out:Out}(ho:o.op=.load t x)(h:Fe P t q (env x) m=AB out)(J:holds out.obl):aq P o env m id out:=by
 unfold Fe at h;split at h
 ·rename_i j sz i hx;split at h
  ·rename_i sz' n f k e off s' e' S Z;split at h
   ·rename_i hc;simp only[ql,qf]at hc;obtain⟨⟨rfl,V⟩,R⟩:=hc
    have H:∀ (z:ac) (ob:Option Prop),i<n->(∀ (F:Cells) (w:qm) (ρ:Env) (c:Array qq),UOk F w ρ c sz n f k off s' e' S->off<sz->∀vs:Array qq,vs.size=sz->(∀l,l<sz->vs[l]?=c[i * sz+l]?)->ak F w ρ z (.agg vs))->
     aq P o env m id ⟨z,[j],[],ob⟩:=by
     intro z ob d E;refine aq.still λF w ρ Mine M a L s U=>?_
     have D:=U x (by simp[ho,zL]);rw[hx]at D;obtain⟨r,hkn,⟨_,hn0,_⟩|⟨b,cap,c,q1,q2,q3,q4,Y,q6,Q,q8⟩⟩:=L.ok j _ ((s j jV).trans Z);{omega};generalize hu:a.eval x=u at D;cases D with
     |eptr W=>
      have hsub:i * sz+sz<=c.size:=by rw[Y,<-zS];exact xo _ qa
      have hr:=nP (P:=P) (t:=t) (b:=b) (off:=i * sz+0) q2 (.inl ⟨R,sz,V,qa,rfl⟩);refine⟨.agg (c.extract (i * sz+0) (i * sz+0+sz)),.value (by grind[zM,Instr.loadAt,Instr.sureAddr,zC,zD,zB]),E F w ρ c Q r _ jW λl B=>?_⟩;simp_all
    split at h
    ·split at h
     ·have I:S=[]:=by simp_all
      subst I;cases h;obtain⟨hki,d⟩:=J;refine H _ _ d λF w ρ c A r vs O hg=>.pure (.agg (by rw[A.len i d,O]) λl p v C E=>?_)
      have B:l<sz:=jX;by_cases G:l=off
      ·subst G;obtain⟨X,N,_,_,v4⟩:=A.own i p d rfl C;simp_all
      obtain⟨X,N,_,v3⟩:=A.cell i l p d G C;simp_all
     grind
    split at h
    ·rename_i h' k' K;cases h;obtain rfl:i=h':=J;have y:(i,k')∈S:=z6 K;intro F w ρ Mine M a L g fr s T U;obtain⟨_,_,⟨_,_,he⟩|⟨b,cap,c,q1,q2,q3,q4,Y,q6,Q,q8⟩⟩:=L.ok j _ ((s j jV).trans Z);{simp_all};have d:=(Q.hole _ y).1;refine H _ _ d (λF w ρ c A r vs O hg=>.agg (by rw[List.length_set,List.length_map,A.len i d,O]) λl a v C E=>?_) F w ρ Mine M a L g fr s T U;have B:l<sz:=jX;rw[hg l B]at E;by_cases G:l=off;{subst G;rw[(A.hole _ y).2]at E;grind[QW]};rw[z8 (Ne.symm G),z9,zK]at C;obtain⟨p,C,rfl⟩:=C;obtain⟨X,N,_,v3⟩:=A.cell i l p d G C;rw[N]at E;cases E;exact .pure v3
    grind
   grind
  grind
 grind
theorem Ur{x y:zw}{j sz n i k E s' kk:Nat}{f:Nat->ae}{e e':qp}{hs G:List (Nat×Nat)}{ps:List ae}{ob:Option Prop}{rk:Res}(ho:o.op=.store t x y)(hsz:aQ P t=AB sz)
 (hx:env x=.eptr j sz i 0) (hj:m.get j=AB (.vecU sz n f k e E s' e' hs)) (_:m.get kk=AB rk) (O:(env y).cells[E]?=AB (.vec kk)) (hps:allP ((env y).cells.set E (.pure .unk))=AB ps) (hpl:AA ps=sz) (hpsc:ps.all (·.scalar)=true)
 (hin:i<n) (h1:∀q,q≠i->dj G q=dj hs q) (h2:dj G i=true) (h3:∀z∈G,z=(i,kk)\/(z∈hs/\z.1≠i)) (h4:(hs.map (·.1)).Nodup->(G.map (·.1)).Nodup):
 aq P o env m id ⟨.any,[j,kk],[(j,.vecU sz n (λq=>if q=i then .agg ps else f q) k e E s' e' G)],ob⟩:=by
 have run:∀ {a:Act} {w w':qm} {b E:Nat},a.eval x=.pointer (AB ⟨b,E,AC⟩)->(storeVar t ⟨b,E,AC⟩ (a.eval y)).run P w=.ok () w'->Ran P o a w undef w':=by
  intro a w w' b E hx hr;exact .inr ⟨by simp_all[zM,Instr.storeAt,Instr.sureAddr],rfl⟩
 intro F w ρ Mine M a hm g fr hrd hfe ha;have hM:=(hrd j jV).trans hj;have hax:=ha x (by simp[ho,zL]);have hay:=ha y (by simp[ho,zL]);rw[hx]at hax;generalize hu:a.eval x=u at hax;cases hax with
 |eptr D=>
  rename_i b n' cap;obtain⟨H,hkn,⟨_,hn0,_⟩|⟨l,cap',c,hv',hb,hnc,hcm,hcsz,hF,hU,hnin⟩⟩:=hm.ok j _ hM;{omega};rw[D]at hv';cases hv';obtain⟨hpl',hpg⟩:=gp hps;have hyl:(env y).cells.length=sz:=jW;have Z:(env y).cells.all (·.scalar)=true:=by
   have h5:=PT hps hpsc;rw[qk]at h5⊢;intro z hz;obtain⟨q,s⟩:=zT hz;by_cases e0:q=E;{subst e0;rw[O]at s;cases s;rfl};exact h5 z (z6 (i:=q) jX)
  obtain⟨hvs,hvc⟩:=hay.cells Z;have h5:∀u∈(a.eval y).cells.toList,u.oneCell'=true:=by
   grind[zT]
  have hsub:i * sz+sz<=c.size:=by rw[hcsz,<-zS];exact xo _ qa
  have hr:=rn (P:=P) (off:=i * sz+0) hsz qa hb qa h5;have hvlen:(a.eval y).cells.toList.length=sz:=jW
  have N:∀q,((c.toList.take (i * sz+0)++(a.eval y).cells.toList++c.toList.drop (i * sz+0+(a.eval y).cells.toList.length)).toArray)[q]?=
   if i * sz<=q/\q<i * sz+sz then(a.eval y).cells[q-i * sz]? else c[q]?:=by
   intro q;rw[ja,fQ _ _ _ _ jW,hvlen];simp
  generalize hc':(c.toList.take (i * sz+0)++(a.eval y).cells.toList++c.toList.drop (i * sz+0+(a.eval y).cells.toList.length)).toArray=c' at hr N;have hsz':c'.size=cap * sz:=by
   grind
  have hbj:aE w ρ j (.vecU sz n f k e E s' e' hs) b:=.inl (by simp[aX,D]);have hmine:=hm.mine j _ b hM hbj;have U:Step Mine F w F (w.setRow b c'):=Step.write g hb hmine.1 (λo h=>absurd h (hF o));have T:=setRow_heap w b c c' e _ hb;have I:∀q A,q≠i->A<sz->c'[q * sz+A]?=c[q * sz+A]?:=by
   intro q A s X;rw[N,qb];rcases Nat.lt_or_gt_of_ne s with Q|hgt
   {have:(q+1) * sz<=i * sz:=xo _ Q;rw[zS]at this;omega};have:(i+1) * sz<=q * sz:=xo _ hgt;rw[zS]at this;omega
  have hnew:∀A,A<sz->c'[i * sz+A]?=(a.eval y).cells[A]?:=by
   intro A X;rw[N,qc qa];congr 1;omega
  have J:∀q l,InnU c' sz n E k G q l->InnU c sz n E k hs q l:=by
   intro q l ⟨K,V,r3,n2,cap2,r4⟩;have d:q≠i:=λe=>by subst e;rw[h2]at r3;cases r3
   rw[I q E d H]at r4;exact⟨K,V,by rw[<-h1 q d];exact r3,n2,cap2,r4⟩
  have hown:∀l,aE (w.setRow b c') ρ j (.vecU sz n (λq=>if q=i then .agg ps else f q) k e E s' e' G) l->aE w ρ j (.vecU sz n f k e E s' e' hs) l:=by
   intro l C;rcases C with C|⟨b0,n0,cap0,c0,e0,q,K,V,r3⟩
   {exact .inl C};rw[D]at K;cases K;rw[T]at V;cases V;exact .inr ⟨b,n,cap,c,e,q,D,hb,J q l r3⟩
  have S:∀q,Mem.get [(j,Res.vecU sz n (λq=>if q=i then .agg ps else f q) k e E s' e' G)] q=none->q≠j:=by
   intro q s R;subst R;simp[Mem.get]at s
  refine⟨undef,_,F,ρ,run hu hr,U,λ_ _=>⟨rfl,rfl⟩,.any,aG.step hm U (λ_=>True) (λ_ _=>⟨rfl,rfl⟩) _ (λq r h hn=>⟨trivial,λq s=>absurd trivial s,λl C=>⟨?_,λ_ h=>h⟩⟩) (λq r h=>?_) (λq q' r r' l h h' _ _=>?_)⟩;{refine setRow_other w b l _ (λR=>?_);subst R;exact S q hn (hm.disj j q _ r _ hM h hbj C).symm}
  ·simp only[Mem.get]at h;split at h
   ·rename_i R;subst R;cases h;refine⟨⟨H,hkn,.inr ⟨b,cap,c',D,T,hnc,hcm,hsz',hF,⟨λq s=>?_,λq A p s X Y=>?_,λq p s L Y=>?_,λz hz=>?_,h4 hU.nodup,λq q' l K V=>hU.inj q q' l (J q l K) (J q' l V)⟩,λq K=>hnin q (J q b K)⟩⟩,λl C=>?_⟩
    ·by_cases d:q=i;{simp only[qc d];exact hpl};simp only[qb d];exact hU.len q s
    ·by_cases d:q=i
     ·subst d;simp only[if_true]at Y;have Q:A<sz:=by have:=(zZ.1 Y).1;rw[show(ae.agg ps).cells=ps from rfl,hpl]at this;exact this
      obtain⟨aa,ha1,ha2⟩:=hpg A p Y;rw[z8 (Ne.symm X)]at ha1;rw[hnew A Q];have B:A<(a.eval y).cells.size:=qa;obtain⟨K,V⟩:=hvc A aa _ ha1 (zo B);exact⟨_,zo B,V,(K.toP ha2).mono U.sub U.cell⟩
     simp only[qb d]at Y;have Q:A<sz:=by have:=(zZ.1 Y).1;rw[hU.len q s]at this;exact this
     rw[I q A d Q];obtain⟨v,v1,v2,v3⟩:=hU.cell q A p s X Y;exact⟨v,v1,v2,v3.mono U.sub U.cell⟩
    ·have d:q≠i:=λR=>by subst R;rw[h2]at L;cases L
     simp only[qb d]at Y;rw[I q E d H];rw[h1 q d]at L;obtain⟨v,v1,v2,v3,v4⟩:=hU.own q p s L Y;refine⟨v,v1,v2,λW=>?_,λW=>(v4 W).mono U.sub U.cell⟩;obtain⟨z,n2,g2,p1,p2,p3⟩:=v3 W;refine⟨z,n2,g2,p1,p2,p3.mono U.sub U.cell λl m' cap' hx'=>⟨setRow_other w b l _ (λR=>?_),λ_ h=>h⟩⟩;subst hx';exact hnin q ⟨s,W,L,m',cap',by rw[v1,p2,R];rfl⟩
    ·rcases h3 z hz with rfl|⟨z1,z2⟩
     ·refine⟨hin,?_⟩;rw[hnew E H];have B:E<(a.eval y).cells.size:=qa;obtain⟨K,_⟩:=hvc E _ _ O (zo B);rw[zo B,RS K]
     obtain⟨K,V⟩:=hU.hole z z1;exact⟨K,by rw[I z.1 E z2 H];exact V⟩
    obtain⟨m1,m2⟩:=hm.mine _ _ l hM (hown l C);exact⟨m1,by simpa using m2,λq r' s hn hbq=>S q hn (hm.disj _ q _ r' l hM s (hown l C) hbq).symm⟩
   cases h
  simp only[Mem.get]at h h';split at h
  ·split at h';{rename_i R e2;exact R.symm.trans e2};cases h'
  cases h
theorem adL {a:List (Nat×Nat)}{h i k kk:Nat}(b:a[h]?=AB (i,k)):(a.set h (i,kk)).map (·.1)=a.map (·.1):=by apply List.ext_getElem?;grind
theorem RD {b a:List (Nat×Nat)}(h:b.map (·.1)=a.map (·.1))(i:Nat):dj b i=dj a i:=by
 have:∀l:List (Nat×Nat),dj l i=(l.map (·.1)).any (·==i):=λl=>by grind[dj]
 grind
theorem ag3{x y:zw}{q:Nat}{out:Out}(Q:o.op=.store t x y)(h:EE P t q (env x) (env y) m=AB out)(u:holds out.obl):aq P o env m id out:=by
 unfold EE at h;split at h
 ·rename_i j sz i L;split at h
  ·rename_i X n f k e off s' e' hs I;split at h
   ·rename_i kk ps p B;split at h
    ·rename_i z1 z2 z3 z4 z5 O;split at h
     ·rename_i S;simp only[ql,qf]at S;obtain⟨⟨⟨⟨rfl,A⟩,v⟩,r⟩,_⟩:=S;split at h
      ·split at h
       ·cases h;refine Ur Q A L I O p B v r u (λq s=>?_) (by simp[dj]) (λz N=>.inl jW) (λ_=>jV);grind[dj]
       grind
      rename_i hh;split at h
      ·rename_i T k' d;cases h;obtain rfl:i=T:=u;intro F w ρ Mine M a K g W C J ha;obtain⟨_,_,⟨_,_,Y⟩|⟨b,cap,c,q1,q2,q3,q4,q5,q6,R,q8⟩⟩:=K.ok j _ ((C j jV).trans I);{rw[Y]at d;simp at d};have E:=(R.hole _ (z6 d)).1;have l:=adL (kk:=kk) d;refine Ur Q A L I O p B v r E (λq s=>RD l q) ?_ (λz N=>?_) (λV=>by rw[l];exact V) F w ρ Mine M a K g W C J ha;{rw[RD l];exact openB_true.2 ⟨k',z6 d⟩};obtain⟨q,s⟩:=zT N;by_cases D:hh=q;{subst D;have G:=(zZ.1 d).1;rw[List.getElem?_set_self G]at s;cases s;exact .inl rfl};rw[z8 D]at s;refine .inr ⟨z6 s,λU=>D ?_⟩;have H:=R.nodup;have Z:=(zZ.1 d).1;refine(List.getElem?_inj (by simpa using Z) H).1 ?_;rw[z9,z9,d,s];simp[U]
      cases h
     cases h
    cases h
   cases h
  cases h
 cases h
theorem Dn {x:Nat×Nat}{a:List (Nat×Nat)}{i:Nat}:dj (x::a) i=(x.1==i||dj a i):=by rfl
theorem QM {x:Nat×Nat}{a:List (Nat×Nat)}{i:Nat}:dj (a++[x]) i=(dj a i||x.1==i):=by simp[dj]
variable {F:Cells}{y:qp}
theorem aG.openU{w:qm}{ρ:Env}{Mine:Nat->Prop}{M:Mem}(B:aG F w ρ Mine M){j sz n k off u U h d:Nat}{f g:Nat->ae}{e:List (Nat×Nat)}
 (I:M.get j=AB (.vecU sz n f k t off u y e)) (hc:(f h).cells[off]?=AB (.lst u U g)) (hk:h<k) (hh:dj e h=false)
 (hnew:M.get d=AC) (hfr:∀q r,M.get q=AB r->r.has d=false):
 ∃x,aG F w (ρ.setVec d x) Mine ((j,.vecU sz n f k t off u y (e++[(h,d)]))::(d,.vec u U g 0 y)::M):=by
 obtain⟨R,hkn,⟨_,hn0,_⟩|⟨b,cap,c,q1,q2,q3,q4,q5,q6,H,q8⟩⟩:=B.ok j _ I;{omega};obtain⟨v,v1,v2,v3,_⟩:=H.own h _ qa hh hc;obtain⟨x,n2,g2,p1,p2,p3⟩:=v3 hk;cases p1;have hjn:j≠d:=λQ=>jW
 have S:∀i,i≠d->(ρ.setVec d x).vec i=ρ.vec i:=λi hi=>by simp[Env.setVec,hi]
 have J:(ρ.setVec d x).vec d=x:=by simp[Env.setVec]
 have E:∀q l,InnU c sz n off k (e++[(h,d)]) q l->InnU c sz n off k e q l/\q≠h:=by
  intro q l ⟨O,Y,r3,r4⟩;rw[QM,qo]at r3;exact⟨⟨O,Y,r3.1,r4⟩,λt=>jW⟩
 have hx:∀l,x.map (·.1)=AB l->InnU c sz n off k e h l:=by
  intro l s;cases x with
  |none=>grind
  |some z=>
   obtain⟨z1,z2,z3⟩:=z;cases s;exact⟨qa,hk,hh,z2,z3,by rw[v1,p2];rfl⟩
 have C:∀i r,Mem.get ((j,Res.vecU sz n f k t off u y (e++[(h,d)]))::(d,.vec u U g 0 y)::M) i=AB r->
  (i=j/\r=.vecU sz n f k t off u y (e++[(h,d)]))\/(i=d/\r=.vec u U g 0 y)\/(i≠j/\i≠d/\M.get i=AB r):=by
  grind[Mem.get]
 have hvj:(ρ.setVec d x).vec j=AB (b,n,cap):=jW
 have D:∀i r l,Mem.get ((j,Res.vecU sz n f k t off u y (e++[(h,d)]))::(d,.vec u U g 0 y)::M) i=AB r->aE w (ρ.setVec d x) i r l->
  (i=j/\(l=b\/∃q,q≠h/\InnU c sz n off k e q l))\/(i=d/\InnU c sz n off k e h l)\/(i≠j/\i≠d/\M.get i=AB r/\aE w ρ i r l):=by
  intro i r l hi s;rcases C i r hi with⟨rfl,rfl⟩|⟨rfl,rfl⟩|⟨m,h2,G⟩
  {rcases s with s|⟨b0,n0,cap0,c0,e0,q,O,Y,r3⟩;all_goals grind[aX]};{grind[owns_vec]};exact .inr (.inr ⟨m,h2,G,(h6 (ρ:=ρ) (ρ':=ρ.setVec d x) ⟨rfl,S i h2⟩ (λ_ _=>rfl) l).1 s⟩)
 have ob:aE w ρ j (.vecU sz n f k t off u y e) b:=.inl (by simp[aX,q1]);have P:∀q l,InnU c sz n off k e q l->aE w ρ j (.vecU sz n f k t off u y e) l:=λq l h=>.inr ⟨b,n,cap,c,t,q,q1,q2,h⟩
 refine⟨x,λi r hi=>?_,λi r l hi s=>?_,λi W r Z l hi hi' hb1 hb2=>?_⟩
 ·rcases C i r hi with⟨rfl,rfl⟩|⟨rfl,rfl⟩|⟨m,h2,G⟩
  ·refine⟨R,hkn,.inr ⟨b,cap,c,hvj,q2,q3,q4,q5,q6,⟨H.len,H.cell,λq p A ho hp=>?_,λz X=>?_,?_,λq q' l O Y=>H.inj q q' l (E q l O).1 (E q' l Y).1⟩,λq O=>q8 q (E q b O).1⟩⟩;{rw[QM,qo]at ho;exact H.own q p A ho.1 hp}
   ·rw[List.mem_append,List.mem_singleton]at X;rcases X with X|rfl
    ·obtain⟨z1,z2⟩:=H.hole z X;grind[Res.has]
    grind
   rw[List.map_append,List.nodup_append];refine⟨H.nodup,jV,λa ha l s Q=>?_⟩;grind[openB_true]
  {show _/\_;rw[J];exact p3};refine(B.ok i r G).keep (λq=>q≠d) (λ_ _ h=>h) (λ_ _ _=>rfl) (λq A=>⟨rfl,S q A⟩) h2 (λq A=>?_) (λl _=>⟨rfl,λ_ h=>h⟩);have:q=d:=Classical.byContradiction λh=>A h
  subst this;exact hfr i r G
 ·rcases D i r l hi s with⟨_,rfl|⟨q,_,m⟩⟩|⟨_,m⟩|⟨_,_,G,V⟩;{exact B.mine j _ _ I ob};{exact B.mine j _ _ I (P q l m)};{exact B.mine j _ _ I (P h l m)};exact B.mine i r l G V
 rcases D i r l hi hb1 with⟨Q,m⟩|⟨Q,m⟩|⟨a1,a2,G,V⟩<;>rcases D W Z l hi' hb2 with⟨e2,o⟩|⟨e2,o⟩|⟨T,a2',N,K⟩
 {rw[Q,e2]}
 ·rcases m with rfl|⟨q,A,m⟩;{exact(q8 h o).elim};exact(A (H.inj q h l m o)).elim
 ·have L:aE w ρ j (.vecU sz n f k t off u y e) l:=by
   rcases m with rfl|⟨q,A,m⟩;{exact ob};exact P q l m
  exact(T (B.disj j W _ Z l I N L K).symm).elim
 ·rcases o with rfl|⟨q,A,o⟩;{exact(q8 h m).elim};exact(A (H.inj q h l o m)).elim
 {rw[Q,e2]};{exact(T (B.disj j W _ Z l I N (P h l m) K).symm).elim}
 ·have L:aE w ρ j (.vecU sz n f k t off u y e) l:=by
   rcases o with rfl|⟨q,A,m⟩;{exact ob};exact P q l m
  exact(a1 (B.disj j i _ r l I G L V).symm).elim
 {exact(a1 (B.disj j i _ r l I G (P h l o) V).symm).elim};exact B.disj i W r Z l G N V K
theorem aG.closeU{w:qm}{ρ:Env}{Mine:Nat->Prop}{M:Mem}(u:aG F w ρ Mine M){j sz n k H off l e h kk:Nat}{f g:Nat->ae}{E:List (Nat×Nat)}
 (O:M.get j=AB (.vecU sz n f k t off l y ((h,kk)::E))) (G:M.get kk=AB (.vec l e g 0 y)) (hkk:(k=n/\H=k)\/(h=k/\H=k+1)):
 aG F w ρ Mine ((j,.vecU sz n (c9 f h off (.lst l e g)) H t off l y E)::(kk,.gone)::M):=by
 have P:j≠kk:=λo=>jW
 obtain⟨U,hkn,⟨_,hn0,hs0⟩|⟨b,cap,c,q1,q2,q3,q4,q5,q6,I,q8⟩⟩:=u.ok j _ O;{grind};obtain⟨hhn,R⟩:=I.hole _ (List.mem_cons_self ..);have hfl:=I.len h hhn;have s:(c9 f h off (.lst l e g) h).cells=(f h).cells.take off++[.lst l e g]++(f h).cells.drop (off+1):=by
  grind[c9,Bd,ae.cells_scalar,ae.scalar]
 have m:∀q,q≠h->c9 f h off (.lst l e g) q=f q:=λq A=>by simp[c9,A]
 have S:∀a,(ρ.vec kk).map (·.1)=AB a->aE w ρ kk (.vec l e g 0 y) a:=λa h=>owns_vec.2 h
 have W:jo F w l e g 0 y (ρ.vec kk):=u.ok kk _ G;have ob:aE w ρ j (.vecU sz n f k t off l y ((h,kk)::E)) b:=.inl (by simp[aX,q1]);have oi:∀q a,InnU c sz n off k ((h,kk)::E) q a->aE w ρ j (.vecU sz n f k t off l y ((h,kk)::E)) a:=λq a h=>.inr ⟨b,n,cap,c,t,q,q1,q2,h⟩
 have J:∀q,q≠h->q<n->(q<H↔q<k):=qa;have hk2:H<=n:=qa;have C:∀q a,InnU c sz n off H E q a->(q≠h/\InnU c sz n off k ((h,kk)::E) q a)\/(q=h/\(ρ.vec kk).map (·.1)=AB a):=by
  intro q a ⟨T,r2,r3,n2,Z,r4⟩;by_cases A:q=h;{cases hz:ρ.vec kk<;>grind[dA]};exact .inl ⟨A,T,(J q A T).1 r2,by grind[Dn],n2,Z,r4⟩
 have K:∀i r,Mem.get ((j,Res.vecU sz n (c9 f h off (.lst l e g)) H t off l y E)::(kk,.gone)::M) i=AB r->
  (i=j/\r=.vecU sz n (c9 f h off (.lst l e g)) H t off l y E)\/(i=kk/\r=.gone)\/(i≠j/\i≠kk/\M.get i=AB r):=by
  grind[Mem.get]
 have D:∀i r a,Mem.get ((j,Res.vecU sz n (c9 f h off (.lst l e g)) H t off l y E)::(kk,.gone)::M) i=AB r->aE w ρ i r a->
  (i=j/\(aE w ρ j (.vecU sz n f k t off l y ((h,kk)::E)) a\/aE w ρ kk (.vec l e g 0 y) a))\/(i≠j/\i≠kk/\M.get i=AB r/\aE w ρ i r a):=by
  grind[aE,cX,aX]
 refine⟨λi r hi=>?_,λi r a hi hb'=>?_,λi i' r r' a hi hi' hb1 hb2=>?_⟩
 ·rcases K i r hi with⟨rfl,rfl⟩|⟨rfl,rfl⟩|⟨d,X,N⟩
  ·refine⟨U,hk2,.inr ⟨b,cap,c,q1,q2,q3,q4,q5,q6,⟨λq A=>?_,λq jj p A Y x=>?_,λq p A ho x=>?_,λz hz=>I.hole z (List.mem_cons_of_mem _ hz),(List.nodup_cons.1 I.nodup).2,λq q' a T r2=>?_⟩,λq T=>?_⟩⟩
   ·by_cases o:q=h;{grind};rw[m q o];exact I.len q A
   ·by_cases o:q=h;{subst o;rw[s]at x;have B:=fQ (f q).cells [ae.lst l e g] off jj jX;simp only[wV]at B;rw[B,qb qa]at x;exact I.cell q jj p A Y x};rw[m q o]at x;exact I.cell q jj p A Y x
   ·by_cases o:q=h;{subst o;rw[s]at x;have B:=fQ (f q).cells [ae.lst l e g] off off jZ;simp only[wV]at B;rw[B,qc qa]at x;simp only[Nat.sub_self,zm,Option.some.injEq]at x;subst x;exact⟨_,R,Dz _,λ_=>⟨_,e,g,rfl,rfl,W⟩,λh=>qa⟩};rw[m q o]at x;obtain⟨v,v1,v2,v3,v4⟩:=I.own q p A (by rw[Dn,ho];simp[Ne.symm o]) x;exact⟨v,v1,v2,λG=>v3 ((J q o A).1 G),λG=>v4 (Nat.le_of_not_lt λh=>qa)⟩
   ·rcases C q a T with⟨o,d⟩|⟨o,d⟩<;>rcases C q' a r2 with⟨e2,X⟩|⟨e2,X⟩
    {exact I.inj q q' a d X};{exact(P (u.disj _ _ _ _ a O G (oi q a d) (S a X))).elim};{exact(P (u.disj _ _ _ _ a O G (oi q' a X) (S a d))).elim};rw[o,e2]
   rcases C q b T with⟨_,d⟩|⟨_,d⟩;{exact q8 q d};exact P (u.disj _ _ _ _ b O G ob (S b d))
  {trivial};exact u.ok i r N
 ·rcases D i r a hi hb' with⟨_,d|d⟩|⟨_,_,N,V⟩;{exact u.mine j _ _ O d};{exact u.mine kk _ _ G d};exact u.mine i r a N V
 rcases D i r a hi hb1 with⟨o,d⟩|⟨a1,a2,N,V⟩<;>rcases D i' r' a hi' hb2 with⟨e2,h1'⟩|⟨a1',a2',L,Q⟩
 {rw[o,e2]}
 ·rcases d with d|d;{exact(a1' (u.disj j i' _ r' a O L d Q).symm).elim};exact(a2' (u.disj kk i' _ r' a G L d Q).symm).elim
 ·rcases h1' with d|d;{exact(a1 (u.disj j i _ r a O N d V).symm).elim};exact(a2 (u.disj kk i _ r a G N d V).symm).elim
 exact u.disj i i' r r' a N L V Q
variable {P:qn} {o:Oper} {env:zw->ac} {m:Mem} {id:Nat}
theorem ae8{x y:zw}{out:Out}(_:o.op=.store t x y)(h:Rg P t (env x) (env y) m=AB out)(_:holds out.obl):aq P o env m id out:=by cases (show AC=AB _ from h)
theorem aap{len:Nat}{d:Array (Nat×zw)}{out:Out}(_:o.op=.buildSlice t len d)(h:OE P t len id env m d.toList=AB out):aq P o env m id out:=by cases (show AC=AB _ from h)
theorem afL{k:Nat}{out:Out}(_:o.op=.alloc t)(h:Se P k t id=AB out):aq P o env m id out:=by cases (show AC=AB _ from h)
variable {P:qn} {o:Oper} {env:zw->ac} {m:Mem} {id:Nat}
theorem afU{x:zw}{b a c:Option zw}{out:Out}(_:o.op=.slice t x b a c)
 (h:Sf P t (env x) (b.map env) (a.map env) (c.map env)=AB out) (_:holds out.obl):aq P o env m id out:=by cases (show AC=AB _ from h)
variable {l:Array qp}
theorem ae2{s x:zw}{out:Out}(_:o.op=.call {callee:=.builtin .append,args:=#[s,x],argTypes:=l})
 (_:∀t,l[0]?=AB t->l[1]?=AB t->l=#[t,t]) (h:Re P l id (env s) (env x) m=AB out) (_:holds out.obl):aq P o env m id out:=by cases (show AC=AB _ from h)
variable {P:qn} {o:Oper} {env:zw->ac} {m:Mem} {id:Nat}
theorem afT{x:zw}{y s z:Option zw}{out:Out}(j:o.op=.slice t x y s z)
 (h:Ev P t (env x) (y.map env) (s.map env) (z.map env)=AB out):aq P o env m id out:=by
 unfold Ev at h;split at h
 ·rename_i i d f g k;split at h
  ·rename_i n e l;split at h
   ·cases h;refine aq.still λF w ρ r M a _ _ c=>?_
    have b:=c x (by simp[j,zL]);rw[d]at b;generalize p:a.eval x=v at b;cases b with
    |ptr=>
     refine⟨.slice (AB ⟨ρ.blk i,0,AC⟩) n n,.value ?_,.bsl⟩;simp_all[zM,Instr.sliceAt,Instr.sliceBounds,Instr.sureAddr,zN,cz,dg]
   grind
  grind
 grind
theorem OC {k:Nat}{f:Nat->ae}:∀ {g d:List ac} {e:Nat},nX k f e g=AB d->AA d=AA g/\
 ∀j,j<AA g->∃i a b,g[j]?=AB (.pure (.int i b))/\f (e+j)=.int i a/\d[j]?=AB (.pure (.int i (if e+j<k then a else b)))
 |[],d,e,h=>by
  grind[nX]
 |c::l,d,e,h=>by
  unfold nX at h;split at h;{rename_i n;cases n}
  ·rename_i i b C n;cases n;split at h
   ·rename_i o a r t y;split at h
    ·rename_i A;subst A;cases h;obtain⟨x,p⟩:=OC y;refine⟨by simp[x],λj u=>?_⟩;cases j with
     |zero=>exact⟨o,a,b,rfl,t,rfl⟩
     |succ j=>
      obtain⟨m,B,w,v,s,z⟩:=p j (by simpa using u);exact⟨m,B,w,by simpa using v,by rw[show ∀q:Nat,q+(j+1)=q+1+j from λq=>qa];exact s,by rw[show ∀q:Nat,q+(j+1)=q+1+j from λq=>qa];simpa using z⟩
    cases h
   cases h
  cases h
theorem ahE{d s:zw}{out:Out}(ho:o.op=.call {callee:=.builtin .copy,args:=#[d,s],argTypes:=l})(hts:l.size=2)
 (h:E8 P l (env d) (env s) m=AB out):aq P o env m id out:=by
 have hop:d∈o.op.operands/\s∈o.op.operands:=by simp[ho,zL,Call.operands]
 unfold E8 at h;split at h
 ·rename_i i n k f t hd hs ht;split at h
  ·rename_i cs e hi hu;split at h
   ·rename_i cs' hcc;split at h
    ·rename_i hc;simp only[ql,qf]at hc;obtain⟨hn,hsz⟩:=hc;cases h;obtain⟨c1,c2⟩:=OC hcc;rw[List.length_take,Nat.min_eq_left hn]at c1 c2;have c2:∀j,j<n->∃V a b,cs[j]?=AB (.pure (.int V b))/\f (0+j)=.int V a/\cs'[j]?=AB (.pure (.int V (if 0+j<k then a else b))):=λj p=>by
      obtain⟨V,a,b,K,z,S⟩:=c2 j p;exact⟨V,a,b,by rw[List.getElem?_take_of_lt p]at K;exact K,z,S⟩
     obtain⟨U,rfl⟩:∃U,l=#[t,U]:=by
      refine⟨l[1]'qa,Array.ext (by simpa using hts) λq hq _=>?_⟩;have hq2:q<2:=qa
      match q,hq2 with
      |0,_=>simpa[zo (show 0<l.size from qa)]using ht
      |1,_=>simp
     intro F w ρ Mine M a hm g fr hrd hfe ha;have hM:=(hrd i jV).trans hi;obtain⟨c,X,hb,hl,hnF,J⟩:=om hm hM;have A:=hm.mine i _ _ hM (.inl rfl);have ad:=ha d hop.1;have as:=ha s hop.2;rw[hd]at ad;rw[hs]at as;have as:=as.pure_inv;obtain⟨inf,hinf,hisz⟩:=kQ hsz;have Q:(P.info? e).map (·.size)=AB 1:=by rw[hinf];simp[hisz]
     obtain⟨C,R,hv1,hvr,hrun⟩:∃C:List qq,AA C=jb k n/\(∀v∈C,v.oneCell'=true)/\(∀j V x,j<jb k n->f j=.int V x->C[j]?=AB (.int V x))/\
      (Builtin.copy_ #[t,U] o.type #[a.eval d,a.eval s]).run P w=.ok (goInt (AA C)) (w.setRow (ρ.blk i) (c.toList.take 0++C++c.toList.drop (0+AA C)).toArray):=by
      generalize hv:a.eval d=v at ad;cases ad with
      |bsl=>
       rcases as.lst_inv with⟨E,O⟩|⟨adr,L,E,O,hcm⟩|⟨b,off,L,cc,E,hnc,hcm,hsz',I,hr⟩
       ·subst O;refine⟨[],by simp[],jV,λj V x p=>by simp[]at p,?_⟩;rw[E,run_copy_nil P w t U o.type e _ n n hu (by rw[Q];rfl)];have:(c.toList.take 0++([]:List qq)++c.toList.drop (0+AA ([]:List qq))).toArray=c:=by simp
        rw[this,setRow_self w _ c X (0,0) hb];rfl
       ·subst O;have hz:jb 0 n=0:=by simp[]
        refine⟨[],by rw[hz];rfl,jV,λj V x p=>by rw[hz]at p;omega,?_⟩;rw[E];exact run_copy_row (P:=P) w t U o.type e (ρ.blk i) 0 n n adr 0 L c X [] hu Q hb (by rw[hz];rfl) (λj v h=>by simp at h) jV jV
       have hmin:jb k n<=k:=jd _ _;have hmin2:jb k n<=n:=je _ _;have cell:∀j,j<jb k n->∃V x,f j=.int V x/\w.cell? ⟨b,off+j,AC⟩=AB (.int V x):=by
        intro j p;obtain⟨V,x,b',K,z,S⟩:=c2 j qa;rw[zq]at z;have G:(f j).cells[0]?=AB (f j):=by rw[z];rfl
        have Y:=(I j 0 _ qa G).2.1;have Z:=hr j 0 _ qa G;rw[z]at Z;have h3:=Z.int_inv;simp only[jf,xz]at Y h3;exact⟨V,x,z,by rw[Y,h3]⟩
       refine⟨(List.range (jb k n)).map cc,jV,?_,?_,?_⟩
       ·intro v hv;obtain⟨j,p,rfl⟩:=xi.1 hv;have p:=xA.1 p;obtain⟨V,x,b',K,z,S⟩:=c2 j qa;rw[zq]at z;have G:(f j).cells[0]?=AB (f j):=by rw[z];rfl
        have:=(I j 0 _ qa G).2.2;simpa using this
       ·intro j V x p hf;have G:(f j).cells[0]?=AB (f j):=by rw[hf];rfl
        have Z:=hr j 0 _ qa G;rw[hf]at Z;have h3:=Z.int_inv;simp only[jf,xz]at h3;simp[p,h3]
       rw[E];refine run_copy_row (P:=P) w t U o.type e (ρ.blk i) 0 n n ⟨b,off,AC⟩ k L c X _ hu Q hb jV (λj v h=>?_) jZ ?_
       ·obtain⟨p,rfl⟩:j<jb k n/\v=cc j:=by
         rw[z9]at h;by_cases p:j<jb k n;{simp[p]at h;exact⟨p,h.symm⟩};simp[p]at h
        obtain⟨V,x,b',K,z,S⟩:=c2 j qa;rw[zq]at z;have G:(f j).cells[0]?=AB (f j):=by rw[z];rfl
        have Y:=(I j 0 _ qa G).2.1;simp only[jf,xz]at Y;rw[dg];exact Y
       intro v hv;obtain⟨j,p,rfl⟩:=xi.1 hv;have p:=xA.1 p;obtain⟨V,x,b',K,z,S⟩:=c2 j qa;rw[zq]at z;have G:(f j).cells[0]?=AB (f j):=by rw[z];rfl
       have:=(I j 0 _ qa G).2.2;simpa using this
     have hvn:AA C<=AA c.toList:=by
      have:jb k n<=n:=je k n;simp;omega
     have hran:Ran P o a w (goInt (AA C)) (w.setRow (ρ.blk i) (c.toList.take 0++C++c.toList.drop (0+AA C)).toArray):=by
      refine .value ?_;simp only[zM,ho,resolve,zC,zD,zB,invoke,builtin,jg,wY,xe,hrun]
     have st:Step Mine F w F (w.setRow (ρ.blk i) (c.toList.take 0++C++c.toList.drop (0+AA C)).toArray):=
      Step.write g hb A.1 (λo h=>absurd h (hnF o))
     refine⟨_,_,F,ρ,hran,st,λ_ _=>⟨rfl,rfl⟩,by rw[R];exact .pure .int,?_⟩;refine aG.step hm st (λ_=>True) (λ_ _=>⟨rfl,rfl⟩) [(i,_)] (λj r h hn=>⟨trivial,λk hk=>absurd trivial hk,λb hbj=>⟨?_,λ_ h=>h⟩⟩) (λj r h=>?_) (λj j' r r' b h h' _ _=>?_);{refine setRow_other w _ b _ (λe=>?_);subst e;have:=hm.disj i j _ r _ hM h (.inl rfl) hbj;subst this;simp[Mem.get]at hn}
     ·simp only[Mem.get]at h;split at h
      ·rename_i e1;subst e1;cases h;refine⟨⟨_,X,setRow_heap w _ c _ X _ hb,by simp at hvn⊢;omega,hnF,λj b v H hv=>?_⟩,λb N=>⟨?_,?_,λk r' hk hn hbk=>?_⟩⟩
       ·by_cases hjl:j<n
        rotate_left
        ·have hj2:cs[j]?=AB b:=by
          rw[List.getElem?_append_right qa,List.getElem?_drop,c1,Nat.add_sub_cancel' qa]at H;exact H
         have hvl2:AA C<=n:=by rw[R];exact je k n
         rw[ja,fQ _ _ _ _ qa,qb qa]at hv;have:=J j _ v hj2 (by simpa using hv);have B:=st;simp only[zq]at B⊢;exact⟨this.1.mono' B.sub B.cell,this.2⟩
        obtain⟨V,x,y,K,z,S⟩:=c2 j hjl;rw[List.getElem?_append_left qa,S]at H;cases H;rw[ja,fQ _ _ _ _ qa]at hv;simp only[zq]at z hv⊢;by_cases hjk:j<AA C
        ·rw[qc qa,Nat.sub_zero]at hv;have D:j<k:=by have:jb k n<=k:=jd k n;omega
         rw[hvr j V x qa z]at hv;cases hv;rw[qc D];exact⟨.pure .int,rfl⟩
        rw[qb qa]at hv;have D:¬j<k:=λhh=>hjk (by rw[R];exact Nat.lt_min.2 ⟨hh,qa⟩)
        rw[qb D];have:=J j _ v K (by simpa using hv);have B:=st;simp only[zq]at B;exact⟨this.1.mono' B.sub B.cell,this.2⟩
       {cases N.resolve_right (λh=>h);exact A.1};{cases N.resolve_right (λh=>h);simpa using A.2};cases N.resolve_right (λh=>h);have:=hm.disj i k _ r' _ hM hk (.inl rfl) hbk;subst this;simp[Mem.get]at hn
      cases h
     simp only[Mem.get]at h h';split at h
     ·split at h';{rename_i e1 e2;exact e1.symm.trans e2};cases h'
     cases h
    cases h
   cases h
  cases h
 cases h
theorem aiW{x:zw}{out:Out}(g:o.op=.call {callee:=.builtin .len,args:=#[x],argTypes:=l})(h:FG P l (env x)=AB out):aq P o env m id out:=by
 have b:x∈o.op.operands:=by grind[zL,Call.operands]
 unfold FG at h;split at h
 ·rename_i i p d n t f j;split at h
  ·cases h;refine aq.still λF w ρ k M a _ _ e=>⟨.int .i64 n,iS g ?_,.pure .int⟩
   have c:=f▸e x b;generalize a.eval x=u at c⊢;cases c<;>simp_all[Builtin.len_,zN,goInt]
  grind
 grind
theorem ab2{x i:zw}{out:Out}(d:o.op=.indexAddr t x i)(h:AM P t (env x) (env i)=AB out)(j:holds out.obl):aq P o env m id out:=by
 unfold AM at h;split at h
 ·rename_i k K J n v r A I;split at h
  ·rename_i e z;split at h
   ·cases h;obtain⟨B,D⟩:=j;refine aq.still λF w ρ G M a _ _ q=>?_
    have g:a.eval i=.int v r:=(I▸q i (by simp[d,zL])).pure_inv.int_inv;have f:=q x (by simp[d,zL]);rw[A]at f;generalize l:a.eval x=u at f;cases f with
    |viewN p y=>omega
    |@view _ _ _ _ b E H C p s c=>
     have c:=c (.inl qa);refine⟨.pointer (AB ⟨b,(J+r.toNat) * K+0,AC⟩),.value ?_,.eptr p⟩;simp only[zM,d,Instr.indexAt,zC,g,l,asIntOf,zD,zB,zN z];simp_all[cz,dg,Nat.add_mul]
   grind
  grind
 grind
theorem ae7{x:zw}{lo hi mx:Option zw}{out:Out}(ho:o.op=.slice t x lo hi mx)
 (h:DI P t (env x) (lo.map env) (hi.map env) (mx.map env) m=AB out) (N:holds out.obl):aq P o env m id out:=by
 unfold DI at h;split at h
 ·rename_i k sz j n Y hx;have J:x∈o.op.operands:=by simp[ho,zL]
  have G:∀y,lo=AB y->y∈o.op.operands:=λy s=>by grind[zL]
  have O:∀y,hi=AB y->y∈o.op.operands:=λy s=>by grind[zL]
  split at h
  ·rename_i e sz2 n2 f2 k2 e2 l B hu K X Q;split at h
   ·cases h;obtain⟨Z,h1,h2⟩:=N;refine aq.still λF w ρ Mine M a hm S H=>?_
    have L:=gq (F:=F) (w:=w) (ρ:=ρ) (a:=a) X (λy s=>H y (G y s));have R:=gq (F:=F) (w:=w) (ρ:=ρ) (a:=a) Q (λy s=>H y (O y s));have g:(lo.map a.eval=AC/\l=0)\/∃k,lo.map a.eval=AB (.int k l):=L.imp (λh=>⟨jX,qa⟩) (λh=>h);have v:(hi.map a.eval=AC/\B=n)\/∃k,hi.map a.eval=AB (.int k B):=R.imp (λh=>⟨jX,h.2⟩) (λh=>h);have hM:=(S k jV).trans K;obtain⟨_,C⟩:=hm.ok k _ hM;have q:=hx▸H x J;generalize hv:a.eval x=u at q;cases q with
    |viewN d p=>
     subst p;obtain rfl:l=0:=qa;obtain rfl:B=0:=qa;refine⟨.slice AC 0 0,.value ?_,.viewN d jV⟩;have T:=gW (P:=P) (w:=w) (isS:=true) (len:=0) (cap:=0) (lo:=lo.map a.eval) (hi:=hi.map a.eval) g qa (Int.le_refl _) (Int.le_refl _) qa;simp_all[zM,Instr.sliceAt,Instr.slice,zN,cz]
    |@view _ _ _ _ b n0 cap A z hle U=>
     rcases C with⟨d,p⟩|⟨b',V,c,r,q2,q3,q4,q5,q6,q7,q8⟩;{simp_all};rw[z]at r;cases r;have T:=gW (P:=P) (w:=w) (isS:=true) (len:=n) (cap:=cap-j) (lo:=lo.map a.eval) (hi:=hi.map a.eval) g v Z h1 qa;have f:∀i,(if cap-j=l.toNat then AB A else(AB A).map (·.add (l.toNat * sz)))=AB i->Ran P o a w (.slice (AB i) (B.toNat-l.toNat) (cap- (j+l.toNat))) w:=by
      intro i W;refine .value ?_;simp_all[Nat.sub_sub,zM,Instr.sliceAt,Instr.slice,zN,cz]
     by_cases D:cap-j=l.toNat
     ·refine⟨_,f A jW,.view z qa (λh=>?_)⟩;grind
     by_cases E:j+l.toNat<n2\/j+l.toNat=0;{have I:=U qa;subst I;exact⟨_,f _ (by rw[qb D,wx,dg]),.view z qa (λ_=>jX)⟩};exact⟨_,f (A.add (l.toNat * sz)) jW,.view z qa (λh=>absurd h E)⟩
   grind
  grind
 grind
variable {P:qn} {o:Oper} {env:zw->ac} {m:Mem} {id:Nat}
theorem ae3{s x:zw}{out:Out}(_:o.op=.call {callee:=.builtin .append,args:=#[s,x],argTypes:=l})
 (_:∀t,l[0]?=AB t->l[1]?=AB t->l=#[t,t]) (h:Rf P l id s (env s) (env x) m=AB out) (_:holds out.obl):aq P o env m id out:=by cases (show AC=AB _ from h)
theorem afV{x:zw}{b a c:Option zw}{out:Out}(_:o.op=.slice t x b a c)
 (h:Sg P t (env x) (b.map env) (a.map env) (c.map env) m=AB out) (_:holds out.obl):aq P o env m id out:=by cases (show AC=AB _ from h)
variable {P:qn} {o:Oper} {env:zw->ac} {m:Mem} {id:Nat}
theorem afE (w:qm)(a:BinOp)(t:qp)(x y:zw)(p q:Option Addr):(eqGuard a t x y (.pointer p) (.pointer q)).run P w=.ok () w:=by unfold eqGuard;cases a<;>simp
theorem ajw{i:BinOp}{x p:zw}{out:Out}(f:o.op=.binOp i t x p y)(h:F6 P i t (env x) p=AB out):aq P o env m id out:=by
 unfold F6 at h;split at h
 ·rename_i e k;have g:P.underlying t=AB (.pointer (P.pointee t)):=by simp[Program.pointee,k]
  have c:x∈o.op.operands:=by simp[f,zL]
  split at h
  all_goals first
   |(cases h;done)
   |(rename_i l
     cases h;refine aq.still λF w ρ d M a _ _ j=>?_
     have b:=j x c;rw[l]at b;generalize hv:a.eval x=v at b;cases b;refine⟨_,.value (by rw[zM,f];simp only[hv,show a.eval (.const (.pointer AC))=.pointer AC from rfl,zC,afE,run_eql_pointer_nil _ _ _ g,run_neq_pointer_nil _ _ _ g,zB,zD];rfl),?_⟩;first|exact .tt|exact .ff)
 cases h
theorem af7 {k:IntKind}:∀ (a:List ae) (l:List Int),iX k a=AB l->∀j,j<AA l->a[j]?=AB (.int k (l.getD j 0)):=by
 intro a;induction a with
 |nil=>intro l h j hj;simp[iX]at h;subst h;simp at hj
 |cons p a d=>
  intro l h j hj;cases p<;>simp only[iX]at h<;>try cases h
  split at h
  ·rename_i b;subst b;split at h
   ·rename_i r c;cases h;cases j with
    |zero=>simp
    |succ j=>simpa using d r c j ka
   cases h
  cases h
theorem ab0{x i:zw}{out:Out}(s:o.op=.indexAddr t x i)(h:AK P t (env x) (env i)=AB out)(y:holds out.obl):aq P o env m id out:=by
 unfold AK at h;split at h
 ·rename_i cs ik f Q K;split at h
  ·rename_i len e O;split at h
   ·split at h
    ·rename_i k l d;cases h;obtain⟨H,L⟩:=y;unfold te at d;split at d
     ·rename_i S R A;split at d
      ·rename_i U r;split at d
       ·rename_i G;cases d;refine aq.still λF w ρ D M a _ _ E=>?_
        have p:=(K▸E i (by simp[s,zL])).pure_inv.int_inv;have g:=E x (by simp[s,zL]);rw[Q]at g;generalize B:a.eval x=u at g;cases g with
        |@ref _ b C N=>
         obtain⟨c,I⟩:=N;have J:=af7 cs l r f.toNat qa;refine⟨.pointer (AB ⟨b,C+f.toNat,AC⟩),.value ?_,.ref ⟨λj=>c (f.toNat+j),λj q z=>?_⟩⟩;{simp only[zM,s,Instr.indexAt,zC,p,B,asIntOf,zD,zB,zN O,Instr.sureAddr];simp[H,L,cz A,dg]};cases j with
         |zero=>
          simp only[ae.cells,zm,Option.some.injEq]at z;subst z;exact I f.toNat _ J
         |succ j=>simp[ae.cells]at z
       cases d
      cases d
     cases d
    cases h
   cases h
  cases h
 cases h
theorem afW{x:zw}{lo hi mx:Option zw}{out:Out}(Y:o.op=.slice t x lo hi mx)
 (h:Ew P t (env x) (lo.map env) (hi.map env) (mx.map env) m=AB out) (Z:holds out.obl):aq P o env m id out:=by
 unfold Ew at h;split at h
 ·rename_i i ik I hx K X L;simp only[Option.map_eq_none_iff]at K L;subst K;subst L;obtain⟨y,rfl,hy⟩:=zK.1 X;split at h
  ·rename_i n e cs hu V;split at h
   ·rename_i k hps;split at h
    ·rename_i hc;simp only[ql,qf]at hc;obtain⟨⟨⟨hs,hn⟩,hn60⟩,Q⟩:=hc;cases h;obtain⟨h0,h1⟩:=Z;intro F w ρ Mine M a hm g fr hrd hfe ha;have U:=(hrd i jV).trans V;obtain⟨c,e',hb,hl,hnF,O⟩:=om hm U;obtain⟨p1,p2⟩:=gp hps;have C:=hm.mine i _ _ U (.inl rfl);have hyv:=(hy▸ha y (by simp[Y,zL])).pure_inv.int_inv;have R:=ha x (by simp[Y,zL]);rw[hx]at R;have hxv:a.eval x=.pointer (AB ⟨ρ.blk i,0,AC⟩):=by generalize a.eval x=v at R;cases R;rfl
     have st:Step Mine F w (λb o=>F b o\/b=ρ.blk i) w:=⟨λ_ _ h=>.inl h,λ_ _ _=>rfl,λb o h=>h.elim .inl (λ(e:b=ρ.blk i)=>.inr (e▸C.1)),λb o h=>h.elim (g.lt b o) (λ(e:b=ρ.blk i)=>e▸C.2),Keep.refl _ _⟩;have J:I.toNat<=n:=qa;have N:∀j p,j<I.toNat->(lget k j).cells[0]?=AB p->k[j]?=AB p/\p.scalar=true:=by
      intro j p d D;have s:j<AA k:=qa;have S:lget k j=k[j]:=by simp[lget,s]
      have z:k[j].scalar=true:=qk.1 Q _ (wi s);rw[S]at D;have:k[j].cells=[k[j]]:=by cases G:k[j]<;>first|rfl|(rw[G]at z;cases z)
      rw[this]at D;simp at D;subst D;exact⟨List.getElem?_eq_getElem s,z⟩
     have E:∀j,j<I.toNat->(lget k j).cells.length=1:=by
      intro j d;have s:j<AA k:=qa;have S:lget k j=k[j]:=by simp[lget,s]
      have z:k[j].scalar=true:=qk.1 Q _ (wi s);rw[S];cases G:k[j]<;>first|rfl|(rw[G]at z;cases z)
     have B:∀j q p,j<I.toNat->(lget k j).cells[q]?=AB p->q=0/\∃v,c[j]?=AB v/\v.oneCell'=true/\aH F w p v:=by
      intro j q p d D;have hq0:q=0:=by have:=(zZ.1 D).1;rw[E j d]at this;omega
      subst hq0;obtain⟨r1,r2⟩:=N j p d D;obtain⟨b,b1,b2⟩:=p2 j p r1;have l:j<c.size:=by rw[hl,hn];omega
      have hv:=O j b c[j] b1 (zo l);exact⟨rfl,c[j],zo l,hv.2,hv.1.toP b2⟩
     refine⟨.slice (AB ⟨ρ.blk i,0,AC⟩) I.toNat n,w,λb o=>F b o\/b=ρ.blk i,ρ,.inl ?_,st,λ_ _=>⟨rfl,rfl⟩,.pure (.sl (λq=>c.getD q undef) J (by unfold maxLen;omega) E (λj q p d D=>?_) (λj q p d D=>?_)),?_⟩;{simp only[zM,Y,Instr.sliceAt,Instr.sliceBounds,Instr.sliceBound,Instr.sureAddr,h0,h1,and_self,if_true,zC,zN hu,zB,hxv,hyv,asIntOf,Option.map_none,wx,cz hs,zD];simp[dg]}
     ·obtain⟨rfl,v,H,v2,v3⟩:=B j q p d D;have l:=(zG.1 H).1;refine⟨.inr rfl,?_,?_⟩;{have:=cell_of_row w (ρ.blk i) (0+(j * 1+0)) c e' _ hb;simpa[H,l]using this};simpa[jh,l,(zG.1 H).2]using v2
     {obtain⟨rfl,v,H,v2,v3⟩:=B j q p d D;have l:=(zG.1 H).1;have:=v3.mono (F':=λb o=>F b o\/b=ρ.blk i) (f:=w) (λ_ _ h=>.inl h) (λ_ _ _=>rfl);simpa[jh,l,(zG.1 H).2]using this};refine hm.step st (λ_=>True) (λ_ _=>⟨rfl,rfl⟩) [(i,.gone)] (λj r d hw=>⟨trivial,λ_ h=>absurd trivial h,λb A=>⟨rfl,λq G=>?_⟩⟩) (λj r d=>?_) (λj j' r r' b d hj' A _=>?_)
     ·rcases G with G|rfl;{exact G};have:=hm.disj j i r _ _ d U A (.inl rfl);subst this;simp[Mem.get]at hw
     ·simp only[Mem.get]at d;split at d;{cases d;exact⟨trivial,λb A=>by simp[aE,cX,aX]at A⟩};cases d
     simp only[Mem.get]at d;split at d;{cases d;simp[aE,cX,aX]at A};cases d
    cases h
   cases h
  cases h
 cases h
variable {P:qn} {o:Oper} {env:zw->ac} {m:Mem} {id:Nat}
theorem oO {n:Int}(a: -9223372036854775808<=n)(b:n<=9223372036854775807):IntKind.i64.wrap n=n:=by grind[IntKind.wrap,IntKind.bits,IntKind.signed]
theorem ZI{w:qm}{ρ:Env}{Mine:Nat->Prop}{M:Mem}(C:aG F w ρ Mine M)(g:bM F w Mine)(fr:dN id M){sz a:Nat}{z:List qq}{ps:List ae}{p:ae}{l c:Int}
 (hu:P.underlying t=AB (.slice y)) (hs:aQ P y=AB sz) (N:iT P y=AB a) (hz:ee P y=AB z) (hzl:AA z=sz) (u:allP (z.map eX)=AB ps) (E:ps.all (·.scalar)=true)
 (hpc:p.cells=ps) (h0:0<=l) (h1:l<=c) (h2:c<=9223372036854775807) (h3:c * a<=140737488355328):
 ∃v B F' ρ',(Instr.makeSlice t (.int .i64 l) (.int .i64 c)).run P w=.ok v B/\Step Mine F w F' B/\cA id ρ ρ'/\ak F' B ρ' (.vec id) v/\aG F' B ρ' Mine ([(id,.vec sz l.toNat (λ_=>p) 0 y)]++M):=by
 obtain⟨i,X,hi,hzv,hzz⟩:=nO hz;obtain⟨i',e,V⟩:=vA N;rw[hi]at e;cases e;have D:=oO (n:=l) qa qa;have L:=oO (n:=c) qa qa;have hbc:¬ (281474976710656<(a:Int) * c):=jX;obtain⟨A,hA⟩:∃A:Array qq,A=(ji (c.toNat * sz)).map (λx=>X.cells[x % X.cells.size]!):=⟨_,rfl⟩;have f:(Instr.makeSlice t (.int .i64 l) (.int .i64 c)).run P w=.ok (.slice (AB ⟨w.heap.size,0,AC⟩) l.toNat c.toNat) (w.alloc (.cells A y)):=by
  have Q:¬l<0:=qa;have R:¬l>c:=qa;have J:¬c<0:=qa;have k:¬ (a:Int) * c>2 ^ 48:=qa
  simp only[Instr.makeSlice,zC,zN hu,zB,asInt,asIntOf,zD,typeInfo,run_program,hi,D,L,V,cz hs,
   J,Q,R,k,decide_false,jm,jn,if_false,run_askRoom]
  by_cases hn:c.toNat * sz=0
  ·have K:A=#[]:=by simp_all
   have e0:(ji 0:Array Nat)=#[]:=jU;simp only[hn,newRow,K,e0,jg,xe];rfl
  simp_all[newRow,zeroValue,typeInfo]
 have d:A.size=c.toNat * sz:=jW;have H:∀ (q j:Nat) (x:ae),q<c.toNat->ps[j]?=AB x->∃v,A[q * sz+j]?=AB v/\v.oneCell'=true/\aH F (w.alloc (.cells A y)) x v:=by
  intro q j x I T;obtain⟨hl1,U⟩:=gp u;obtain⟨aa,m,W⟩:=U j x T;simp only[z9,zK]at m;obtain⟨v,O,rfl⟩:=m;have hr:=(nF (F:=F) (w:=w.alloc (.cells A y)) (ρ:=ρ) v).toP W;refine⟨v,?_,hr.one (qk.1 E x (z6 T)),hr⟩;grind[h7,jq,jr,jt]
 have st:Step Mine F w F (w.alloc (.cells A y)):=by
  have s:=Step.alloc g (.cells A y) (λ_=>False);simp_all
 have O:(ρ.setVec id (AB (w.heap.size,l.toNat,c.toNat))).vec id=AB (w.heap.size,l.toNat,c.toNat):=qc rfl;have hpl:AA ps=sz:=by have:=(gp u).1;simp_all
 have Z:=C.newVec fr st (AB (w.heap.size,l.toNat,c.toNat)) [] sz l.toNat 0 (λ_=>p) y
  ⟨Nat.zero_le _,.inr ⟨w.heap.size,c.toNat,A,O,heap_alloc_new w _,qa,by grind[maxLen],d,λo hF=>absurd (g.lt _ _ hF) qa,λ_ _=>jW,λq j x I T=>H q j x qa jW⟩⟩
  (λb Y=>by
   simp at Y;subst Y;exact⟨g.mine _ (wg _),jV,λq r' I _ G=>absurd (C.mine q r' _ I G).2 qa⟩)
  (λj r b hj _ S=>⟨heap_alloc_old w _ (C.mine j r b hj S).2,λ_ h=>h⟩)
 exact⟨_,_,F,_,f,st,eU ρ id _,.vec O,jW⟩
theorem Qk{x y:zw}{out:Out}(s:o.op=.makeSlice t x y)(h:rF P t id (env x) (env y)=AB out)(d:holds out.obl):aq P o env m id out:=by
 unfold rF at h;split at h
 ·rename_i l c B A;split at h
  ·rename_i e I;split at h
   ·rename_i V b z H j u;split at h
    ·rename_i n;split at h
     ·rename_i S q;split at h
      ·rename_i k
       have f:∀ (p:ae),p.cells=S->(0<=l/\l<=c/\c<=9223372036854775807/\c * b<=140737488355328)->
        aq P o env m id ⟨.vec id,[],[(id,.vec (V+1) l.toNat (λ_=>p) 0 e)],AB (0<=l/\l<=c/\c<=9223372036854775807/\c * b<=140737488355328)⟩:=by
        intro p L i F w ρ Mine M a N g K _ _ r;obtain⟨v,G,U,ρ',Q,E,C,D,J⟩:=ZI (P:=P) N g K I H j u n q k L i.1 i.2.1 i.2.2.1 i.2.2.2;have O:=(B▸r x (by simp[s,zL])).pure_inv.int_inv;have R:=(A▸r y (by simp[s,zL])).pure_inv.int_inv;exact⟨v,G,U,ρ',.value (by grind[zM,zC,zB,zD]),E,C,D,J⟩
       split at h;{cases h;exact f (.agg S) rfl d}
       ·split at h;{rename_i p;cases h;exact f p (ae.cells_scalar jW) d};grind
       grind
      grind
     grind
    grind
   grind
  grind
 grind
theorem aa9{w:qm}{R a:Nat}{z:List qq}{l c:Int}
 (e:P.underlying t=AB (.slice y)) (E:aQ P y=AB R) (f:iT P y=AB a) (F:ee P y=AB z) (u:AA z=R) (N:0<=l) (J:l<=c) (K:c<=9223372036854775807) (O:c * a<=140737488355328):
 ∃A:Array qq,(Instr.makeSlice t (.int .i64 l) (.int .i64 c)).run P w=.ok (.slice (AB ⟨w.heap.size,0,AC⟩) l.toNat c.toNat) (w.alloc (.cells A y))/\A.size=c.toNat * R/\
  ∀ (q j:Nat) (v:qq),q<c.toNat->z[j]?=AB v->A[q * R+j]?=AB v:=by
 obtain⟨i,s,S,H,B⟩:=nO F;obtain⟨M,b,p⟩:=vA f;rw[S]at b;cases b;have g:=oO (n:=l) qa qa;have o:=oO (n:=c) qa qa;have G:¬ (281474976710656<(a:Int) * c):=jX;obtain⟨A,Q⟩:∃A:Array qq,A=(ji (c.toNat * R)).map (λx=>s.cells[x % s.cells.size]!):=⟨_,rfl⟩;refine⟨A,?_,jW,λq j v I L=>?_⟩
 ·have m:¬l<0:=qa;have k:¬l>c:=qa;have h:¬c<0:=qa;have d:¬ (a:Int) * c>2 ^ 48:=qa
  simp only[Instr.makeSlice,zC,zN e,zB,asInt,asIntOf,zD,typeInfo,run_program,S,g,o,p,cz E,
   h,m,k,d,decide_false,jm,jn,if_false,run_askRoom]
  by_cases D:c.toNat * R=0
  ·have r:A=#[]:=by simp_all
   have C:(ji 0:Array Nat)=#[]:=jU;simp only[D,newRow,r,C,jg,xe];rfl
  simp_all[newRow,zeroValue,typeInfo]
 grind[h7,jq,jr,jt]
theorem ab4{x y:zw}{out:Out}(J:o.op=.makeSlice t x y)(h:AO P t id (env x) (env y)=AB out)(E:holds out.obl):aq P o env m id out:=by
 unfold AO at h;split at h
 ·rename_i l c V Y;split at h
  ·rename_i e hu;split at h
   ·rename_i W N Q B Z S;split at h
    ·rename_i sz hs';cases h;obtain⟨h0,T,h2,X⟩:=E;intro F w ρ Mine M a C g R _ _ L;have e1:=(V▸L x (by simp[J,zL])).pure_inv.int_inv;have e2:=(Y▸L y (by simp[J,zL])).pure_inv.int_inv;obtain⟨A,H,hA,n⟩:=aa9 (P:=P) (w:=w) hu Q B Z rfl h0 T h2 X;have p:∀q,q<c.toNat->A[q]?=AB (.slice AC 0 0):=λq u=>by
      have:=n q 0 _ u rfl;simp_all
     have G:Step Mine F w F (w.alloc (.cells A e)):=by
      have s:=Step.alloc g (.cells A e) (λ_=>False);simp_all
     have D:(ρ.setVec id (AB (w.heap.size,l.toNat,c.toNat))).vec id=AB (w.heap.size,l.toNat,c.toNat):=qc rfl;have f:∀q b,¬Inn A l.toNat AC q b:=by
      intro q b ⟨r1,_,n',I,O⟩;grind
     have d:∀k r,Mem.get [(id,Res.vecT sz l.toNat (λ_=>.lst sz 0 λ_=>.unk) e N AC)] k=AB r->k=id/\r=.vecT sz l.toNat (λ_=>.lst sz 0 λ_=>.unk) e N none:=by
      grind[Mem.get]
     refine⟨_,_,F,ρ.setVec id (AB (w.heap.size,l.toNat,c.toNat)),.value (by grind[zM,zC,zB,zD]),G,eU ρ id _,.vec D,aG.step C G (λi=>¬Own id i) (eU ρ id _) _ (λj r h _=>?_) (λj r h=>?_) (λj j' r K b h h' _ _=>?_)⟩
     ·obtain⟨q1,q2,q3⟩:=RC C R (.cells A e) (λ_=>False) j r h;grind
     ·obtain⟨rfl,rfl⟩:=d j r h;refine⟨⟨w.heap.size,c.toNat,A,D,heap_alloc_new w _,qa,by grind[maxLen],qa,λo U=>absurd (g.lt _ _ U) qa,λq u=>⟨_,p q qa,rfl,.inr ⟨AC,0,λ_=>.unk,rfl,rfl,wg _,.inl ⟨rfl,rfl⟩⟩⟩,λq q' b h=>absurd h (f q b),λq h=>f q _ h⟩,λb v=>?_⟩;rcases v with v|⟨b0,n0,cap,c0,e0,q,r1,r2,O⟩;{simp only[aX,D,wx,Option.some.injEq]at v;subst v;exact⟨g.mine _ (wg _),jV,λq K u _ z=>absurd (C.mine q K _ u z).2 qa⟩};grind[heap_alloc_new]
     grind
    grind
   grind
  grind
 grind
theorem Qy {s:Bool}{f:Int->Int->Int}(i:f=if s then(λa b=>max a b)else(λa b=>min a b)){k:IntKind}{F:Cells}{w:qm}{ρ:Env}:∀ (l:List ac) (p:List qq) (a r:Int),mQ f k a l=AB r->AA l=AA p->(∀ (j:Nat) (x:ac) (v:qq),l[j]?=AB x->p[j]?=AB v->ak F w ρ x v)->
 (p.foldlM (if s then Builtin.max2 else Builtin.min2) (.int k a)).run P w=.ok (.int k r) w
 |[],[],a,r,h,_,_=>by simp_all[mQ]
 |[],_::_,_,_,_,e,_=>jX
 |_::_,[],_,_,_,e,_=>jX
 |x::l,v::p,a,r,h,e,d=>by
  have g:=d 0 x v jV jV;obtain⟨b,rfl,c⟩:∃b,x=.pure (.int k b)/\mQ f k (f a b) l=AB r:=by
   match x,h with
   | .pure (.int t b),h=>
     grind[mQ]
  have m:=g.pure_inv.int_inv;have n:=Qy i l p _ r c jW (λj x v o c=>d (j+1) x v jW jW);grind[Builtin.max2,Builtin.min2]
theorem SU {b:Builtin}{mx:Bool}{i:Int->Int->Int}(g:i=if mx then(λa b=>max a b)else(λa b=>min a b)){J:Array zw}{n:Array qp}{p:ae}(G:b=if mx then .max else .min)(E:o.op=.call {callee:=.builtin b,args:=J,argTypes:=n})
 (h:sx i (J.toList.map env)=AB p):aq P o env m id (.v (.pure p)):=by
 unfold sx at h;split at h
 ·rename_i k y l f;split at h
  ·rename_i r t;cases h;refine aq.still λF w ρ K M a _ _ s=>?_
   obtain⟨x,d,e⟩:∃x d,J.toList=x::d:=by
    cases H:J.toList<;>simp_all
   rw[e,wY]at f;simp only[List.cons.injEq]at f;obtain⟨q,rfl⟩:=f;have c:∀z∈J.toList,z∈o.op.operands:=λz A=>by grind[zL,Call.operands]
   have D:=(q▸s x (c x jW)).pure_inv.int_inv;have I:=Qy (P:=P) g (F:=F) (w:=w) (ρ:=ρ) (d.map env) (d.map a.eval) y r t jV (λj u v C B=>by
    grind)
   refine⟨.int k r,.value ?_,.pure .int⟩;cases mx<;>simp_all[zM,resolve,invoke,builtin,Builtin.max_,Builtin.min_]
  grind
 grind
theorem kR {out:Out}(h:evOp P o.op id env m=AB out)(w:holds out.obl):aq P o env m id out:=by
 generalize e:o.op=op at h;cases op<;>simp only[evOp]at h
 all_goals try(cases h;done)
 case move x=>cases h;exact aiY e
 case assign x=>
  split at h
  ·rename_i J;have:x=.const (.slice AC 0 0):=by
    unfold UE at J;split at J;{rfl};cases J
   subst this;cases h;exact ajy e
  cases h;exact afP e
 case pick c x y=>
  split at h;{rename_i C;cases h;exact Un (b:=true) e C};{rename_i C;cases h;exact Un (b:=false) e C};cases h
 case alloc t=>
  split at h
  ·rename_i z S;split at h;{rename_i C;simp only[ql,qf]at C;cases h;exact ahC e S C.1 C.2};cases h
  cases h
 case box t x=>
  split at h;{rename_i C;cases h;exact ajv e C};cases h
 case build t ps=>exact ahD e h
 case buildSlice t n ps=>
  split at h;{rename_i j g;cases h;exact aaY e g};exact aao e h
 case load t a=>
  split at h;{rename_i j g;cases h;exact ahI e g w};split at h;{rename_i j g;cases h;exact ahK e g w};exact aiX e h w
 case store t a v=>
  split at h;{rename_i j g;cases h;exact ag2 e g w};split at h;{rename_i j g;cases h;exact ag4 e g w};split at h;{rename_i j g;cases h;exact ae8 e g w};split at h;{rename_i j g;cases h;exact ag1 e g};split at h;{rename_i j g;cases h;exact ag0 e g w};split at h;{rename_i j g;cases h;exact afZ e g w};exact s6 e h w
 case nilCheck x=>
  split at h<;>rename_i B<;>first|(cases h;rw[<-B];exact acP e (by rw[B];trivial))|(cases h)
 case binOp op t x y t'=>
  split at h;{rename_i j g;cases h;exact ajw e g};split at h
  ·rename_i p q D O;split at h;{rename_i r U G;cases h;exact aju e D O G w};cases h
  cases h
 case unOp op t x=>
  split at h
  ·rename_i B;split at h;{cases h;exact UT (b:=true) e B};cases h
  ·rename_i B;split at h;{cases h;exact UT (b:=false) e B};cases h
  ·rename_i p B;split at h;{rename_i r G;cases h;exact s_un e B G};cases h
  cases h
 case convert s d x=>
  split at h
  ·rename_i p D;split at h
   ·rename_i r G;split at h;{rename_i Q;cases h;exact aiV e Q D G};cases h
   cases h
  cases h
 case makeFunc fn a b=>
  split at h;{cases h;exact acO e};cases h
 case makeSlice t l c=>exact Qk e h w
 case makeMap t r=>
  split at h;{exact ae6 e h};cases h
 case lookup t x ix ok=>exact afS e h w
 case mapUpdate t x k v=>exact Ql (.inl e) h
 case insert t x k v=>exact Ql (.inr e) h
 case slice t x lo N mx=>
  split at h;{rename_i j g;cases h;exact afU e g w};split at h;{rename_i j g;cases h;exact afT e g};split at h;{rename_i j g;cases h;exact afW e g w};split at h;{rename_i j g;cases h;exact ae7 e g w};split at h;{rename_i j g;cases h;exact afV e g w};exact ahM e h w
 case fieldAddr s x f=>exact ahF e h
 case field s x f=>exact afQ e h
 case indexAddr t x i=>
  split at h;{rename_i j g;cases h;exact ab1 e g w};split at h;{rename_i j g;cases h;exact ab3 e g w};split at h;{rename_i j g;cases h;exact aaZ e g w};split at h;{rename_i j g;cases h;exact ab2 e g w};split at h;{rename_i j g;cases h;exact ab0 e g w};exact abQ e h w
 case makeInterface t x=>exact ahG e h
 case typeAssert x xt a ok=>exact afO e h
 case index t x i=>exact ahH e h w
 case range t x=>
  split at h;{rename_i s R B;cases h;exact ahL e R B};cases h
 case extract x i=>
  split at h
  ·rename_i cs B;split at h;{rename_i v hv;cases h;exact ae5 e B hv};cases h
  cases h
 case call c=>
  split at h
  ·rename_i b K;obtain⟨I,A,H⟩:=c;simp only at K h;subst K;unfold rZ at h;split at h
   ·split at h
    ·rename_i x B;have:A=#[x]:=by rw[<-ju (xs:=A),B]
     subst this;split at h;{rename_i j g;cases h;exact aiW e g};exact ajx e h
    cases h
   ·split at h
    ·rename_i d s B;have:A=#[d,s]:=by rw[<-ju (xs:=A),B]
     subst this;split at h;{rename_i E;exact ahE e E h};cases h
    cases h
   ·split at h
    ·rename_i s x B;have:A=#[s,x]:=by rw[<-ju (xs:=A),B]
     subst this;split at h
     ·rename_i E;have F:∀t,H[0]?=AB t->H[1]?=AB t->H=#[t,t]:=λt L M=>by
       refine Array.ext (by simpa using E) λi N _=>?_
       have hi2:i<2:=qa
       match i,hi2 with
       |0,_=>simpa[zo (show 0<H.size from qa)]using L
       |1,_=>simpa[zo (show 1<H.size from qa)]using M
      split at h;{rename_i j g;cases h;exact ae4 e F g w};split at h;{rename_i j g;cases h;exact ae2 e F g w};exact afN e F h w
     cases h
    cases h
   ·split at h;{rename_i p D;cases h;exact SU (mx:=false) rfl rfl e D};cases h
   ·split at h;{rename_i p D;cases h;exact SU (mx:=true) rfl rfl e D};cases h
   cases h
  cases h
end Go.Abs
