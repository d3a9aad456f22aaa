import Derived.Test.YtnfbbidmdkfilaaGreatDoorZDSoundT
import Derived.Laws.CopyRow
import Derived.Laws.Pointers
open Array renaming getElem?_eq_getElem->xL,range->zA,getElem?_eq_some_iff->xZ,getD->zJ,toArray_toList->zO
open Bool renaming and_eq_true->qm,or_eq_false_iff->qp,or_false->zK,false_eq_true->wP
open Go renaming TypeId->qq,Operand->xQ,Value->qr,World->qn,Program->qo,execOp->zb,run_underlying->zd
open Go.Op renaming operands->za
open Go.Result renaming andThen_ok->xT
open Go.Sem renaming run_bind->xU,run_pure->xV
open Int renaming le_refl->wY
open List renaming mem_of_getElem?->zu,getElem?_set_ne->zx,getElem?_map->zy,all_eq_true->ql,getElem?_of_mem->zm,getElem?_toArray->zz,getElem?_eq_some_iff->zt,length_singleton->wJ,getElem?_cons_zero->xI,range->xw,mem_map->xh,mem_range->xi,map_toArray->zG,map_cons->zn,map_nil->zH,getElem_mem->zI
open Nat renaming succ_mul->zj,mul_le_mul_right->zf,le_refl->qk,zero_le->wy,zero_add->xM,min->zB,min_def->zC,min_le_left->zD,min_le_right->zE,mul_one->zF,add_zero->xG,mul_comm->zL,mul_add_mod->zM,mod_eq_of_lt->zN
open Option renaming map_eq_some_iff->x9,map_some->ws
namespace Go.Abs
variable {P:qo} {o:Oper} {env:xQ->AVal} {m:Mem} {id:Nat}
theorem openB_true {a:List (Nat×Nat)}{i:Nat}:sz8 a i=true↔∃k,(i,k)∈a:=by
 grind[sz8]
theorem azn5 {t:qq}{x:xQ}{q:Nat}{out:Out}(ho:o.op=.load t x)(h:az4n P t q (env x) m=some out)(J:holds out.obl):Sound1 P o env m id out:=by
 unfold az4n at h;split at h
 ·rename_i j sz i hx;split at h
  ·rename_i sz' n f k e off s' e' S Z;split at h
   ·rename_i hc;simp only[qm,qf]at hc;obtain⟨⟨rfl,V⟩,R⟩:=hc
    have H:∀ (z:AVal) (ob:Option Prop),i<n->(∀ (F:Cells) (w:qn) (ρ:Env) (c:Array qr),UOk F w ρ c sz n f k off s' e' S->off<sz->∀vs:Array qr,vs.size=sz->(∀l,l<sz->vs[l]?=c[i * sz+l]?)->ARel F w ρ z (.agg vs))->
     Sound1 P o env m id ⟨z,[j],[],ob⟩:=by
     intro z ob d E;refine Sound1.still λF w ρ Mine M a L s U=>?_
     have D:=U x (by simp[ho,za]);rw[hx]at D;obtain⟨r,hkn,⟨_,hn0,_⟩|⟨b,cap,c,q1,q2,q3,q4,Y,q6,Q,q8⟩⟩:=L.ok j _ ((s j jq).trans Z)
     ·omega
     generalize hu:a.eval x=u at D;cases D with
     |eptr W=>
      have hsub:i * sz+sz<=c.size:=by rw[Y,<-zj];exact zf _ qa
      have hr:=rzd (P:=P) (t:=t) (b:=b) (off:=i * sz+0) q2 (.inl ⟨R,sz,V,qa,rfl⟩);refine⟨.agg (c.extract (i * sz+0) (i * sz+0+sz)),.value (by grind[zb,Instr.loadAt,Instr.sureAddr,xU,xV,xT]),E F w ρ c Q r _ jr λl B=>?_⟩
      simp_all
    split at h
    ·split at h
     ·have I:S=[]:=by simp_all
      subst I;cases h;obtain⟨hki,d⟩:=J;refine H _ _ d λF w ρ c A r vs O hg=>.pure (.agg (by rw[A.len i d,O]) λl p v C E=>?_)
      have B:l<sz:=jt
      by_cases G:l=off
      ·subst G;obtain⟨X,N,_,_,v4⟩:=A.own i p d rfl C
       simp_all
      ·obtain⟨X,N,_,v3⟩:=A.cell i l p d G C
       simp_all
     grind
    ·split at h
     ·rename_i h' k' K;cases h;obtain rfl:i=h':=J;have y:(i,k')∈S:=zu K;intro F w ρ Mine M a L g fr s T U;obtain⟨_,_,⟨_,_,he⟩|⟨b,cap,c,q1,q2,q3,q4,Y,q6,Q,q8⟩⟩:=L.ok j _ ((s j jq).trans Z)
      ·simp_all
      have d:=(Q.hole _ y).1;refine H _ _ d (λF w ρ c A r vs O hg=>.agg (by rw[List.length_set,List.length_map,A.len i d,O]) λl a v C E=>?_) F w ρ Mine M a L g fr s T U;have B:l<sz:=jt
      rw[hg l B]at E;by_cases G:l=off
      ·subst G;rw[(A.hole _ y).2]at E;grind[Nzp]
      ·rw[zx (Ne.symm G),zy,x9]at C;obtain⟨p,C,rfl⟩:=C;obtain⟨X,N,_,v3⟩:=A.cell i l p d G C;rw[N]at E;cases E;exact .pure v3
     grind
   grind
  grind
 grind
theorem azkm {t:qq}{x y:xQ}{j sz n i k off s' kk:Nat}{f:Nat->PVal}{e e':qq}{hs G:List (Nat×Nat)}{ps:List PVal}{ob:Option Prop}{rk:Res}(ho:o.op=.store t x y)(hsz:bzi P t=some sz)
 (hx:env x=.eptr j sz i 0) (hj:m.get j=some (.vecU sz n f k e off s' e' hs)) (_:m.get kk=some rk) (O:(env y).cells[off]?=some (.vec kk)) (hps:allP ((env y).cells.set off (.pure .unk))=some ps) (hpl:ps.length=sz) (hpsc:ps.all (·.scalar)=true)
 (hin:i<n) (h1:∀q,q≠i->sz8 G q=sz8 hs q) (h2:sz8 G i=true) (h3:∀z∈G,z=(i,kk)\/(z∈hs/\z.1≠i)) (h4:(hs.map (·.1)).Nodup->(G.map (·.1)).Nodup):
 Sound1 P o env m id ⟨.any,[j,kk],[(j,.vecU sz n (λq=>if q=i then .agg ps else f q) k e off s' e' G)],ob⟩:=by
 have run:∀ {a:Act} {w w':qn} {b off:Nat},a.eval x=.pointer (some ⟨b,off,none⟩)->(storeVar t ⟨b,off,none⟩ (a.eval y)).run P w=.ok () w'->Ran P o a w undef w':=by
  intro a w w' b off hx hr;exact .inr ⟨by simp_all[zb,Instr.storeAt,Instr.sureAddr],rfl⟩
 intro F w ρ Mine M a hm g fr hrd hfe ha;have hM:=(hrd j jq).trans hj;have hax:=ha x (by simp[ho,za]);have hay:=ha y (by simp[ho,za]);rw[hx]at hax;generalize hu:a.eval x=u at hax;cases hax with
 |eptr D=>
  rename_i b n' cap;obtain⟨H,hkn,⟨_,hn0,_⟩|⟨l,cap',c,hv',hb,hnc,hcm,hcsz,hF,hU,hnin⟩⟩:=hm.ok j _ hM
  ·omega
  rw[D]at hv';cases hv';obtain⟨hpl',hpg⟩:=kzo hps;have hyl:(env y).cells.length=sz:=jr
  have Z:(env y).cells.all (·.scalar)=true:=by
   have h5:=Qzu hps hpsc;rw[ql]at h5⊢;intro z hz;obtain⟨q,s⟩:=zm hz;by_cases e0:q=off
   ·subst e0;rw[O]at s;cases s;rfl
   ·exact h5 z (zu (i:=q) jt)
  obtain⟨hvs,hvc⟩:=hay.cells Z;have h5:∀u∈(a.eval y).cells.toList,u.oneCell'=true:=by
   grind[zm]
  have hsub:i * sz+sz<=c.size:=by rw[hcsz,<-zj];exact zf _ qa
  have hr:=ozm (P:=P) (off:=i * sz+0) hsz qa hb qa h5;have hvlen:(a.eval y).cells.toList.length=sz:=jr
  have N:∀q,((c.toList.take (i * sz+0)++(a.eval y).cells.toList++c.toList.drop (i * sz+0+(a.eval y).cells.toList.length)).toArray)[q]?=
   if i * sz<=q/\q<i * sz+sz then(a.eval y).cells[q-i * sz]? else c[q]?:=by
   intro q;rw[zz,jzm _ _ _ _ jr,hvlen];simp
  generalize hc':(c.toList.take (i * sz+0)++(a.eval y).cells.toList++c.toList.drop (i * sz+0+(a.eval y).cells.toList.length)).toArray=c' at hr N;have hsz':c'.size=cap * sz:=by
   grind
  have hbj:Owns w ρ j (.vecU sz n f k e off s' e' hs) b:=.inl (by simp[bz8,D]);have hmine:=hm.mine j _ b hM hbj;have U:Step Mine F w F (w.setRow b c'):=Step.write g hb hmine.1 (λo h=>absurd h (hF o));have T:=setRow_heap w b c c' e _ hb;have I:∀q A,q≠i->A<sz->c'[q * sz+A]?=c[q * sz+A]?:=by
   intro q A s X;rw[N,qb];rcases Nat.lt_or_gt_of_ne s with Q|hgt
   ·have:(q+1) * sz<=i * sz:=zf _ Q;rw[zj]at this;omega
   ·have:(i+1) * sz<=q * sz:=zf _ hgt;rw[zj]at this;omega
  have hnew:∀A,A<sz->c'[i * sz+A]?=(a.eval y).cells[A]?:=by
   intro A X;rw[N,qc qa];congr 1;omega
  have J:∀q l,InnU c' sz n off k G q l->InnU c sz n off k hs q l:=by
   intro q l ⟨K,V,r3,n2,cap2,r4⟩;have d:q≠i:=λe=>by subst e;rw[h2]at r3;cases r3
   rw[I q off d H]at r4;exact⟨K,V,by rw[<-h1 q d];exact r3,n2,cap2,r4⟩
  have hown:∀l,Owns (w.setRow b c') ρ j (.vecU sz n (λq=>if q=i then .agg ps else f q) k e off s' e' G) l->Owns w ρ j (.vecU sz n f k e off s' e' hs) l:=by
   intro l C;rcases C with C|⟨b0,n0,cap0,c0,e0,q,K,V,r3⟩
   ·exact .inl C
   ·rw[D]at K;cases K;rw[T]at V;cases V;exact .inr ⟨b,n,cap,c,e,q,D,hb,J q l r3⟩
  have S:∀q,Mem.get [(j,Res.vecU sz n (λq=>if q=i then .agg ps else f q) k e off s' e' G)] q=none->q≠j:=by
   intro q s R;subst R;simp[Mem.get]at s
  refine⟨undef,_,F,ρ,run hu hr,U,λ_ _=>⟨rfl,rfl⟩,.any,MemOk.step hm U (λ_=>True) (λ_ _=>⟨rfl,rfl⟩) _ (λq r h hn=>⟨trivial,λq s=>absurd trivial s,λl C=>⟨?_,λ_ h=>h⟩⟩) (λq r h=>?_) (λq q' r r' l h h' _ _=>?_)⟩
  ·refine setRow_other w b l _ (λR=>?_);subst R;exact S q hn (hm.disj j q _ r _ hM h hbj C).symm
  ·simp only[Mem.get]at h;split at h
   ·rename_i R;subst R;cases h;refine⟨⟨H,hkn,.inr ⟨b,cap,c',D,T,hnc,hcm,hsz',hF,⟨λq s=>?_,λq A p s X Y=>?_,λq p s L Y=>?_,λz hz=>?_,h4 hU.nodup,λq q' l K V=>hU.inj q q' l (J q l K) (J q' l V)⟩,λq K=>hnin q (J q b K)⟩⟩,λl C=>?_⟩
    ·by_cases d:q=i
     ·simp only[qc d];exact hpl
     ·simp only[qb d];exact hU.len q s
    ·by_cases d:q=i
     ·subst d;simp only[if_true]at Y;have Q:A<sz:=by have:=(zt.1 Y).1;rw[show(PVal.agg ps).cells=ps from rfl,hpl]at this;exact this
      obtain⟨aa,ha1,ha2⟩:=hpg A p Y;rw[zx (Ne.symm X)]at ha1;rw[hnew A Q];have B:A<(a.eval y).cells.size:=qa
      obtain⟨K,V⟩:=hvc A aa _ ha1 (xL B);exact⟨_,xL B,V,(K.toP ha2).mono U.sub U.cell⟩
     ·simp only[qb d]at Y;have Q:A<sz:=by have:=(zt.1 Y).1;rw[hU.len q s]at this;exact this
      rw[I q A d Q];obtain⟨v,v1,v2,v3⟩:=hU.cell q A p s X Y;exact⟨v,v1,v2,v3.mono U.sub U.cell⟩
    ·have d:q≠i:=λR=>by subst R;rw[h2]at L;cases L
     simp only[qb d]at Y;rw[I q off d H];rw[h1 q d]at L;obtain⟨v,v1,v2,v3,v4⟩:=hU.own q p s L Y;refine⟨v,v1,v2,λW=>?_,λW=>(v4 W).mono U.sub U.cell⟩;obtain⟨z,n2,g2,p1,p2,p3⟩:=v3 W;refine⟨z,n2,g2,p1,p2,p3.mono U.sub U.cell λl m' cap' hx'=>⟨setRow_other w b l _ (λR=>?_),λ_ h=>h⟩⟩;subst hx';exact hnin q ⟨s,W,L,m',cap',by rw[v1,p2,R];rfl⟩
    ·rcases h3 z hz with rfl|⟨z1,z2⟩
     ·refine⟨hin,?_⟩;rw[hnew off H];have B:off<(a.eval y).cells.size:=qa
      obtain⟨K,_⟩:=hvc off _ _ O (xL B);rw[xL B,az3i K]
     ·obtain⟨K,V⟩:=hU.hole z z1;exact⟨K,by rw[I z.1 off z2 H];exact V⟩
    ·obtain⟨m1,m2⟩:=hm.mine _ _ l hM (hown l C);exact⟨m1,by simpa using m2,λq r' s hn hbq=>S q hn (hm.disj _ q _ r' l hM s (hown l C) hbq).symm⟩
   ·cases h
  ·simp only[Mem.get]at h h';split at h
   ·split at h'
    ·rename_i R e2;exact R.symm.trans e2
    ·cases h'
   ·cases h
theorem azdd {a:List (Nat×Nat)}{h i k kk:Nat}(b:a[h]?=some (i,k)):(a.set h (i,kk)).map (·.1)=a.map (·.1):=by
 apply List.ext_getElem?
 grind
theorem az23 {b a:List (Nat×Nat)}(h:b.map (·.1)=a.map (·.1))(i:Nat):sz8 b i=sz8 a i:=by
 have:∀l:List (Nat×Nat),sz8 l i=(l.map (·.1)).any (·==i):=λl=>by grind[sz8]
 grind
theorem azio {t:qq}{x y:xQ}{q:Nat}{out:Out}(Q:o.op=.store t x y)(h:Xzy P t q (env x) (env y) m=some out)(u:holds out.obl):Sound1 P o env m id out:=by
 unfold Xzy at h;split at h
 ·rename_i j sz i L;split at h
  ·rename_i X n f k e off s' e' hs I;split at h
   ·rename_i kk ps p B;split at h
    ·rename_i z1 z2 z3 z4 z5 O;split at h
     ·rename_i S;simp only[qm,qf]at S;obtain⟨⟨⟨⟨rfl,A⟩,v⟩,r⟩,_⟩:=S;split at h
      ·split at h
       ·cases h;refine azkm Q A L I O p B v r u (λq s=>?_) (by simp[sz8]) (λz N=>.inl jr) (λ_=>jq)
        grind[sz8]
       grind
      ·rename_i hh;split at h
       ·rename_i T k' d;cases h;obtain rfl:i=T:=u;intro F w ρ Mine M a K g W C J ha;obtain⟨_,_,⟨_,_,Y⟩|⟨b,cap,c,q1,q2,q3,q4,q5,q6,R,q8⟩⟩:=K.ok j _ ((C j jq).trans I)
        ·rw[Y]at d;simp at d
        have E:=(R.hole _ (zu d)).1;have l:=azdd (kk:=kk) d;refine azkm Q A L I O p B v r E (λq s=>az23 l q) ?_ (λz N=>?_) (λV=>by rw[l];exact V) F w ρ Mine M a K g W C J ha
        ·rw[az23 l];exact openB_true.2 ⟨k',zu d⟩
        ·obtain⟨q,s⟩:=zm N;by_cases D:hh=q
         ·subst D;have G:=(zt.1 d).1;rw[List.getElem?_set_self G]at s;cases s;exact .inl rfl
         ·rw[zx D]at s;refine .inr ⟨zu s,λU=>D ?_⟩;have H:=R.nodup;have Z:=(zt.1 d).1;refine(List.getElem?_inj (by simpa using Z) H).1 ?_;rw[zy,zy,d,s];simp[U]
       ·cases h
     ·cases h
    ·cases h
   ·cases h
  ·cases h
 ·cases h
theorem Mzy {x:Nat×Nat}{a:List (Nat×Nat)}{i:Nat}:sz8 (x::a) i=(x.1==i||sz8 a i):=by rfl
theorem Wzo {x:Nat×Nat}{a:List (Nat×Nat)}{i:Nat}:sz8 (a++[x]) i=(sz8 a i||x.1==i):=by simp[sz8]
theorem MemOk.openU {F:Cells}{w:qn}{ρ:Env}{Mine:Nat->Prop}{M:Mem}(B:MemOk F w ρ Mine M){j sz n k off u U h d:Nat}{f g:Nat->PVal}{e y:qq}{t:List (Nat×Nat)}
 (I:M.get j=some (.vecU sz n f k e off u y t)) (hc:(f h).cells[off]?=some (.lst u U g)) (hk:h<k) (hh:sz8 t h=false)
 (hnew:M.get d=none) (hfr:∀q r,M.get q=some r->r.has d=false):
 ∃x,MemOk F w (ρ.setVec d x) Mine ((j,.vecU sz n f k e off u y (t++[(h,d)]))::(d,.vec u U g 0 y)::M):=by
 obtain⟨R,hkn,⟨_,hn0,_⟩|⟨b,cap,c,q1,q2,q3,q4,q5,q6,H,q8⟩⟩:=B.ok j _ I
 ·omega
 obtain⟨v,v1,v2,v3,_⟩:=H.own h _ qa hh hc;obtain⟨x,n2,g2,p1,p2,p3⟩:=v3 hk;cases p1;have hjn:j≠d:=λQ=>jr
 have S:∀i,i≠d->(ρ.setVec d x).vec i=ρ.vec i:=λi hi=>by simp[Env.setVec,hi]
 have J:(ρ.setVec d x).vec d=x:=by simp[Env.setVec]
 have E:∀q l,InnU c sz n off k (t++[(h,d)]) q l->InnU c sz n off k t q l/\q≠h:=by
  intro q l ⟨O,Y,r3,r4⟩;rw[Wzo,qp]at r3;exact⟨⟨O,Y,r3.1,r4⟩,λe=>jr⟩
 have hx:∀l,x.map (·.1)=some l->InnU c sz n off k t h l:=by
  intro l s;cases x with
  |none=>grind
  |some z=>
   obtain⟨z1,z2,z3⟩:=z;cases s;exact⟨qa,hk,hh,z2,z3,by rw[v1,p2];rfl⟩
 have C:∀i r,Mem.get ((j,Res.vecU sz n f k e off u y (t++[(h,d)]))::(d,.vec u U g 0 y)::M) i=some r->
  (i=j/\r=.vecU sz n f k e off u y (t++[(h,d)]))\/(i=d/\r=.vec u U g 0 y)\/(i≠j/\i≠d/\M.get i=some r):=by
  grind[Mem.get]
 have hvj:(ρ.setVec d x).vec j=some (b,n,cap):=jr
 have D:∀i r l,Mem.get ((j,Res.vecU sz n f k e off u y (t++[(h,d)]))::(d,.vec u U g 0 y)::M) i=some r->Owns w (ρ.setVec d x) i r l->
  (i=j/\(l=b\/∃q,q≠h/\InnU c sz n off k t q l))\/(i=d/\InnU c sz n off k t h l)\/(i≠j/\i≠d/\M.get i=some r/\Owns w ρ i r l):=by
  intro i r l hi s;rcases C i r hi with⟨rfl,rfl⟩|⟨rfl,rfl⟩|⟨m,h2,G⟩
  ·rcases s with s|⟨b0,n0,cap0,c0,e0,q,O,Y,r3⟩;all_goals grind[bz8]
  ·grind[owns_vec]
  ·exact .inr (.inr ⟨m,h2,G,(yzo (ρ:=ρ) (ρ':=ρ.setVec d x) ⟨rfl,S i h2⟩ (λ_ _=>rfl) l).1 s⟩)
 have ob:Owns w ρ j (.vecU sz n f k e off u y t) b:=.inl (by simp[bz8,q1]);have P:∀q l,InnU c sz n off k t q l->Owns w ρ j (.vecU sz n f k e off u y t) l:=λq l h=>.inr ⟨b,n,cap,c,e,q,q1,q2,h⟩
 refine⟨x,λi r hi=>?_,λi r l hi s=>?_,λi W r Z l hi hi' hb1 hb2=>?_⟩
 ·rcases C i r hi with⟨rfl,rfl⟩|⟨rfl,rfl⟩|⟨m,h2,G⟩
  ·refine⟨R,hkn,.inr ⟨b,cap,c,hvj,q2,q3,q4,q5,q6,⟨H.len,H.cell,λq p A ho hp=>?_,λz X=>?_,?_,λq q' l O Y=>H.inj q q' l (E q l O).1 (E q' l Y).1⟩,λq O=>q8 q (E q b O).1⟩⟩
   ·rw[Wzo,qp]at ho;exact H.own q p A ho.1 hp
   ·rw[List.mem_append,List.mem_singleton]at X;rcases X with X|rfl
    ·obtain⟨z1,z2⟩:=H.hole z X
     grind[Res.has]
    grind
   ·rw[List.map_append,List.nodup_append];refine⟨H.nodup,jq,λa ha l s Q=>?_⟩
    grind[openB_true]
  ·show _/\_;rw[J];exact p3
  ·refine(B.ok i r G).keep (λq=>q≠d) (λ_ _ h=>h) (λ_ _ _=>rfl) (λq A=>⟨rfl,S q A⟩) h2 (λq A=>?_) (λl _=>⟨rfl,λ_ h=>h⟩);have:q=d:=Classical.byContradiction λh=>A h
   subst this;exact hfr i r G
 ·rcases D i r l hi s with⟨_,rfl|⟨q,_,m⟩⟩|⟨_,m⟩|⟨_,_,G,V⟩
  ·exact B.mine j _ _ I ob
  ·exact B.mine j _ _ I (P q l m)
  ·exact B.mine j _ _ I (P h l m)
  ·exact B.mine i r l G V
 ·rcases D i r l hi hb1 with⟨Q,m⟩|⟨Q,m⟩|⟨a1,a2,G,V⟩<;>rcases D W Z l hi' hb2 with⟨e2,o⟩|⟨e2,o⟩|⟨T,a2',N,K⟩
  ·rw[Q,e2]
  ·rcases m with rfl|⟨q,A,m⟩
   ·exact(q8 h o).elim
   ·exact(A (H.inj q h l m o)).elim
  ·have L:Owns w ρ j (.vecU sz n f k e off u y t) l:=by
    rcases m with rfl|⟨q,A,m⟩
    ·exact ob
    ·exact P q l m
   exact(T (B.disj j W _ Z l I N L K).symm).elim
  ·rcases o with rfl|⟨q,A,o⟩
   ·exact(q8 h m).elim
   ·exact(A (H.inj q h l o m)).elim
  ·rw[Q,e2]
  ·exact(T (B.disj j W _ Z l I N (P h l m) K).symm).elim
  ·have L:Owns w ρ j (.vecU sz n f k e off u y t) l:=by
    rcases o with rfl|⟨q,A,m⟩
    ·exact ob
    ·exact P q l m
   exact(a1 (B.disj j i _ r l I G L V).symm).elim
  ·exact(a1 (B.disj j i _ r l I G (P h l o) V).symm).elim
  ·exact B.disj i W r Z l G N V K
theorem MemOk.closeU {F:Cells}{w:qn}{ρ:Env}{Mine:Nat->Prop}{M:Mem}(u:MemOk F w ρ Mine M){j sz n k H off l t h kk:Nat}{f g:Nat->PVal}{e y:qq}{E:List (Nat×Nat)}
 (O:M.get j=some (.vecU sz n f k e off l y ((h,kk)::E))) (G:M.get kk=some (.vec l t g 0 y)) (hkk:(k=n/\H=k)\/(h=k/\H=k+1)):
 MemOk F w ρ Mine ((j,.vecU sz n (hz0 f h off (.lst l t g)) H e off l y E)::(kk,.gone)::M):=by
 have P:j≠kk:=λo=>jr
 obtain⟨U,hkn,⟨_,hn0,hs0⟩|⟨b,cap,c,q1,q2,q3,q4,q5,q6,I,q8⟩⟩:=u.ok j _ O
 ·grind
 obtain⟨hhn,R⟩:=I.hole _ (List.mem_cons_self ..);have hfl:=I.len h hhn;have s:(hz0 f h off (.lst l t g) h).cells=(f h).cells.take off++[.lst l t g]++(f h).cells.drop (off+1):=by
  grind[hz0,ozd,PVal.cells_scalar,PVal.scalar]
 have m:∀q,q≠h->hz0 f h off (.lst l t g) q=f q:=λq A=>by simp[hz0,A]
 have S:∀a,(ρ.vec kk).map (·.1)=some a->Owns w ρ kk (.vec l t g 0 y) a:=λa h=>owns_vec.2 h
 have W:VecAt F w l t g 0 y (ρ.vec kk):=u.ok kk _ G;have ob:Owns w ρ j (.vecU sz n f k e off l y ((h,kk)::E)) b:=.inl (by simp[bz8,q1]);have oi:∀q a,InnU c sz n off k ((h,kk)::E) q a->Owns w ρ j (.vecU sz n f k e off l y ((h,kk)::E)) a:=λq a h=>.inr ⟨b,n,cap,c,e,q,q1,q2,h⟩
 have J:∀q,q≠h->q<n->(q<H↔q<k):=qa
 have hk2:H<=n:=qa
 have C:∀q a,InnU c sz n off H E q a->(q≠h/\InnU c sz n off k ((h,kk)::E) q a)\/(q=h/\(ρ.vec kk).map (·.1)=some a):=by
  intro q a ⟨T,r2,r3,n2,Z,r4⟩;by_cases A:q=h
  ·cases hz:ρ.vec kk<;>grind[gzs]
  ·exact .inl ⟨A,T,(J q A T).1 r2,by grind[Mzy],n2,Z,r4⟩
 have K:∀i r,Mem.get ((j,Res.vecU sz n (hz0 f h off (.lst l t g)) H e off l y E)::(kk,.gone)::M) i=some r->
  (i=j/\r=.vecU sz n (hz0 f h off (.lst l t g)) H e off l y E)\/(i=kk/\r=.gone)\/(i≠j/\i≠kk/\M.get i=some r):=by
  grind[Mem.get]
 have D:∀i r a,Mem.get ((j,Res.vecU sz n (hz0 f h off (.lst l t g)) H e off l y E)::(kk,.gone)::M) i=some r->Owns w ρ i r a->
  (i=j/\(Owns w ρ j (.vecU sz n f k e off l y ((h,kk)::E)) a\/Owns w ρ kk (.vec l t g 0 y) a))\/(i≠j/\i≠kk/\M.get i=some r/\Owns w ρ i r a):=by
  grind[Owns,mzh,bz8]
 refine⟨λi r hi=>?_,λi r a hi hb'=>?_,λi i' r r' a hi hi' hb1 hb2=>?_⟩
 ·rcases K i r hi with⟨rfl,rfl⟩|⟨rfl,rfl⟩|⟨d,X,N⟩
  ·refine⟨U,hk2,.inr ⟨b,cap,c,q1,q2,q3,q4,q5,q6,⟨λq A=>?_,λq jj p A Y x=>?_,λq p A ho x=>?_,λz hz=>I.hole z (List.mem_cons_of_mem _ hz),(List.nodup_cons.1 I.nodup).2,λq q' a T r2=>?_⟩,λq T=>?_⟩⟩
   ·by_cases o:q=h
    ·grind
    ·rw[m q o];exact I.len q A
   ·by_cases o:q=h
    ·subst o;rw[s]at x;have B:=jzm (f q).cells [PVal.lst l t g] off jj jt;simp only[wJ]at B;rw[B,qb qa]at x;exact I.cell q jj p A Y x
    ·rw[m q o]at x;exact I.cell q jj p A Y x
   ·by_cases o:q=h
    ·subst o;rw[s]at x;have B:=jzm (f q).cells [PVal.lst l t g] off off jv;simp only[wJ]at B;rw[B,qc qa]at x;simp only[Nat.sub_self,xI,Option.some.injEq]at x;subst x;exact⟨_,R,Gz7 _,λ_=>⟨_,t,g,rfl,rfl,W⟩,λh=>qa⟩
    ·rw[m q o]at x;obtain⟨v,v1,v2,v3,v4⟩:=I.own q p A (by rw[Mzy,ho];simp[Ne.symm o]) x;exact⟨v,v1,v2,λG=>v3 ((J q o A).1 G),λG=>v4 (Nat.le_of_not_lt λh=>qa)⟩
   ·rcases C q a T with⟨o,d⟩|⟨o,d⟩<;>rcases C q' a r2 with⟨e2,X⟩|⟨e2,X⟩
    ·exact I.inj q q' a d X
    ·exact(P (u.disj _ _ _ _ a O G (oi q a d) (S a X))).elim
    ·exact(P (u.disj _ _ _ _ a O G (oi q' a X) (S a d))).elim
    ·rw[o,e2]
   ·rcases C q b T with⟨_,d⟩|⟨_,d⟩
    ·exact q8 q d
    ·exact P (u.disj _ _ _ _ b O G ob (S b d))
  ·trivial
  ·exact u.ok i r N
 ·rcases D i r a hi hb' with⟨_,d|d⟩|⟨_,_,N,V⟩
  ·exact u.mine j _ _ O d
  ·exact u.mine kk _ _ G d
  ·exact u.mine i r a N V
 ·rcases D i r a hi hb1 with⟨o,d⟩|⟨a1,a2,N,V⟩<;>rcases D i' r' a hi' hb2 with⟨e2,h1'⟩|⟨a1',a2',L,Q⟩
  ·rw[o,e2]
  ·rcases d with d|d
   ·exact(a1' (u.disj j i' _ r' a O L d Q).symm).elim
   ·exact(a2' (u.disj kk i' _ r' a G L d Q).symm).elim
  ·rcases h1' with d|d
   ·exact(a1 (u.disj j i _ r a O N d V).symm).elim
   ·exact(a2 (u.disj kk i _ r a G N d V).symm).elim
  ·exact u.disj i i' r r' a N L V Q
variable {P:qo} {o:Oper} {env:xQ->AVal} {m:Mem} {id:Nat}
theorem az4z {f:Nat->PVal}{h off sz:Nat}(b:(f h).cells.length=sz)(a:off<sz):(hz0 f h off .unk h).cells=(f h).cells.take off++[PVal.unk]++(f h).cells.drop (off+1):=by
 grind[hz0,ozd,PVal.cells_scalar,PVal.scalar]
theorem azdf {a:Type}{A B:List a}{u v:a}{off:Nat}(h:A.length=off):(A++[u]++B).take off++[v]++(A++[u]++B).drop (off+1)=A++[v]++B:=by
 simp_all[List.drop_append]
theorem Yzs (x:PVal){a ds:List PVal}(b:x.cells.length=a.length)(c:a.length=ds.length)(d:∀l,(∀l,x≠ .agg l)->a=[PVal.agg l]->False):Hz7 (Hz7 x a) ds=Hz7 x ds:=by
 cases x with
 |agg l=>rfl
 |_=>
  match a,ds,b,c with
  |[q],[r],_,_=>cases q<;>first|rfl|exact(d _ jq rfl).elim
theorem az50 {f:Nat->PVal}{h off sz:Nat}(b:(f h).cells.length=sz)(a:off<sz):hz0 (hz0 f h off .unk) h off .unk=hz0 f h off .unk:=by
 grind[az4z,hz0,azdf,Yzs]
theorem MemOk.unX {F:Cells}{w:qn}{ρ:Env}{Mine:Nat->Prop}{M:Mem}{j sz n d off k:Nat}{f:Nat->PVal}{e:qq}(m:MemOk F w ρ Mine M)(s:M.get j=some (.vecX sz n f e d off k)):
 MemOk F w ρ Mine ((j,.vec sz n (hz0 f d off .unk) 0 e)::M):=by
 have c:∀i r,Mem.get ((j,Res.vec sz n (hz0 f d off .unk) 0 e)::M) i=some r->(i=j/\r=.vec sz n (hz0 f d off .unk) 0 e)\/M.get i=some r:=by
  grind[Mem.get]
 have a:∀i r,Mem.get ((j,Res.vec sz n (hz0 f d off .unk) 0 e)::M) i=some r->∃g,M.get i=some g/\∀b,Owns w ρ i r b->Owns w ρ i g b:=by
  intro i r h;rcases c i r h with⟨rfl,rfl⟩|h
  ·exact⟨_,s,λb l=>l⟩
  simp_all
 refine⟨λi r h=>?_,λi r b h l=>?_,λi x r g b h t l p=>?_⟩
 ·rcases c i r h with⟨rfl,rfl⟩|h
  ·exact(m.ok _ _ s).1
  ·exact m.ok _ _ h
 ·obtain⟨g,o,q⟩:=a i r h;exact m.mine _ _ _ o (q b l)
 ·obtain⟨z,o,q⟩:=a i r h;obtain⟨y,u,v⟩:=a x g t;exact m.disj _ _ _ _ b o u (q b l) (v b p)
theorem MemOk.sameX {F:Cells}{w:qn}{ρ:Env}{Mine:Nat->Prop}{M:Mem}{j sz n a off k:Nat}{f:Nat->PVal}{e:qq}{q:Res}
 (s:MemOk F w ρ Mine ([(j,.vecX sz n (hz0 f a off .unk) e a off k)]++((j,q)::M))) (z:(f a).cells.length=sz) (B:off<sz):
 MemOk F w ρ Mine ([(j,.vecX sz n f e a off k)]++M):=by
 have y:Mem.get ([(j,Res.vecX sz n (hz0 f a off .unk) e a off k)]++((j,q)::M)) j=some (.vecX sz n (hz0 f a off .unk) e a off k):=by simp[Mem.get]
 have g:∀i r,Mem.get ([(j,Res.vecX sz n f e a off k)]++M) i=some r->(i=j/\r=.vecX sz n f e a off k)\/Mem.get ([(j,Res.vecX sz n (hz0 f a off .unk) e a off k)]++((j,q)::M)) i=some r:=by
  grind[Mem.get]
 have d:∀i r,Mem.get ([(j,Res.vecX sz n f e a off k)]++M) i=some r->∃o,Mem.get ([(j,Res.vecX sz n (hz0 f a off .unk) e a off k)]++((j,q)::M)) i=some o/\∀b,Owns w ρ i r b->Owns w ρ i o b:=by
  intro i r h;rcases g i r h with⟨rfl,rfl⟩|h
  ·exact⟨_,y,λb p=>p⟩
  simp_all
 refine⟨λi r h=>?_,λi r b h p=>?_,λi C r o b h D p t=>?_⟩
 ·rcases g i r h with⟨rfl,rfl⟩|h
  ·obtain⟨x,b,cap,c,m,l,v,u,_,A⟩:=s.ok _ _ y;rw[az50 z B]at x;exact⟨x,b,cap,c,m,l,v,u,z,A⟩
  ·exact s.ok _ _ h
 ·obtain⟨o,m,l⟩:=d i r h;exact s.mine _ _ _ m (l b p)
 ·obtain⟨G,m,l⟩:=d i r h;obtain⟨E,v,u⟩:=d C o D;exact s.disj _ _ _ _ b m v (l b p) (u b t)
theorem azeq {t:qq}{x y:xQ}{out:Out}(_:o.op=.store t x y)(h:az17 P t (env x) (env y) m=some out)(_:holds out.obl):Sound1 P o env m id out:=by cases (show none=some _ from h)
theorem azej {t e:qq}{s:Nat}{x:xQ}{b:Array (Nat×xQ)}{f:List qr}{a:Act}{w:qn}(p:o.op=.buildSlice t 1 b)(y:b.toList=[(0,x)])(h:P.underlying t=some (.slice e))(i:bzi P e=some s)(l:1<=s)(n:s<=16777216)(c:mzg P e=some f)(r:(a.eval x).cells.size=s):
 ∃A:Array qr,(zb a.eval o).run P w=.ok (.value (.slice (some ⟨w.heap.size,0,none⟩) 1 1)) (w.alloc (.cells A e))/\∀j,j<s->A[j]?=(a.eval x).cells[j]?:=by
 obtain⟨d,k,_⟩:=Lzi (P:=P) (w:=w) c;obtain⟨A,u,q,v,m⟩:=Fzw s [a.eval x] 0 ((zA (1 * s)).map (d.cells[· % d.cells.size]!)) jr jq;refine⟨A,?_,λj g=>by simpa using m 0 (a.eval x) jq j g⟩;simp only[zb,p,Instr.buildSlice,xU,zd h,xT,bzx i];rw[qb qa,qb qa]
 simp_all[newRow]
theorem Zzl {t:qq}{len:Nat}{d:Array (Nat×xQ)}{out:Out}(_:o.op=.buildSlice t len d)(h:Jzu P t len id env m d.toList=some out):Sound1 P o env m id out:=by cases (show none=some _ from h)
theorem az68 {F:Cells}{w:qn}{ρ:Env}:∀ (l:List qr) (k id:Nat),(∀i,id<=i->i<id+l.length->ρ.vec i=none)->
 (Fzt k id l).length=l.length/\∀ (j:Nat) (a:AVal) (v:qr),(Fzt k id l)[j]?=some a->l[j]?=some v->ARel F w ρ a v
 |[],k,id,_=>by simp[Fzt]
 |x::l,k,id,h=>by
  have f:=az68 (F:=F) (w:=w) (ρ:=ρ) l (k / 2) (id+1) (λi g d=>h i qa jt);have c:∀ (b:AVal),ARel F w ρ b x->(b::Fzt (k / 2) (id+1) l).length=(x::l).length/\∀ (j:Nat) (a:AVal) (v:qr),(b::Fzt (k / 2) (id+1) l)[j]?=some a->(x::l)[j]?=some v->ARel F w ρ a v:=by
   grind
  unfold Fzt;split
  ·simp_all
  ·rename_i e;cases e;refine c _ ?_;split
   ·exact .pure .nil
   ·exact .vnil (h id (qk _) jq)
  grind[gzy]
theorem azi6 {e:qq}{k:Nat}{out:Out}(_:o.op=.alloc e)(h:az6u P k e id=some out):Sound1 P o env m id out:=by cases (show none=some _ from h)
variable {P:qo} {o:Oper} {env:xQ->AVal} {m:Mem} {id:Nat}
theorem Jz8 {w:qn}{len cap:Nat}{h:Int}{k k':IntKind}(a:0<=h)(c:h<=cap):
 (Instr.sliceBounds true len cap none (some (.int k h)) (some (.int k' h))).run P w=.ok (0,h.toNat,h.toNat) w:=by
 have b:h<=(h.toNat:Int):=qa
 simp_all[Instr.sliceBounds,Instr.sliceBound,asIntOf]
theorem aznq {t:qq}{x hi mx:xQ}{e:qq}{sz n:Nat}{f:Nat->PVal}{h:Int}{k k':IntKind}(I:o.op=.slice t x none (some hi) (some mx))(G:P.underlying t=some (.slice e))(H:bzi P e=some sz)
 {F:Cells} {w:qn} {ρ:Env} {a:Act} (A:PRel F w (.lst sz n f) (a.eval x)) (z:a.eval hi=.int k h) (D:a.eval mx=.int k' h) (C:0<=h) (E:h<=n):
 ∃v,Ran P o a w v w/\ARel F w ρ (.clip (.lst sz h.toNat f)) v:=by
 rcases A.lst_inv with⟨r,g⟩|⟨B,cap,r,g,q⟩|⟨b,off,cap,c,r,s,q,l,u,y⟩
 ·obtain rfl:h=0:=qa
  have d:=Jz8 (P:=P) (w:=w) (len:=0) (cap:=0) (k:=k) (k':=k') (wY 0) (wY 0);refine⟨.slice none 0 0,.value ?_,.clip .nil⟩
  simp_all[zb,Instr.sliceAt,Instr.slice,zd,bzx]
 ·obtain rfl:h=0:=qa
  have d:=Jz8 (P:=P) (w:=w) (len:=0) (cap:=cap) (k:=k) (k':=k') (wY 0) qa;refine⟨.slice (some B) 0 0,.value ?_,.clip (.emp (wy _))⟩
  simp_all[zb,Instr.sliceAt,Instr.slice,zd,bzx]
 ·have d:=Jz8 (P:=P) (w:=w) (len:=n) (cap:=cap) (k:=k) (k':=k') C qa;refine⟨.slice (some ⟨b,off,none⟩) h.toNat h.toNat,.value ?_,.clip (.sl c (qk _) qa (λi hi=>l i qa) (λi j p hi m=>u i j p qa m) (λi j p hi m=>y i j p qa m))⟩
  simp_all[eze,zb,Instr.sliceAt,Instr.slice,zd,bzx]
theorem Qzy {F:Cells}{w:qn}{ρ:Env}{Mine:Nat->Prop}{M:Mem}(E:MemOk F w ρ Mine M)(g:Good F w Mine)(fr:Fresh id M){t ty e:qq}{i:TypeInfo}{z:qr}{sz d k n:Nat}{f h:Nat->PVal}
 (S:P.underlying t=some (.slice e)) (hi:P.info? e=some i) (hz:i.zero=some z) (V:i.size=sz) (Q:i.bytes=d) (y:z.cells.size=sz)
 (A:Addr) (olds:List qr) (B:olds.length=n * sz) (b:∀ (j:Nat) (u:qr),olds[j]?=some u->w.cell? (A.add j)=some u)
 (Z:∀i,i<n->(f i).cells.length=sz) (q8:∀ (i j:Nat) (p:PVal),i<n->(f i).cells[j]?=some p->∃u,olds[i * sz+j]?=some u/\u.oneCell'=true/\PRel F w p u)
 (N:qr) (news:List qr) (l:az89 F w sz k h N news) (hb:(n+k) * d<=140737488355328) (I:n+k<=maxLen) (hk0:0<k):
 ∃v o F' ρ',(Builtin.append_ #[t,t] ty #[.slice (some A) n n,N]).run P w=.ok v o/\Step Mine F w F' o/\dz4 id ρ ρ'/\ARel F' o ρ' (.vec id) v/\
  MemOk F' o ρ' Mine ([(id,.vec sz (n+k) (appF n f h) 0 e)]++M):=by
 obtain⟨R,U,O,hg,hel⟩:=l;rcases U with⟨rfl,h0⟩|⟨Y,cx,rfl,a⟩
 ·omega
 ·have K:n+k<=9223372036854775807:=by simpa[maxLen]using I
  have X:=run_append_grow (P:=P) w t ty e i z S hi hz A n n olds jr b Y k cx news jr a qa qa (growslice_fits qa jr);have x:=grownCap_ge w (n+k) n e;have C:=grownCap_le_maxLen w (n+k) n e I;have J:Step Mine F w F (w.drew.alloc (.cells (olds.toArray++news.toArray++Builtin.zeroCells z.cells (grownCap w (n+k) n e- (n+k))) e)):=by
   have G:=Step.draw g;have s2:=Step.alloc (G.good g) (.cells (olds.toArray++news.toArray++Builtin.zeroCells z.cells (grownCap w (n+k) n e- (n+k))) e) (λ_=>False);have s3:=G.trans s2
   simp_all
  have m:=Mzw (id:=id) (ρ:=ρ) g (n:=n) (k:=k) (f:=f) (h:=h) (olds:=olds) (news:=news) (z:=z) (e:=e) (cap:=grownCap w (n+k) n e) 0 (wy _) y B R x C Z hg q8
   (λi j p hi hp=>jt)
  have hv:(ρ.setVec id (some (w.heap.size,n+k,grownCap w (n+k) n e))).vec id=some (w.heap.size,n+k,grownCap w (n+k) n e):=qc rfl;have L:=E.newVec fr J (some (w.heap.size,n+k,grownCap w (n+k) n e)) [] sz (n+k) 0 (appF n f h) e m (λH c=>by
   simp at c;subst c;exact⟨g.mine _ (qk _),jq,λq r' W _ D=>absurd (E.mine q r' _ W D).2 qa⟩) (λj r H T _ s=>⟨heap_alloc_old w.drew _ (E.mine j r H T s).2,λ_ h=>h⟩)
  exact⟨_,_,F,ρ.setVec id (some (w.heap.size,n+k,grownCap w (n+k) n e)),X,J,cz0 ρ id _,.vec hv,jr⟩
theorem azkv {F:Cells}{w:qn}{ρ:Env}{Mine:Nat->Prop}{M:Mem}(O:MemOk F w ρ Mine M)(g:Good F w Mine)(N:Fresh id M){t ty e:qq}{i:TypeInfo}{z:qr}{sz C k n:Nat}{f h:Nat->PVal}
 (I:P.underlying t=some (.slice e)) (hi:P.info? e=some i) (J:i.zero=some z) (m:i.size=sz) (l:i.bytes=C) (s:z.cells.size=sz) (K:0<sz)
 {S:qr} (Q:ARel F w ρ (.clip (.lst sz n f)) S)
 (B:qr) (news:List qr) (d:az89 F w sz k h B news) (H:(n+k) * C<=140737488355328) (G:n+k<=maxLen) (D:0<k):
 ∃v E F' ρ',(Builtin.append_ #[t,t] ty #[S,B]).run P w=.ok v E/\Step Mine F w F' E/\dz4 id ρ ρ'/\ARel F' E ρ' (.vec id) v/\
  MemOk F' E ρ' Mine ([(id,.vec sz (n+k) (appF n f h) 0 e)]++M):=by
 cases Q with
 |@clip _ a n' R=>
  rcases R.lst_inv with⟨r,o⟩|⟨X,cap,r,o,L⟩|⟨b,off,cap,c,r,V,L,A,hc,Z⟩
  ·subst o;rw[r];have y:appF 0 f h=h:=by rfl
   simp only[xM,y]at H G⊢;simpa using append_nil (P:=P) (ty:=ty) O g N I hi J m l s [] B news d H G
  ·subst o;rw[r];simp only[Value.slice.injEq]at r;obtain rfl:cap=0:=qa
   exact Qzy O g N I hi J m l s X [] jq jq (λi hi=>qa) (λi j p hi R=>qa) B news d H G D
  ·rw[r];simp only[Value.slice.injEq]at r;obtain rfl:cap=n:=qa
   have x:∀q,((xw (cap * sz)).map c)[q]?=if q<cap * sz then some (c q)else none:=by
    grind
   refine Qzy O g N I hi J m l s ⟨b,off,none⟩ ((xw (cap * sz)).map c) jq (λj u T=>?_) A (λi j p hi R=>?_) B news d H G D
   ·rw[x]at T;split at T
    ·have Y:j / sz<cap:=Nat.div_lt_of_lt_mul jt;have U:j % sz<sz:=Nat.mod_lt _ K;have W:(f (j / sz)).cells[j % sz]?=some ((f (j / sz)).cells[j % sz]'jr):=by simp_all
     grind[Nat.div_add_mod,eze]
    simp_all
   grind[vzl]
theorem azif {t:qq}{x:xQ}{lo hi mx:Option xQ}{out:Out}(_:o.op=.slice t x lo hi mx)
 (h:az6v P t (env x) (lo.map env) (hi.map env) (mx.map env)=some out) (_:holds out.obl):Sound1 P o env m id out:=by cases (show none=some _ from h)
theorem azek {s x:xQ}{l:Array qq}{out:Out}(_:o.op=.call {callee:=.builtin .append,args:=#[s,x],argTypes:=l})
 (_:∀t,l[0]?=some t->l[1]?=some t->l=#[t,t]) (h:az15 P l id (env s) (env x) m=some out) (_:holds out.obl):Sound1 P o env m id out:=by cases (show none=some _ from h)
variable {P:qo} {o:Oper} {env:xQ->AVal} {m:Mem} {id:Nat}
theorem azie {t:qq}{x:xQ}{lo hi mx:Option xQ}{out:Out}(j:o.op=.slice t x lo hi mx)
 (h:Xzq P t (env x) (lo.map env) (hi.map env) (mx.map env)=some out):Sound1 P o env m id out:=by
 unfold Xzq at h;split at h
 ·rename_i i d f g k;split at h
  ·rename_i n e l;split at h
   ·cases h;refine Sound1.still λF w ρ Mine M a _ _ c=>?_
    have b:=c x (by simp[j,za]);rw[d]at b;generalize p:a.eval x=v at b;cases b with
    |ptr=>
     refine⟨.slice (some ⟨ρ.blk i,0,none⟩) n n,.value ?_,.bsl⟩
     simp_all[zb,Instr.sliceAt,Instr.sliceBounds,Instr.sureAddr,zd,bzx,eze]
   grind
  grind
 grind
theorem Jzp {k:Nat}{f:Nat->PVal}:∀ {g d:List AVal} {e:Nat},Dz2 k f e g=some d->d.length=g.length/\
 ∀j,j<g.length->∃i a b,g[j]?=some (.pure (.int i b))/\f (e+j)=.int i a/\d[j]?=some (.pure (.int i (if e+j<k then a else b)))
 |[],d,e,h=>by
  grind[Dz2]
 |c::l,d,e,h=>by
  unfold Dz2 at h;split at h
  ·rename_i n;cases n
  ·rename_i i b C n;cases n;split at h
   ·rename_i o a r t y;split at h
    ·rename_i A;subst A;cases h;obtain⟨x,p⟩:=Jzp y;refine⟨by simp[x],λj u=>?_⟩;cases j with
     |zero=>exact⟨o,a,b,rfl,t,rfl⟩
     |succ j=>
      obtain⟨m,B,w,v,s,z⟩:=p j (by simpa using u);exact⟨m,B,w,by simpa using v,by rw[show ∀q:Nat,q+(j+1)=q+1+j from λq=>qa];exact s,by rw[show ∀q:Nat,q+(j+1)=q+1+j from λq=>qa];simpa using z⟩
    ·cases h
   ·cases h
  ·cases h
theorem azn0 {d s:xQ}{ts:Array qq}{out:Out}(ho:o.op=.call {callee:=.builtin .copy,args:=#[d,s],argTypes:=ts})(hts:ts.size=2)
 (h:az4h P ts (env d) (env s) m=some out):Sound1 P o env m id out:=by
 have hop:d∈o.op.operands/\s∈o.op.operands:=by simp[ho,za,Call.operands]
 unfold az4h at h;split at h
 ·rename_i i n k f t hd hs ht;split at h
  ·rename_i cs e hi hu;split at h
   ·rename_i cs' hcc;split at h
    ·rename_i hc;simp only[qm,qf]at hc;obtain⟨hn,hsz⟩:=hc;cases h;obtain⟨c1,c2⟩:=Jzp hcc;rw[List.length_take,Nat.min_eq_left hn]at c1 c2;have c2:∀j,j<n->∃kd a b,cs[j]?=some (.pure (.int kd b))/\f (0+j)=.int kd a/\cs'[j]?=some (.pure (.int kd (if 0+j<k then a else b))):=λj hj=>by
      obtain⟨kd,a,b,q1,q2,q3⟩:=c2 j hj;exact⟨kd,a,b,by rw[List.getElem?_take_of_lt hj]at q1;exact q1,q2,q3⟩
     obtain⟨t2,rfl⟩:∃t2,ts=#[t,t2]:=by
      refine⟨ts[1]'qa,Array.ext (by simpa using hts) λq hq _=>?_⟩;have hq2:q<2:=qa
      match q,hq2 with
      |0,_=>simpa[xL (show 0<ts.size from qa)]using ht
      |1,_=>simp
     intro F w ρ Mine M a hm g fr hrd hfe ha;have hM:=(hrd i jq).trans hi;obtain⟨c,e',hb,hl,hnF,hrel⟩:=Rz1 hm hM;have hmine:=hm.mine i _ _ hM (.inl rfl);have ad:=ha d hop.1;have as:=ha s hop.2;rw[hd]at ad;rw[hs]at as;have as:=as.pure_inv;obtain⟨inf,hinf,hisz⟩:=iz9 hsz;have hs1:(P.info? e).map (·.size)=some 1:=by rw[hinf];simp[hisz]
     obtain⟨vs,hvl,hv1,hvr,hrun⟩:∃vs:List qr,vs.length=zB k n/\(∀v∈vs,v.oneCell'=true)/\(∀j kd x,j<zB k n->f j=.int kd x->vs[j]?=some (.int kd x))/\
      (Builtin.copy_ #[t,t2] o.type #[a.eval d,a.eval s]).run P w=.ok (goInt vs.length) (w.setRow (ρ.blk i) (c.toList.take 0++vs++c.toList.drop (0+vs.length)).toArray):=by
      generalize hv:a.eval d=v at ad;cases ad with
      |bsl=>
       rcases as.lst_inv with⟨hv2,hn0⟩|⟨adr,cap,hv2,hn0,hcm⟩|⟨b,off,cap,cc,hv2,hnc,hcm,hsz',hcl,hr⟩
       ·subst hn0;refine⟨[],by simp[],jq,λj kd x hj=>by simp[]at hj,?_⟩;rw[hv2,run_copy_nil P w t t2 o.type e _ n n hu (by rw[hs1];rfl)];have:(c.toList.take 0++([]:List qr)++c.toList.drop (0+([]:List qr).length)).toArray=c:=by simp
        rw[this,setRow_self w _ c e' (0,0) hb];rfl
       ·subst hn0;have hz:zB 0 n=0:=by simp[]
        refine⟨[],by rw[hz];rfl,jq,λj kd x hj=>by rw[hz]at hj;omega,?_⟩;rw[hv2];exact run_copy_row (P:=P) w t t2 o.type e (ρ.blk i) 0 n n adr 0 cap c e' [] hu hs1 hb (by rw[hz];rfl) (λj v h=>by simp at h) jq jq
       ·have hmin:zB k n<=k:=zD _ _;have hmin2:zB k n<=n:=zE _ _;have cell:∀j,j<zB k n->∃kd x,f j=.int kd x/\w.cell? ⟨b,off+j,none⟩=some (.int kd x):=by
         intro j hj;obtain⟨kd,x,b',q1,q2,q3⟩:=c2 j qa;rw[xM]at q2;have hp:(f j).cells[0]?=some (f j):=by rw[q2];rfl
         have h1:=(hcl j 0 _ qa hp).2.1;have h2:=hr j 0 _ qa hp;rw[q2]at h2;have h3:=h2.int_inv;simp only[zF,xG]at h1 h3;exact⟨kd,x,q2,by rw[h1,h3]⟩
        refine⟨(xw (zB k n)).map cc,jq,?_,?_,?_⟩
        ·intro v hv;obtain⟨j,hj,rfl⟩:=xh.1 hv;have hj:=xi.1 hj;obtain⟨kd,x,b',q1,q2,q3⟩:=c2 j qa;rw[xM]at q2;have hp:(f j).cells[0]?=some (f j):=by rw[q2];rfl
         have:=(hcl j 0 _ qa hp).2.2;simpa using this
        ·intro j kd x hj hf;have hp:(f j).cells[0]?=some (f j):=by rw[hf];rfl
         have h2:=hr j 0 _ qa hp;rw[hf]at h2;have h3:=h2.int_inv;simp only[zF,xG]at h3;simp[hj,h3]
        ·rw[hv2];refine run_copy_row (P:=P) w t t2 o.type e (ρ.blk i) 0 n n ⟨b,off,none⟩ k cap c e' _ hu hs1 hb jq (λj v h=>?_) jv ?_
         ·obtain⟨hj,rfl⟩:j<zB k n/\v=cc j:=by
           rw[zy]at h;by_cases hj:j<zB k n
           ·simp[hj]at h;exact⟨hj,h.symm⟩
           ·simp[hj]at h
          obtain⟨kd,x,b',q1,q2,q3⟩:=c2 j qa;rw[xM]at q2;have hp:(f j).cells[0]?=some (f j):=by rw[q2];rfl
          have h1:=(hcl j 0 _ qa hp).2.1;simp only[zF,xG]at h1;rw[eze];exact h1
         ·intro v hv;obtain⟨j,hj,rfl⟩:=xh.1 hv;have hj:=xi.1 hj;obtain⟨kd,x,b',q1,q2,q3⟩:=c2 j qa;rw[xM]at q2;have hp:(f j).cells[0]?=some (f j):=by rw[q2];rfl
          have:=(hcl j 0 _ qa hp).2.2;simpa using this
     have hvn:vs.length<=c.toList.length:=by
      have:zB k n<=n:=zE k n;simp;omega
     have hran:Ran P o a w (goInt vs.length) (w.setRow (ρ.blk i) (c.toList.take 0++vs++c.toList.drop (0+vs.length)).toArray):=by
      refine .value ?_;simp only[zb,ho,resolve,xU,xV,xT,invoke,builtin,zG,zn,zH,hrun]
     have st:Step Mine F w F (w.setRow (ρ.blk i) (c.toList.take 0++vs++c.toList.drop (0+vs.length)).toArray):=
      Step.write g hb hmine.1 (λo h=>absurd h (hnF o))
     refine⟨_,_,F,ρ,hran,st,λ_ _=>⟨rfl,rfl⟩,by rw[hvl];exact .pure .int,?_⟩;refine MemOk.step hm st (λ_=>True) (λ_ _=>⟨rfl,rfl⟩) [(i,_)] (λj r h hn=>⟨trivial,λk hk=>absurd trivial hk,λb hbj=>⟨?_,λ_ h=>h⟩⟩) (λj r h=>?_) (λj j' r r' b h h' _ _=>?_)
     ·refine setRow_other w _ b _ (λe=>?_);subst e;have:=hm.disj i j _ r _ hM h (.inl rfl) hbj;subst this;simp[Mem.get]at hn
     ·simp only[Mem.get]at h;split at h
      ·rename_i e1;subst e1;cases h;refine⟨⟨_,e',setRow_heap w _ c _ e' _ hb,by simp at hvn⊢;omega,hnF,λj b v hb' hv=>?_⟩,λb hbb=>⟨?_,?_,λk r' hk hn hbk=>?_⟩⟩
       ·by_cases hjl:j<n
        rotate_left
        ·have hj2:cs[j]?=some b:=by
          rw[List.getElem?_append_right qa,List.getElem?_drop,c1,Nat.add_sub_cancel' qa]at hb';exact hb'
         have hvl2:vs.length<=n:=by rw[hvl];exact zE k n
         rw[zz,jzm _ _ _ _ qa,qb qa]at hv;have:=hrel j _ v hj2 (by simpa using hv);have st':=st;simp only[xM]at st'⊢;exact⟨this.1.mono' st'.sub st'.cell,this.2⟩
        obtain⟨kd,x,y,q1,q2,q3⟩:=c2 j hjl;rw[List.getElem?_append_left qa,q3]at hb';cases hb';rw[zz,jzm _ _ _ _ qa]at hv;simp only[xM]at q2 hv⊢;by_cases hjk:j<vs.length
        ·rw[qc qa,Nat.sub_zero]at hv;have hjk':j<k:=by have:zB k n<=k:=zD k n;omega
         rw[hvr j kd x qa q2]at hv;cases hv;rw[qc hjk'];exact⟨.pure .int,rfl⟩
        ·rw[qb qa]at hv;have hjk':¬j<k:=λhh=>hjk (by rw[hvl];exact Nat.lt_min.2 ⟨hh,qa⟩)
         rw[qb hjk'];have:=hrel j _ v q1 (by simpa using hv);have st':=st;simp only[xM]at st';exact⟨this.1.mono' st'.sub st'.cell,this.2⟩
       ·cases hbb.resolve_right (λh=>h);exact hmine.1
       ·cases hbb.resolve_right (λh=>h);simpa using hmine.2
       ·cases hbb.resolve_right (λh=>h);have:=hm.disj i k _ r' _ hM hk (.inl rfl) hbk;subst this;simp[Mem.get]at hn
      ·cases h
     ·simp only[Mem.get]at h h';split at h
      ·split at h'
       ·rename_i e1 e2;exact e1.symm.trans e2
       ·cases h'
      ·cases h
    ·cases h
   ·cases h
  ·cases h
 ·cases h
theorem azpg {x:xQ}{d:Array qq}{out:Out}(g:o.op=.call {callee:=.builtin .len,args:=#[x],argTypes:=d})(h:azbh P d (env x)=some out):Sound1 P o env m id out:=by
 have b:x∈o.op.operands:=by grind[za,Call.operands]
 unfold azbh at h;split at h
 ·rename_i i sz lo n t f j;split at h
  ·cases h;refine Sound1.still λF w ρ Mine M a _ _ e=>⟨.int .i64 n,Fzb g ?_,.pure .int⟩
   have c:=f▸e x b;generalize a.eval x=u at c⊢;cases c<;>simp_all[Builtin.len_,zd,goInt]
  grind
 grind
theorem az39 {t:qq}{x i:xQ}{out:Out}(d:o.op=.indexAddr t x i)(h:Dzc P t (env x) (env i)=some out)(j:holds out.obl):Sound1 P o env m id out:=by
 unfold Dzc at h;split at h
 ·rename_i k sz lo n v r A hi;split at h
  ·rename_i e z;split at h
   ·cases h;obtain⟨B,D⟩:=j;refine Sound1.still λF w ρ Mine M a _ _ q=>?_
    have g:a.eval i=.int v r:=(hi▸q i (by simp[d,za])).pure_inv.int_inv;have f:=q x (by simp[d,za]);rw[A]at f;generalize l:a.eval x=u at f;cases f with
    |viewN p y=>omega
    |@view _ _ _ _ b E cap C p s c=>
     have c:=c (.inl qa);refine⟨.pointer (some ⟨b,(lo+r.toNat) * sz+0,none⟩),.value ?_,.eptr p⟩;simp only[zb,d,Instr.indexAt,xU,g,l,asIntOf,xV,xT,zd z]
     simp_all[bzx,eze,Nat.add_mul]
   grind
  grind
 grind
theorem azep {t:qq}{x:xQ}{lo hi mx:Option xQ}{out:Out}(ho:o.op=.slice t x lo hi mx)
 (h:Rzo P t (env x) (lo.map env) (hi.map env) (mx.map env) m=some out) (N:holds out.obl):Sound1 P o env m id out:=by
 unfold Rzo at h;split at h
 ·rename_i k sz j n Y hx;have J:x∈o.op.operands:=by simp[ho,za]
  have G:∀y,lo=some y->y∈o.op.operands:=λy s=>by grind[za]
  have O:∀y,hi=some y->y∈o.op.operands:=λy s=>by grind[za]
  split at h
  ·rename_i e sz2 n2 f2 k2 e2 l B hu K X Q;split at h
   ·cases h;obtain⟨Z,h1,h2⟩:=N;refine Sound1.still λF w ρ Mine M a hm S H=>?_
    have L:=kzt (F:=F) (w:=w) (ρ:=ρ) (a:=a) X (λy s=>H y (G y s));have R:=kzt (F:=F) (w:=w) (ρ:=ρ) (a:=a) Q (λy s=>H y (O y s));have g:(lo.map a.eval=none/\l=0)\/∃k,lo.map a.eval=some (.int k l):=L.imp (λh=>⟨jt,qa⟩) (λh=>h);have v:(hi.map a.eval=none/\B=n)\/∃k,hi.map a.eval=some (.int k B):=R.imp (λh=>⟨jt,h.2⟩) (λh=>h);have hM:=(S k jq).trans K;obtain⟨_,C⟩:=hm.ok k _ hM;have q:=hx▸H x J;generalize hv:a.eval x=u at q;cases q with
    |viewN d p=>
     subst p;obtain rfl:l=0:=qa
     obtain rfl:B=0:=qa
     refine⟨.slice none 0 0,.value ?_,.viewN d jq⟩;have T:=hzi (P:=P) (w:=w) (isS:=true) (len:=0) (cap:=0) (lo:=lo.map a.eval) (hi:=hi.map a.eval) g qa (wY _) (wY _) qa
     simp_all[zb,Instr.sliceAt,Instr.slice,zd,bzx]
    |@view _ _ _ _ b n0 cap A z hle U=>
     rcases C with⟨d,p⟩|⟨b',V,c,r,q2,q3,q4,q5,q6,q7,q8⟩
     ·simp_all
     ·rw[z]at r;cases r;have T:=hzi (P:=P) (w:=w) (isS:=true) (len:=n) (cap:=cap-j) (lo:=lo.map a.eval) (hi:=hi.map a.eval) g v Z h1 qa;have f:∀i,(if cap-j=l.toNat then some A else(some A).map (·.add (l.toNat * sz)))=some i->Ran P o a w (.slice (some i) (B.toNat-l.toNat) (cap- (j+l.toNat))) w:=by
       intro i W;refine .value ?_
       simp_all[Nat.sub_sub,zb,Instr.sliceAt,Instr.slice,zd,bzx]
      by_cases D:cap-j=l.toNat
      ·refine⟨_,f A jr,.view z qa (λh=>?_)⟩
       grind
      ·by_cases E:j+l.toNat<n2\/j+l.toNat=0
       ·have I:=U qa;subst I;exact⟨_,f _ (by rw[qb D,ws,eze]),.view z qa (λ_=>jt)⟩
       ·exact⟨_,f (A.add (l.toNat * sz)) jr,.view z qa (λh=>absurd h E)⟩
   grind
  grind
 grind
variable {P:qo} {o:Oper} {env:xQ->AVal} {m:Mem} {id:Nat}
theorem MemOk.dat {F:Cells}{w:qn}{ρ:Env}{Mine:Nat->Prop}{M:Mem}{old sz n:Nat}{f:Nat->PVal}(h:MemOk F w ρ Mine M)(o:PRel F w (.lst sz n f) (gzs (ρ.vec old))):MemOk F w ρ Mine ((old,.dat sz n f)::M):=by
 have j:∀b,¬Owns w ρ old (.dat sz n f) b:=λb d=>by simp[Owns,mzh,bz8]at d
 refine⟨λi r a=>?_,λi r b a d=>?_,λi l r m b a c d g=>?_⟩
 ·by_cases e:old=i
  ·subst e;simp[Mem.get]at a;subst a;exact o
  ·simp[Mem.get,e]at a;exact h.ok i r a
 ·by_cases e:old=i
  ·subst e;simp[Mem.get]at a;subst a;exact absurd d (j b)
  ·simp[Mem.get,e]at a;exact h.mine i r b a d
 ·by_cases e:old=i
  ·subst e;simp[Mem.get]at a;subst a;exact absurd d (j b)
  ·by_cases k:old=l
   ·subst k;simp[Mem.get]at c;subst c;exact absurd g (j b)
   ·simp[Mem.get,e]at a;simp[Mem.get,k]at c;exact h.disj i l r m b a c d g
theorem MemOk.ext {F:Cells}{w:qn}{ρ:Env}{Mine:Nat->Prop}{M c:Mem}(h:MemOk F w ρ Mine M)(g:∀i,c.get i=M.get i):MemOk F w ρ Mine c:=
 ⟨λi r a=>h.ok i r jr,λi r b a=>h.mine i r b jr,λi e r f b a d=>h.disj i e r f b jr jr⟩
theorem aznp {F:Cells}{w:qn}{ρ:Env}{k:Nat}:ARel F w ρ (.vec k) (gzs (ρ.vec k)):=by
 cases h:ρ.vec k with
 |none=>exact .vnil h
 |some x=>exact .vec h
theorem azel {s x:xQ}{b:Array qq}{out:Out}(_:o.op=.call {callee:=.builtin .append,args:=#[s,x],argTypes:=b})
 (_:∀t,b[0]?=some t->b[1]?=some t->b=#[t,t]) (h:az16 P b id s (env s) (env x) m=some out) (_:holds out.obl):Sound1 P o env m id out:=by cases (show none=some _ from h)
theorem azig {t:qq}{x:xQ}{lo hi mx:Option xQ}{out:Out}(_:o.op=.slice t x lo hi mx)
 (h:az6w P t (env x) (lo.map env) (hi.map env) (mx.map env) m=some out) (_:holds out.obl):Sound1 P o env m id out:=by cases (show none=some _ from h)
variable {P:qo} {o:Oper} {env:xQ->AVal} {m:Mem} {id:Nat}
theorem azhs (w:qn)(op:BinOp)(t:qq)(x y:xQ)(p q:Option Addr):(eqGuard op t x y (.pointer p) (.pointer q)).run P w=.ok () w:=by
 unfold eqGuard;cases op<;>simp
theorem azqe {op:BinOp}{t t':qq}{x y:xQ}{out:Out}(ho:o.op=.binOp op t x y t')(h:azla P op t (env x) y=some out):Sound1 P o env m id out:=by
 unfold azla at h;split at h
 ·rename_i e hu;have hp:P.underlying t=some (.pointer (P.pointee t)):=by simp[Program.pointee,hu]
  have hop:x∈o.op.operands:=by simp[ho,za]
  split at h
  all_goals first
   |(cases h;done)
   |(rename_i hx
     cases h;refine Sound1.still λF w ρ Mine M a _ _ ha=>?_
     have ax:=ha x hop;rw[hx]at ax;generalize hv:a.eval x=v at ax;cases ax;refine⟨_,.value (by rw[zb,ho];simp only[hv,show a.eval (.const (.pointer none))=.pointer none from rfl,xU,azhs,run_eql_pointer_nil _ _ _ hp,run_neq_pointer_nil _ _ _ hp,xT,xV];rfl),?_⟩;first|exact .tt|exact .ff)
 ·cases h
theorem azgx {k:IntKind}:∀ (ps:List PVal) (l:List Int),Oz5 k ps=some l->∀j,j<l.length->ps[j]?=some (.int k (l.getD j 0)):=by
 intro ps;induction ps with
 |nil=>intro l h j hj;simp[Oz5]at h;subst h;simp at hj
 |cons p ps ih=>
  intro l h j hj;cases p<;>simp only[Oz5]at h<;>try cases h
  split at h
  ·rename_i hk;subst hk;split at h
   ·rename_i r hr;cases h;cases j with
    |zero=>simp
    |succ j=>simpa using ih r hr j (by simpa using hj)
   ·cases h
  ·cases h
theorem az37 {t:qq}{x i:xQ}{out:Out}(ho:o.op=.indexAddr t x i)(h:Dza P t (env x) (env i)=some out)(hob:holds out.obl):Sound1 P o env m id out:=by
 unfold Dza at h;split at h
 ·rename_i cs ik iv hx hi;split at h
  ·rename_i len e hu;split at h
   ·split at h
    ·rename_i k l hl;cases h;obtain⟨h0,hn⟩:=hob;unfold az74 at hl;split at hl
     ·rename_i k' hk hs1;split at hl
      ·rename_i l' hl';split at hl
       ·rename_i hlen;cases hl;refine Sound1.still λF w ρ Mine M a _ _ ha=>?_
        have hiv:=(hi▸ha i (by simp[ho,za])).pure_inv.int_inv;have h1:=ha x (by simp[ho,za]);rw[hx]at h1;generalize hu':a.eval x=u at h1;cases h1 with
        |@ref _ b off hp=>
         obtain⟨c,hc⟩:=hp;have hg:=azgx cs l hl' iv.toNat qa;refine⟨.pointer (some ⟨b,off+iv.toNat,none⟩),.value ?_,.ref ⟨λj=>c (iv.toNat+j),λj q hq=>?_⟩⟩
         ·simp only[zb,ho,Instr.indexAt,xU,hiv,hu',asIntOf,xV,xT,zd hu,Instr.sureAddr];simp[h0,hn,bzx hs1,eze]
         ·cases j with
          |zero=>
           simp only[PVal.cells,xI,Option.some.injEq]at hq;subst hq;exact hc iv.toNat _ hg
          |succ j=>simp[PVal.cells]at hq
       ·cases hl
      ·cases hl
     ·cases hl
    ·cases h
   ·cases h
  ·cases h
 ·cases h
theorem azih {t:qq}{x:xQ}{lo hi mx:Option xQ}{out:Out}(ho:o.op=.slice t x lo hi mx)
 (h:Xzr P t (env x) (lo.map env) (hi.map env) (mx.map env) m=some out) (hob:holds out.obl):Sound1 P o env m id out:=by
 unfold Xzr at h;split at h
 ·rename_i i ik hh hx hlo hhi hmx;simp only[Option.map_eq_none_iff]at hlo hmx;subst hlo;subst hmx;obtain⟨y,rfl,hy⟩:=x9.1 hhi;split at h
  ·rename_i n e cs hu hcs;split at h
   ·rename_i ps hps;split at h
    ·rename_i hc;simp only[qm,qf]at hc;obtain⟨⟨⟨hs,hn⟩,hn60⟩,hsc⟩:=hc;cases h;obtain⟨h0,h1⟩:=hob;intro F w ρ Mine M a hm g fr hrd hfe ha;have hM:=(hrd i jq).trans hcs;obtain⟨c,e',hb,hl,hnF,hrel⟩:=Rz1 hm hM;obtain⟨p1,p2⟩:=kzo hps;have hmine:=hm.mine i _ _ hM (.inl rfl);have hyv:=(hy▸ha y (by simp[ho,za])).pure_inv.int_inv;have ax:=ha x (by simp[ho,za]);rw[hx]at ax;have hxv:a.eval x=.pointer (some ⟨ρ.blk i,0,none⟩):=by generalize a.eval x=v at ax;cases ax;rfl
     have st:Step Mine F w (λb o=>F b o\/b=ρ.blk i) w:=⟨λ_ _ h=>.inl h,λ_ _ _=>rfl,λb o h=>h.elim .inl (λ(e:b=ρ.blk i)=>.inr (e▸hmine.1)),λb o h=>h.elim (g.lt b o) (λ(e:b=ρ.blk i)=>e▸hmine.2),Keep.refl _ _⟩;have hlen:hh.toNat<=n:=qa
     have hps1:∀j p,j<hh.toNat->(lget ps j).cells[0]?=some p->ps[j]?=some p/\p.scalar=true:=by
      intro j p hj hp;have hjl:j<ps.length:=qa
      have e1:lget ps j=ps[j]:=by simp[lget,hjl]
      have hsj:ps[j].scalar=true:=ql.1 hsc _ (zI hjl);rw[e1]at hp;have:ps[j].cells=[ps[j]]:=by cases hq:ps[j]<;>first|rfl|(rw[hq]at hsj;cases hsj)
      rw[this]at hp;simp at hp;subst hp;exact⟨List.getElem?_eq_getElem hjl,hsj⟩
     have hone:∀j,j<hh.toNat->(lget ps j).cells.length=1:=by
      intro j hj;have hjl:j<ps.length:=qa
      have e1:lget ps j=ps[j]:=by simp[lget,hjl]
      have hsj:ps[j].scalar=true:=ql.1 hsc _ (zI hjl);rw[e1];cases hq:ps[j]<;>first|rfl|(rw[hq]at hsj;cases hsj)
     have hcell:∀j q p,j<hh.toNat->(lget ps j).cells[q]?=some p->q=0/\∃v,c[j]?=some v/\v.oneCell'=true/\PRel F w p v:=by
      intro j q p hj hp;have hq0:q=0:=by have:=(zt.1 hp).1;rw[hone j hj]at this;omega
      subst hq0;obtain⟨r1,r2⟩:=hps1 j p hj hp;obtain⟨b,b1,b2⟩:=p2 j p r1;have hjc:j<c.size:=by rw[hl,hn];omega
      have hv:=hrel j b c[j] b1 (xL hjc);exact⟨rfl,c[j],xL hjc,hv.2,hv.1.toP b2⟩
     refine⟨.slice (some ⟨ρ.blk i,0,none⟩) hh.toNat n,w,λb o=>F b o\/b=ρ.blk i,ρ,.inl ?_,st,λ_ _=>⟨rfl,rfl⟩,.pure (.sl (λq=>c.getD q undef) hlen (by unfold maxLen;omega) hone (λj q p hj hp=>?_) (λj q p hj hp=>?_)),?_⟩
     ·simp only[zb,ho,Instr.sliceAt,Instr.sliceBounds,Instr.sliceBound,Instr.sureAddr,h0,h1,and_self,if_true,xU,zd hu,xT,hxv,hyv,asIntOf,Option.map_none,ws,bzx hs,xV];simp[eze]
     ·obtain⟨rfl,v,v1,v2,v3⟩:=hcell j q p hj hp;have hjc:=(xZ.1 v1).1;refine⟨.inr rfl,?_,?_⟩
      ·have:=cell_of_row w (ρ.blk i) (0+(j * 1+0)) c e' _ hb;simpa[v1,hjc]using this
      ·simpa[zJ,hjc,(xZ.1 v1).2]using v2
     ·obtain⟨rfl,v,v1,v2,v3⟩:=hcell j q p hj hp;have hjc:=(xZ.1 v1).1;have:=v3.mono (F':=λb o=>F b o\/b=ρ.blk i) (f:=w) (λ_ _ h=>.inl h) (λ_ _ _=>rfl);simpa[zJ,hjc,(xZ.1 v1).2]using this
     ·refine hm.step st (λ_=>True) (λ_ _=>⟨rfl,rfl⟩) [(i,.gone)] (λj r hj hw=>⟨trivial,λ_ h=>absurd trivial h,λb hbb=>⟨rfl,λq hq=>?_⟩⟩) (λj r hj=>?_) (λj j' r r' b hj hj' hbb _=>?_)
      ·rcases hq with hq|rfl
       ·exact hq
       ·have:=hm.disj j i r _ _ hj hM hbb (.inl rfl);subst this;simp[Mem.get]at hw
      ·simp only[Mem.get]at hj;split at hj
       ·cases hj;exact⟨trivial,λb hbb=>by simp[Owns,mzh,bz8]at hbb⟩
       ·cases hj
      ·simp only[Mem.get]at hj;split at hj
       ·cases hj;simp[Owns,mzh,bz8]at hbb
       ·cases hj
    ·cases h
   ·cases h
  ·cases h
 ·cases h
variable {P:qo} {o:Oper} {env:xQ->AVal} {m:Mem} {id:Nat}
theorem az3t {n:Int}(a: -9223372036854775808<=n)(b:n<=9223372036854775807):IntKind.i64.wrap n=n:=by
 grind[IntKind.wrap,IntKind.bits,IntKind.signed]
theorem Uzv {F:Cells}{w:qn}{ρ:Env}{Mine:Nat->Prop}{M:Mem}(C:MemOk F w ρ Mine M)(g:Good F w Mine)(fr:Fresh id M){t e:qq}{sz a:Nat}{z:List qr}{ps:List PVal}{p:PVal}{l c:Int}
 (hu:P.underlying t=some (.slice e)) (hs:bzi P e=some sz) (N:Fzr P e=some a) (hz:mzg P e=some z) (hzl:z.length=sz) (u:allP (z.map fzc)=some ps) (E:ps.all (·.scalar)=true)
 (hpc:p.cells=ps) (h0:0<=l) (h1:l<=c) (h2:c<=9223372036854775807) (h3:c * a<=140737488355328):
 ∃v B F' ρ',(Instr.makeSlice t (.int .i64 l) (.int .i64 c)).run P w=.ok v B/\Step Mine F w F' B/\dz4 id ρ ρ'/\ARel F' B ρ' (.vec id) v/\MemOk F' B ρ' Mine ([(id,.vec sz l.toNat (λ_=>p) 0 e)]++M):=by
 obtain⟨i,X,hi,hzv,hzz⟩:=nzt hz;obtain⟨i',y,V⟩:=vzc N;rw[hi]at y;cases y;have D:=az3t (n:=l) qa qa;have L:=az3t (n:=c) qa qa;have hbc:¬ (281474976710656<(a:Int) * c):=jt
 obtain⟨A,hA⟩:∃A:Array qr,A=(zA (c.toNat * sz)).map (λx=>X.cells[x % X.cells.size]!):=⟨_,rfl⟩;have f:(Instr.makeSlice t (.int .i64 l) (.int .i64 c)).run P w=.ok (.slice (some ⟨w.heap.size,0,none⟩) l.toNat c.toNat) (w.alloc (.cells A e)):=by
  have Q:¬l<0:=qa
  have R:¬l>c:=qa
  have J:¬c<0:=qa
  have k:¬ (a:Int) * c>2 ^ 48:=qa
  simp only[Instr.makeSlice,xU,zd hu,xT,asInt,asIntOf,xV,typeInfo,run_program,hi,D,L,V,bzx hs,
   J,Q,R,k,decide_false,zK,wP,if_false,run_askRoom]
  by_cases hn:c.toNat * sz=0
  ·have K:A=#[]:=by simp_all
   have e0:(zA 0:Array Nat)=#[]:=jp
   simp only[hn,newRow,K,e0,zG,zH];rfl
  simp_all[newRow,zeroValue,typeInfo]
 have d:A.size=c.toNat * sz:=jr
 have H:∀ (q j:Nat) (x:PVal),q<c.toNat->ps[j]?=some x->∃v,A[q * sz+j]?=some v/\v.oneCell'=true/\PRel F (w.alloc (.cells A e)) x v:=by
  intro q j x I T;obtain⟨hl1,U⟩:=kzo u;obtain⟨aa,m,W⟩:=U j x T;simp only[zy,x9]at m;obtain⟨v,O,rfl⟩:=m;have hr:=(gzy (F:=F) (w:=w.alloc (.cells A e)) (ρ:=ρ) v).toP W;refine⟨v,?_,hr.one (ql.1 E x (zu T)),hr⟩
  grind[vzl,zL,zM,zN]
 have st:Step Mine F w F (w.alloc (.cells A e)):=by
  have s:=Step.alloc g (.cells A e) (λ_=>False)
  simp_all
 have O:(ρ.setVec id (some (w.heap.size,l.toNat,c.toNat))).vec id=some (w.heap.size,l.toNat,c.toNat):=qc rfl;have hpl:ps.length=sz:=by have:=(kzo u).1;simp_all
 have Z:=C.newVec fr st (some (w.heap.size,l.toNat,c.toNat)) [] sz l.toNat 0 (λ_=>p) e
  ⟨wy _,.inr ⟨w.heap.size,c.toNat,A,O,heap_alloc_new w _,qa,by grind[maxLen],d,λo hF=>absurd (g.lt _ _ hF) qa,λ_ _=>jr,λq j x I T=>H q j x qa jr⟩⟩
  (λb Y=>by
   simp at Y;subst Y;exact⟨g.mine _ (qk _),jq,λq r' I _ G=>absurd (C.mine q r' _ I G).2 qa⟩)
  (λj r b hj _ S=>⟨heap_alloc_old w _ (C.mine j r b hj S).2,λ_ h=>h⟩)
 exact⟨_,_,F,_,f,st,cz0 ρ id _,.vec O,jr⟩
theorem Tzn {t:qq}{x y:xQ}{out:Out}(s:o.op=.makeSlice t x y)(h:zz7 P t id (env x) (env y)=some out)(d:holds out.obl):Sound1 P o env m id out:=by
 unfold zz7 at h;split at h
 ·rename_i l c B A;split at h
  ·rename_i e I;split at h
   ·rename_i sz b z H j u;split at h
    ·rename_i n;split at h
     ·rename_i ps q;split at h
      ·rename_i k
       have f:∀ (p:PVal),p.cells=ps->(0<=l/\l<=c/\c<=9223372036854775807/\c * b<=140737488355328)->
        Sound1 P o env m id ⟨.vec id,[],[(id,.vec (sz+1) l.toNat (λ_=>p) 0 e)],some (0<=l/\l<=c/\c<=9223372036854775807/\c * b<=140737488355328)⟩:=by
        intro p L i F w ρ Mine M a N g K _ _ r;obtain⟨v,G,F',ρ',Q,E,C,D,J⟩:=Uzv (P:=P) N g K I H j u n q k L i.1 i.2.1 i.2.2.1 i.2.2.2;have O:=(B▸r x (by simp[s,za])).pure_inv.int_inv;have R:=(A▸r y (by simp[s,za])).pure_inv.int_inv;exact⟨v,G,F',ρ',.value (by grind[zb,xU,xT,xV]),E,C,D,J⟩
       split at h
       ·cases h;exact f (.agg ps) rfl d
       ·split at h
        ·rename_i p;cases h;exact f p (PVal.cells_scalar jr) d
        grind
       grind
      grind
     grind
    grind
   grind
  grind
 grind
theorem Yzh {w:qn}{t e:qq}{sz a:Nat}{z:List qr}{l c:Int}
 (y:P.underlying t=some (.slice e)) (E:bzi P e=some sz) (f:Fzr P e=some a) (F:mzg P e=some z) (u:z.length=sz) (N:0<=l) (J:l<=c) (K:c<=9223372036854775807) (O:c * a<=140737488355328):
 ∃A:Array qr,(Instr.makeSlice t (.int .i64 l) (.int .i64 c)).run P w=.ok (.slice (some ⟨w.heap.size,0,none⟩) l.toNat c.toNat) (w.alloc (.cells A e))/\A.size=c.toNat * sz/\
  ∀ (q j:Nat) (v:qr),q<c.toNat->z[j]?=some v->A[q * sz+j]?=some v:=by
 obtain⟨i,s,hi,H,B⟩:=nzt F;obtain⟨M,b,p⟩:=vzc f;rw[hi]at b;cases b;have g:=az3t (n:=l) qa qa;have o:=az3t (n:=c) qa qa;have G:¬ (281474976710656<(a:Int) * c):=jt
 obtain⟨A,Q⟩:∃A:Array qr,A=(zA (c.toNat * sz)).map (λx=>s.cells[x % s.cells.size]!):=⟨_,rfl⟩;refine⟨A,?_,jr,λq j v I L=>?_⟩
 ·have m:¬l<0:=qa
  have k:¬l>c:=qa
  have h:¬c<0:=qa
  have d:¬ (a:Int) * c>2 ^ 48:=qa
  simp only[Instr.makeSlice,xU,zd y,xT,asInt,asIntOf,xV,typeInfo,run_program,hi,g,o,p,bzx E,
   h,m,k,d,decide_false,zK,wP,if_false,run_askRoom]
  by_cases D:c.toNat * sz=0
  ·have r:A=#[]:=by simp_all
   have C:(zA 0:Array Nat)=#[]:=jp
   simp only[D,newRow,r,C,zG,zH];rfl
  simp_all[newRow,zeroValue,typeInfo]
 grind[vzl,zL,zM,zN]
theorem az3b {t:qq}{x y:xQ}{out:Out}(J:o.op=.makeSlice t x y)(h:Dze P t id (env x) (env y)=some out)(E:holds out.obl):Sound1 P o env m id out:=by
 unfold Dze at h;split at h
 ·rename_i l c V Y;split at h
  ·rename_i e hu;split at h
   ·rename_i W N Q B Z S;split at h
    ·rename_i sz hs';cases h;obtain⟨h0,T,h2,X⟩:=E;intro F w ρ Mine M a C g R _ _ L;have e1:=(V▸L x (by simp[J,za])).pure_inv.int_inv;have e2:=(Y▸L y (by simp[J,za])).pure_inv.int_inv;obtain⟨A,H,hA,n⟩:=Yzh (P:=P) (w:=w) hu Q B Z rfl h0 T h2 X;have p:∀q,q<c.toNat->A[q]?=some (.slice none 0 0):=λq u=>by
      have:=n q 0 _ u rfl
      simp_all
     have G:Step Mine F w F (w.alloc (.cells A e)):=by
      have s:=Step.alloc g (.cells A e) (λ_=>False)
      simp_all
     have D:(ρ.setVec id (some (w.heap.size,l.toNat,c.toNat))).vec id=some (w.heap.size,l.toNat,c.toNat):=qc rfl;have f:∀q b,¬Inn A l.toNat none q b:=by
      intro q b ⟨r1,_,n',I,O⟩
      grind
     have d:∀k r,Mem.get [(id,Res.vecT sz l.toNat (λ_=>.lst sz 0 λ_=>.unk) e N none)] k=some r->k=id/\r=.vecT sz l.toNat (λ_=>.lst sz 0 λ_=>.unk) e N none:=by
      grind[Mem.get]
     refine⟨_,_,F,ρ.setVec id (some (w.heap.size,l.toNat,c.toNat)),.value (by grind[zb,xU,xT,xV]),G,cz0 ρ id _,.vec D,MemOk.step C G (λi=>¬Own id i) (cz0 ρ id _) _ (λj r h _=>?_) (λj r h=>?_) (λj j' r K b h h' _ _=>?_)⟩
     ·obtain⟨q1,q2,q3⟩:=az22 C R (.cells A e) (λ_=>False) j r h
      grind
     ·obtain⟨rfl,rfl⟩:=d j r h;refine⟨⟨w.heap.size,c.toNat,A,D,heap_alloc_new w _,qa,by grind[maxLen],qa,λo U=>absurd (g.lt _ _ U) qa,λq u=>⟨_,p q qa,rfl,.inr ⟨none,0,λ_=>.unk,rfl,rfl,qk _,.inl ⟨rfl,rfl⟩⟩⟩,λq q' b h=>absurd h (f q b),λq h=>f q _ h⟩,λb v=>?_⟩;rcases v with v|⟨b0,n0,cap,c0,e0,q,r1,r2,O⟩
      ·simp only[bz8,D,ws,Option.some.injEq]at v;subst v;exact⟨g.mine _ (qk _),jq,λq K u _ z=>absurd (C.mine q K _ u z).2 qa⟩
      grind[heap_alloc_new]
     grind
    grind
   grind
  grind
 grind
theorem Wza {mx:Bool}{f:Int->Int->Int}(i:f=if mx then(λa b=>max a b)else(λa b=>min a b)){k:IntKind}{F:Cells}{w:qn}{ρ:Env}:∀ (l:List AVal) (vs:List qr) (a r:Int),Wz9 f k a l=some r->l.length=vs.length->(∀ (j:Nat) (x:AVal) (v:qr),l[j]?=some x->vs[j]?=some v->ARel F w ρ x v)->
 (vs.foldlM (if mx then Builtin.max2 else Builtin.min2) (.int k a)).run P w=.ok (.int k r) w
 |[],[],a,r,h,_,_=>by simp_all[Wz9]
 |[],_::_,_,_,_,e,_=>jt
 |_::_,[],_,_,_,e,_=>jt
 |x::l,v::vs,a,r,h,e,d=>by
  have g:=d 0 x v jq jq;obtain⟨b,rfl,c⟩:∃b,x=.pure (.int k b)/\Wz9 f k (f a b) l=some r:=by
   match x,h with
   | .pure (.int k' b),h=>
     grind[Wz9]
  have m:=g.pure_inv.int_inv;have n:=Wza i l vs _ r c jr (λj x v o c=>d (j+1) x v jr jr)
  grind[Builtin.max2,Builtin.min2]
theorem az80 {b:Builtin}{mx:Bool}{i:Int->Int->Int}(g:i=if mx then(λa b=>max a b)else(λa b=>min a b)){xs:Array xQ}{n:Array qq}{p:PVal}(G:b=if mx then .max else .min)(E:o.op=.call {callee:=.builtin b,args:=xs,argTypes:=n})
 (h:Qzf i (xs.toList.map env)=some p):Sound1 P o env m id (.v (.pure p)):=by
 unfold Qzf at h;split at h
 ·rename_i k y l f;split at h
  ·rename_i r t;cases h;refine Sound1.still λF w ρ Mine M a _ _ s=>?_
   obtain⟨x,d,e⟩:∃x d,xs.toList=x::d:=by
    cases H:xs.toList<;>simp_all
   rw[e,zn]at f;simp only[List.cons.injEq]at f;obtain⟨q,rfl⟩:=f;have c:∀z∈xs.toList,z∈o.op.operands:=λz A=>by grind[za,Call.operands]
   have D:=(q▸s x (c x jr)).pure_inv.int_inv;have I:=Wza (P:=P) g (F:=F) (w:=w) (ρ:=ρ) (d.map env) (d.map a.eval) y r t jq (λj u v C B=>by
    grind)
   refine⟨.int k r,.value ?_,.pure .int⟩;cases mx<;>simp_all[zb,resolve,invoke,builtin,Builtin.max_,Builtin.min_]
  grind
 grind
theorem kz6 {out:Out}(h:evOp P o.op id env m=some out)(hob:holds out.obl):Sound1 P o env m id out:=by
 generalize hop:o.op=op at h;cases op<;>simp only[evOp]at h
 all_goals try(cases h;done)
 case move x=>cases h;exact azpi hop
 case assign x=>
  split at h
  ·rename_i hn;have:x=.const (.slice none 0 0):=by
    unfold azol at hn;split at hn
    ·rfl
    ·cases hn
   subst this;cases h;exact azqg hop
  ·cases h;exact azia hop
 case pick c x y=>
  split at h
  ·rename_i hc;cases h;exact azki (b:=true) hop hc
  ·rename_i hc;cases h;exact azki (b:=false) hop hc
  ·cases h
 case alloc t=>
  split at h
  ·rename_i z hz;split at h
   ·rename_i hc;simp only[qm,qf]at hc;cases h;exact azmy hop hz hc.1 hc.2
   ·cases h
  ·cases h
 case box t x=>
  split at h
  ·rename_i hc;cases h;exact azqd hop hc
  ·cases h
 case build t ps=>exact azmz hop h
 case buildSlice t n ps=>
  split at h
  ·rename_i out' ho';cases h;exact az35 hop ho'
  ·exact Zzk hop h
 case load t a=>
  split at h
  ·rename_i out' ho';cases h;exact azn4 hop ho' hob
  ·split at h
   ·rename_i out' ho';cases h;exact azn6 hop ho' hob
   ·exact azph hop h hob
 case store t a v=>
  split at h
  ·rename_i out' ho';cases h;exact azin hop ho' hob
  ·split at h
   ·rename_i out' ho';cases h;exact azip hop ho' hob
   ·split at h
    ·rename_i out' ho';cases h;exact azeq hop ho' hob
    ·split at h
     ·rename_i out' ho';cases h;exact azim hop ho'
     ·split at h
      ·rename_i out' ho';cases h;exact azil hop ho' hob
      ·split at h
       ·rename_i out' ho';cases h;exact azik hop ho' hob
       ·exact Zzm hop h hob
 case nilCheck x=>
  split at h<;>rename_i hx<;>first|(cases h;rw[<-hx];exact az9o hop (by rw[hx];trivial))|(cases h)
 case binOp op t x y t'=>
  split at h
  ·rename_i out' ho';cases h;exact azqe hop ho'
  split at h
  ·rename_i p q hp hq;split at h
   ·rename_i r ob hr;cases h;exact azqc hop hp hq hr hob
   ·cases h
  ·cases h
 case unOp op t x=>
  split at h
  ·rename_i hx;split at h
   ·cases h;exact azpj (b:=true) hop hx
   ·cases h
  ·rename_i hx;split at h
   ·cases h;exact azpj (b:=false) hop hx
   ·cases h
  ·rename_i p hx;split at h
   ·rename_i r hr;cases h;exact s_un hop hx hr
   ·cases h
  ·cases h
 case convert s d x=>
  split at h
  ·rename_i p hp;split at h
   ·rename_i r hr;split at h
    ·rename_i hs;cases h;exact azpf hop hs hp hr
    ·cases h
   ·cases h
  ·cases h
 case makeFunc fn a b=>
  split at h
  ·cases h;exact az9n hop
  ·cases h
 case makeSlice t l c=>exact Tzn hop h hob
 case makeMap t r=>
  split at h
  ·exact azeo hop h
  ·cases h
 case lookup t x ix ok=>exact azid hop h hob
 case mapUpdate t x k v=>exact Tzo (.inl hop) h
 case insert t x k v=>exact Tzo (.inr hop) h
 case slice t x lo hi mx=>
  split at h
  ·rename_i out' ho';cases h;exact azif hop ho' hob
  ·split at h
   ·rename_i out' ho';cases h;exact azie hop ho'
   ·split at h
    ·rename_i out' ho';cases h;exact azih hop ho' hob
    split at h
    ·rename_i out' ho';cases h;exact azep hop ho' hob
    ·split at h
     ·rename_i out' ho';cases h;exact azig hop ho' hob
     ·exact azn8 hop h hob
 case fieldAddr s x f=>exact azn1 hop h
 case field s x f=>exact azib hop h
 case indexAddr t x i=>
  split at h
  ·rename_i out' ho';cases h;exact az38 hop ho' hob
  ·split at h
   ·rename_i out' ho';cases h;exact az3a hop ho' hob
   ·split at h
    ·rename_i out' ho';cases h;exact az36 hop ho' hob
    ·split at h
     ·rename_i out' ho';cases h;exact az39 hop ho' hob
     split at h
     ·rename_i out' ho';cases h;exact az37 hop ho' hob
     ·exact az5u hop h hob
 case makeInterface t x=>exact azn2 hop h
 case typeAssert x xt a ok=>exact azi9 hop h
 case index t x i=>exact azn3 hop h hob
 case range t x=>
  split at h
  ·rename_i s hu hx;cases h;exact azn7 hop hu hx
  ·cases h
 case extract x i=>
  split at h
  ·rename_i cs hx;split at h
   ·rename_i v hv;cases h;exact azen hop hx hv
   ·cases h
  ·cases h
 case call c=>
  split at h
  ·rename_i b hb;obtain⟨callee,args,ts⟩:=c;simp only at hb h;subst hb;unfold Jzv at h;split at h
   ·split at h
    ·rename_i x hx;have:args=#[x]:=by rw[<-zO (xs:=args),hx]
     subst this;split at h
     ·rename_i out' ho';cases h;exact azpg hop ho'
     ·exact azqf hop h
    ·cases h
   ·split at h
    ·rename_i d s hx;have:args=#[d,s]:=by rw[<-zO (xs:=args),hx]
     subst this;split at h
     ·rename_i hsz;exact azn0 hop hsz h
     ·cases h
    ·cases h
   ·split at h
    ·rename_i s x hx;have:args=#[s,x]:=by rw[<-zO (xs:=args),hx]
     subst this;split at h
     ·rename_i hsz;have hts:∀t,ts[0]?=some t->ts[1]?=some t->ts=#[t,t]:=λt h0 h1=>by
       refine Array.ext (by simpa using hsz) λi hi _=>?_
       have hi2:i<2:=qa
       match i,hi2 with
       |0,_=>simpa[xL (show 0<ts.size from qa)]using h0
       |1,_=>simpa[xL (show 1<ts.size from qa)]using h1
      split at h
      ·rename_i out' ho';cases h;exact azem hop hts ho' hob
      ·split at h
       ·rename_i out' ho';cases h;exact azek hop hts ho' hob
       ·exact azi8 hop hts h hob
     ·cases h
    ·cases h
   ·split at h
    ·rename_i p hp;cases h;exact az80 (mx:=false) rfl rfl hop hp
    ·cases h
   ·split at h
    ·rename_i p hp;cases h;exact az80 (mx:=true) rfl rfl hop hp
    ·cases h
   ·cases h
  ·cases h
end Go.Abs
