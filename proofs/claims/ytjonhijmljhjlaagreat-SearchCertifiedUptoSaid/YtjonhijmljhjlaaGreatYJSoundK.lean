import Derived.Test.YtjonhijmljhjlaaGreatYJSoundT
import Derived.Laws.CopyRow
open Array renaming getElem?_eq_getElem->zE,range->jB,getElem?_map->jG,getElem?_range->jH,toArray_toList->jJ
open Bool renaming and_eq_true->qm,or_eq_false_iff->qp,or_false->jC,false_eq_true->zi
open Go renaming TypeId->qq,Operand->zI,Value->qr,World->qn,Program->qo,execOp->zW,run_underlying->zX
open Go.Op renaming operands->zV
open Go.Result renaming andThen_ok->zL
open Go.Sem renaming run_bind->zM,run_pure->zN
open Int renaming mul_comm->xr
open List renaming getElem?_eq_some_iff->zD,mem_of_getElem?->jq,length_set->wx,length_map->zf,getElem?_set_self->jx,getElem?_set_ne->jy,getElem?_map->jz,all_eq_true->ql,getElem?_of_mem->jc,mem_singleton->wO,map_cons->xN,map_nil->xU,mem_cons_of_mem->jA,length_singleton->xd,map_toArray->jD,foldlM_cons->jI
open Nat renaming succ_mul->zZ,mul_le_mul_right->zn,mul_comm->jf,mul_add_mod->jE,mod_eq_of_lt->jF,le_refl->wz
open Option renaming map_eq_some_iff->zT,map_some->wQ
namespace Go.Abs
variable {P:qo} {o:Oper} {env:zI->AVal} {m:Mem} {id:Nat}
theorem openB_true {hs:List (Nat×Nat)}{i:Nat}:ozn hs i=true↔∃k,(i,k)∈hs:=by
 simp only[ozn,List.any_eq_true,qj,Prod.exists];exact⟨λ⟨a,b,h,e⟩=>⟨b,e▸h⟩,λ⟨b,h⟩=>⟨i,b,h,rfl⟩⟩
theorem az9m {t:qq}{x:zI}{q:Nat}{out:Out}(ho:o.op=.load t x)(h:Vzn P t q (env x) m=some out)(hob:holds out.obl):Sound1 P o env m id out:=by
 unfold Vzn at h;split at h
 ·rename_i j sz i hx;split at h
  ·rename_i sz' n f k e off s' e' hs hj;split at h
   ·rename_i hc;simp only[qm,qf]at hc;obtain⟨⟨rfl,hsz⟩,hag⟩:=hc
    have key:∀ (val:AVal) (ob:Option Prop),i<n->(∀ (F:Cells) (w:qn) (ρ:Env) (c:Array qr),UOk F w ρ c sz n f k off s' e' hs->off<sz->∀vs:Array qr,vs.size=sz->(∀jj,jj<sz->vs[jj]?=c[i * sz+jj]?)->ARel F w ρ val (.agg vs))->
     Sound1 P o env m id ⟨val,[j],[],ob⟩:=by
     intro val ob hin hv;refine Sound1.still λF w ρ Mine M a hm hrd ha=>?_
     have hax:=ha x (by simp[ho,zV]);rw[hx]at hax;obtain⟨hoff,hkn,⟨_,hn0,_⟩|⟨b,cap,c,q1,q2,q3,q4,q5,q6,q7,q8⟩⟩:=hm.ok j _ ((hrd j (by simp)).trans hj)
     ·omega
     generalize hu:a.eval x=u at hax;cases hax with
     |eptr hvec=>
      rw[hvec]at q1;cases q1;have hsub:i * sz+sz<=c.size:=by rw[q5,<-zZ];exact zn _ qa
      have hr:=mz7 (P:=P) (t:=t) (b:=b) (off:=i * sz+0) q2 (.inl ⟨hag,sz,hsz,qa,rfl⟩);refine⟨.agg (c.extract (i * sz+0) (i * sz+0+sz)),.value (by simp only[zW,ho,Instr.loadAt,Instr.sureAddr,hu,zM,zN,zL,hr]),hv F w ρ c q7 hoff _ (by simp;omega) λjj hjj=>?_⟩;rw[Array.getElem?_extract,qc qa];simp
    split at h
    ·split at h
     ·rename_i hemp;have hemp:hs=[]:=by simpa using hemp
      subst hemp;cases h;obtain⟨hki,hin⟩:=hob;refine key _ _ hin λF w ρ c hU hoff vs hl hg=>.pure (.agg (by rw[hU.len i hin,hl]) λjj p v hp hv=>?_)
      have hjj:jj<sz:=by have:=(zD.1 hp).1;rw[hU.len i hin]at this;exact this
      rw[hg jj hjj]at hv;by_cases e0:jj=off
      ·subst e0;obtain⟨v',v1,_,_,v4⟩:=hU.own i p hin rfl hp;rw[v1]at hv;cases hv;exact v4 hki
      ·obtain⟨v',v1,_,v3⟩:=hU.cell i jj p hin e0 hp;rw[v1]at hv;cases hv;exact v3
     ·cases h
    ·rename_i hh;split at h
     ·rename_i h' k' hget;cases h;obtain rfl:i=h':=hob;have hmem:(i,k')∈hs:=jq hget;intro F w ρ Mine M a hm g fr hrd hfe ha;obtain⟨_,_,⟨_,_,he⟩|⟨b,cap,c,q1,q2,q3,q4,q5,q6,q7,q8⟩⟩:=hm.ok j _ ((hrd j (by simp)).trans hj)
      ·rw[he]at hmem;cases hmem
      have hin:=(q7.hole _ hmem).1;refine key _ _ hin (λF w ρ c hU hoff vs hl hg=>.agg (by rw[wx,zf,hU.len i hin,hl]) λjj a v hp hv=>?_) F w ρ Mine M a hm g fr hrd hfe ha;have hjj:jj<sz:=by have:=(zD.1 hp).1;rw[wx,zf,hU.len i hin]at this;exact this
      rw[hg jj hjj]at hv;by_cases e0:jj=off
      ·subst e0;rw[(hU.hole _ hmem).2]at hv;cases hv;rw[jx (by rw[zf,hU.len i hin];exact hjj)]at hp;cases hp;exact Bzk _
      ·rw[jy (Ne.symm e0),jz,zT]at hp;obtain⟨p,hp,rfl⟩:=hp;obtain⟨v',v1,_,v3⟩:=hU.cell i jj p hin e0 hp;rw[v1]at hv;cases hv;exact .pure v3
     ·cases h
   ·cases h
  ·cases h
 ·cases h
theorem az7e {t:qq}{x y:zI}{j sz n i k off s' kk:Nat}{f:Nat->PVal}{e e':qq}{hs hs':List (Nat×Nat)}{ps:List PVal}{ob:Option Prop}{rk:Res}(ho:o.op=.store t x y)(hsz:cz2 P t=some sz)
 (hx:env x=.eptr j sz i 0) (hj:m.get j=some (.vecU sz n f k e off s' e' hs)) (hk:m.get kk=some rk) (hoffv:(env y).cells[off]?=some (.vec kk)) (hps:allP ((env y).cells.set off (.pure .unk))=some ps) (hpl:ps.length=sz) (hpsc:ps.all (·.scalar)=true)
 (hin:i<n) (h1:∀q,q≠i->ozn hs' q=ozn hs q) (h2:ozn hs' i=true) (h3:∀z∈hs',z=(i,kk)\/(z∈hs/\z.1≠i)) (h4:(hs.map (·.1)).Nodup->(hs'.map (·.1)).Nodup):
 Sound1 P o env m id ⟨.any,[j,kk],[(j,.vecU sz n (λq=>if q=i then .agg ps else f q) k e off s' e' hs')],ob⟩:=by
 have run:∀ {a:Act} {w w':qn} {b off:Nat},a.eval x=.pointer (some ⟨b,off,none⟩)->(storeVar t ⟨b,off,none⟩ (a.eval y)).run P w=.ok () w'->Ran P o a w undef w':=by
  intro a w w' b off hx hr;exact .inr ⟨by simp[zW,ho,Instr.storeAt,Instr.sureAddr,hx,hr],rfl⟩
 intro F w ρ Mine M a hm g fr hrd hfe ha;have hM:=(hrd j (by simp)).trans hj;have hax:=ha x (by simp[ho,zV]);have hay:=ha y (by simp[ho,zV]);rw[hx]at hax;generalize hu:a.eval x=u at hax;cases hax with
 |eptr hvec=>
  rename_i b n' cap;obtain⟨hoff,hkn,⟨_,hn0,_⟩|⟨b',cap',c,hv',hb,hnc,hcm,hcsz,hF,hU,hnin⟩⟩:=hm.ok j _ hM
  ·omega
  rw[hvec]at hv';cases hv';obtain⟨hpl',hpg⟩:=nz0 hps;have hyl:(env y).cells.length=sz:=by rw[<-hpl,<-hpl',wx]
  have hallsc:(env y).cells.all (·.scalar)=true:=by
   have h5:=Kz8 hps hpsc;rw[ql]at h5⊢;intro z hz;obtain⟨q,hq⟩:=jc hz;by_cases e0:q=off
   ·subst e0;rw[hoffv]at hq;cases hq;rfl
   ·exact h5 z (jq (i:=q) (by rw[jy (Ne.symm e0)];exact hq))
  obtain⟨hvs,hvc⟩:=hay.cells hallsc;have h5:∀u∈(a.eval y).cells.toList,u.oneCell'=true:=by
   intro u hu';obtain⟨q,hq⟩:=jc hu';have hlt:q<(env y).cells.length:=by have:=(zD.1 hq).1;simp at this;omega
   exact(hvc q _ u (List.getElem?_eq_getElem hlt) (by simpa using hq)).2
  have hsub:i * sz+sz<=c.size:=by rw[hcsz,<-zZ];exact zn _ qa
  have hr:=oz2 (P:=P) (off:=i * sz+0) hsz qa hb qa h5;have hvlen:(a.eval y).cells.toList.length=sz:=by simp;omega
  have hget:∀q,((c.toList.take (i * sz+0)++(a.eval y).cells.toList++c.toList.drop (i * sz+0+(a.eval y).cells.toList.length)).toArray)[q]?=
   if i * sz<=q/\q<i * sz+sz then(a.eval y).cells[q-i * sz]? else c[q]?:=by
   intro q;rw[List.getElem?_toArray,iz0 _ _ _ _ (by simp;omega),hvlen];simp
  generalize hc':(c.toList.take (i * sz+0)++(a.eval y).cells.toList++c.toList.drop (i * sz+0+(a.eval y).cells.toList.length)).toArray=c' at hr hget;have hsz':c'.size=cap * sz:=by
   rw[<-hc',List.size_toArray,ezh _ _ _ (by simp;omega)];simpa using hcsz
  have hbj:Owns w ρ j (.vecU sz n f k e off s' e' hs) b:=.inl (by simp[bzg,hvec]);have hmine:=hm.mine j _ b hM hbj;have st:Step Mine F w F (w.setRow b c'):=Step.write g hb hmine.1 (λo h=>absurd h (hF o));have hheap:=setRow_heap w b c c' e _ hb;have hold:∀q jj,q≠i->jj<sz->c'[q * sz+jj]?=c[q * sz+jj]?:=by
   intro q jj hq hjj;rw[hget,qb];rcases Nat.lt_or_gt_of_ne hq with hlt|hgt
   ·have:(q+1) * sz<=i * sz:=zn _ hlt;rw[zZ]at this;omega
   ·have:(i+1) * sz<=q * sz:=zn _ hgt;rw[zZ]at this;omega
  have hnew:∀jj,jj<sz->c'[i * sz+jj]?=(a.eval y).cells[jj]?:=by
   intro jj hjj;rw[hget,qc qa];congr 1;omega
  have hinn:∀q b',InnU c' sz n off k hs' q b'->InnU c sz n off k hs q b':=by
   intro q b' ⟨r1,r2,r3,n2,cap2,r4⟩;have hqi:q≠i:=λe=>by subst e;rw[h2]at r3;cases r3
   rw[hold q off hqi hoff]at r4;exact⟨r1,r2,by rw[<-h1 q hqi];exact r3,n2,cap2,r4⟩
  have hown:∀b',Owns (w.setRow b c') ρ j (.vecU sz n (λq=>if q=i then .agg ps else f q) k e off s' e' hs') b'->Owns w ρ j (.vecU sz n f k e off s' e' hs) b':=by
   intro b' hb';rcases hb' with hb'|⟨b0,n0,cap0,c0,e0,q,r1,r2,r3⟩
   ·exact .inl hb'
   ·rw[hvec]at r1;cases r1;rw[hheap]at r2;cases r2;exact .inr ⟨b,n,cap,c,e,q,hvec,hb,hinn q b' r3⟩
  have hnone:∀q,Mem.get [(j,Res.vecU sz n (λq=>if q=i then .agg ps else f q) k e off s' e' hs')] q=none->q≠j:=by
   intro q hq e1;subst e1;simp[Mem.get]at hq
  refine⟨undef,_,F,ρ,run hu hr,st,λ_ _=>⟨rfl,rfl⟩,.any,MemOk.step hm st (λ_=>True) (λ_ _=>⟨rfl,rfl⟩) _ (λq r h hn=>⟨trivial,λq hq=>absurd trivial hq,λb' hb'=>⟨?_,λ_ h=>h⟩⟩) (λq r h=>?_) (λq q' r r' b' h h' _ _=>?_)⟩
  ·refine setRow_other w b b' _ (λe1=>?_);subst e1;exact hnone q hn (hm.disj j q _ r _ hM h hbj hb').symm
  ·simp only[Mem.get]at h;split at h
   ·rename_i e1;subst e1;cases h;refine⟨⟨hoff,hkn,.inr ⟨b,cap,c',hvec,hheap,hnc,hcm,hsz',hF,⟨λq hq=>?_,λq jj p hq hjj hp=>?_,λq p hq hop hp=>?_,λz hz=>?_,h4 hU.nodup,λq q' b' r1 r2=>hU.inj q q' b' (hinn q b' r1) (hinn q' b' r2)⟩,λq r1=>hnin q (hinn q b r1)⟩⟩,λb' hb'=>?_⟩
    ·by_cases hqi:q=i
     ·simp only[qc hqi];exact hpl
     ·simp only[qb hqi];exact hU.len q hq
    ·by_cases hqi:q=i
     ·subst hqi;simp only[if_true]at hp;have hlt:jj<sz:=by have:=(zD.1 hp).1;rw[show(PVal.agg ps).cells=ps from rfl,hpl]at this;exact this
      obtain⟨aa,ha1,ha2⟩:=hpg jj p hp;rw[jy (Ne.symm hjj)]at ha1;rw[hnew jj hlt];have hlt2:jj<(a.eval y).cells.size:=qa
      obtain⟨r1,r2⟩:=hvc jj aa _ ha1 (zE hlt2);exact⟨_,zE hlt2,r2,(r1.toP ha2).mono st.sub st.cell⟩
     ·simp only[qb hqi]at hp;have hlt:jj<sz:=by have:=(zD.1 hp).1;rw[hU.len q hq]at this;exact this
      rw[hold q jj hqi hlt];obtain⟨v,v1,v2,v3⟩:=hU.cell q jj p hq hjj hp;exact⟨v,v1,v2,v3.mono st.sub st.cell⟩
    ·have hqi:q≠i:=λe1=>by subst e1;rw[h2]at hop;cases hop
     simp only[qb hqi]at hp;rw[hold q off hqi hoff];rw[h1 q hqi]at hop;obtain⟨v,v1,v2,v3,v4⟩:=hU.own q p hq hop hp;refine⟨v,v1,v2,λhqk=>?_,λhqk=>(v4 hqk).mono st.sub st.cell⟩;obtain⟨z,n2,g2,p1,p2,p3⟩:=v3 hqk;refine⟨z,n2,g2,p1,p2,p3.mono st.sub st.cell λb' m' cap' hx'=>⟨setRow_other w b b' _ (λe1=>?_),λ_ h=>h⟩⟩;subst hx';exact hnin q ⟨hq,hqk,hop,m',cap',by rw[v1,p2,e1];rfl⟩
    ·rcases h3 z hz with rfl|⟨z1,z2⟩
     ·refine⟨hin,?_⟩;rw[hnew off hoff];have hlt2:off<(a.eval y).cells.size:=qa
      obtain⟨r1,_⟩:=hvc off _ _ hoffv (zE hlt2);rw[zE hlt2,Uzp r1]
     ·obtain⟨r1,r2⟩:=hU.hole z z1;exact⟨r1,by rw[hold z.1 off z2 hoff];exact r2⟩
    ·obtain⟨m1,m2⟩:=hm.mine _ _ b' hM (hown b' hb');exact⟨m1,by simpa using m2,λq r' hq hn hbq=>hnone q hn (hm.disj _ q _ r' b' hM hq (hown b' hb') hbq).symm⟩
   ·cases h
  ·simp only[Mem.get]at h h';split at h
   ·split at h'
    ·rename_i e1 e2;exact e1.symm.trans e2
    ·cases h'
   ·cases h
theorem az2e {hs:List (Nat×Nat)}{h i k kk:Nat}(hg:hs[h]?=some (i,k)):(hs.set h (i,kk)).map (·.1)=hs.map (·.1):=by
 rw[List.map_set];have:=zD.1 hg;obtain⟨h1,h2⟩:=this;apply List.ext_getElem?;intro j;by_cases e:h=j
 ·subst e;rw[jx (by simpa using h1)];simp[hg]
 ·rw[jy e]
theorem Tzn {hs hs':List (Nat×Nat)}(h:hs.map (·.1)=hs'.map (·.1))(i:Nat):ozn hs i=ozn hs' i:=by
 have:∀l:List (Nat×Nat),ozn l i=(l.map (·.1)).any (·==i):=λl=>by simp[ozn,List.any_map,Function.comp_def]
 rw[this,this,h]
theorem az6d {t:qq}{x y:zI}{q:Nat}{out:Out}(ho:o.op=.store t x y)(h:Pzw P t q (env x) (env y) m=some out)(hob:holds out.obl):Sound1 P o env m id out:=by
 unfold Pzw at h;split at h
 ·rename_i j sz i hx;split at h
  ·rename_i sz' n f k e off s' e' hs hj;split at h
   ·rename_i kk ps hoffv hps;split at h
    ·rename_i z1 z2 z3 z4 z5 hk;split at h
     ·rename_i hc;simp only[qm,qf]at hc;obtain⟨⟨⟨⟨rfl,hsz⟩,hpl⟩,hpsc⟩,_⟩:=hc;split at h
      ·split at h
       ·rename_i hemp;have hemp:hs=[]:=by simpa using hemp
        subst hemp;cases h;refine az7e ho hsz hx hj hk hoffv hps hpl hpsc hob (λq hq=>?_) (by simp[ozn]) (λz hz=>.inl (by simpa using hz)) (λ_=>by simp);simp[ozn,Ne.symm hq]
       ·cases h
      ·rename_i hh;split at h
       ·rename_i h' k' hget;cases h;obtain rfl:i=h':=hob;intro F w ρ Mine M a hm g fr hrd hfe ha;obtain⟨_,_,⟨_,_,he⟩|⟨b,cap,c,q1,q2,q3,q4,q5,q6,q7,q8⟩⟩:=hm.ok j _ ((hrd j (by simp)).trans hj)
        ·rw[he]at hget;simp at hget
        have hin:=(q7.hole _ (jq hget)).1;have hfst:=az2e (kk:=kk) hget;refine az7e ho hsz hx hj hk hoffv hps hpl hpsc hin (λq hq=>Tzn hfst q) ?_ (λz hz=>?_) (λhn=>by rw[hfst];exact hn) F w ρ Mine M a hm g fr hrd hfe ha
        ·rw[Tzn hfst];exact openB_true.2 ⟨k',jq hget⟩
        ·obtain⟨q,hq⟩:=jc hz;by_cases e1:hh=q
         ·subst e1;have hlt:=(zD.1 hget).1;rw[jx hlt]at hq;cases hq;exact .inl rfl
         ·rw[jy e1]at hq;refine .inr ⟨jq hq,λe2=>e1 ?_⟩;have hnd:=q7.nodup;have l1:=(zD.1 hget).1;have l2:=(zD.1 hq).1;refine(List.getElem?_inj (by simpa using l1) hnd).1 ?_;rw[jz,jz,hget,hq];simp[e2]
       ·cases h
     ·cases h
    ·cases h
   ·cases h
  ·cases h
 ·cases h
theorem Hzg {x:Nat×Nat}{hs:List (Nat×Nat)}{i:Nat}:ozn (x::hs) i=(x.1==i||ozn hs i):=by simp[ozn]
theorem Ozn {x:Nat×Nat}{hs:List (Nat×Nat)}{i:Nat}:ozn (hs++[x]) i=(ozn hs i||x.1==i):=by simp[ozn]
theorem MemOk.openU {F:Cells}{w:qn}{ρ:Env}{Mine:Nat->Prop}{M:Mem}(hm:MemOk F w ρ Mine M){j sz n k off s' n' h new:Nat}{f g:Nat->PVal}{e e':qq}{hs:List (Nat×Nat)}
 (hj:M.get j=some (.vecU sz n f k e off s' e' hs)) (hc:(f h).cells[off]?=some (.lst s' n' g)) (hk:h<k) (hh:ozn hs h=false)
 (hnew:M.get new=none) (hfr:∀q r,M.get q=some r->r.has new=false):
 ∃x,MemOk F w (ρ.setVec new x) Mine ((j,.vecU sz n f k e off s' e' (hs++[(h,new)]))::(new,.vec s' n' g 0 e')::M):=by
 obtain⟨hoff,hkn,⟨_,hn0,_⟩|⟨b,cap,c,q1,q2,q3,q4,q5,q6,q7,q8⟩⟩:=hm.ok j _ hj
 ·omega
 obtain⟨v,v1,v2,v3,_⟩:=q7.own h _ qa hh hc;obtain⟨x,n2,g2,p1,p2,p3⟩:=v3 hk;cases p1;have hjn:j≠new:=λe1=>by rw[e1,hnew]at hj;cases hj
 have hne:∀i,i≠new->(ρ.setVec new x).vec i=ρ.vec i:=λi hi=>by simp[Env.setVec,hi]
 have hself:(ρ.setVec new x).vec new=x:=by simp[Env.setVec]
 have hinn:∀q b',InnU c sz n off k (hs++[(h,new)]) q b'->InnU c sz n off k hs q b'/\q≠h:=by
  intro q b' ⟨r1,r2,r3,r4⟩;rw[Ozn,qp]at r3;exact⟨⟨r1,r2,r3.1,r4⟩,λe=>by simp[e]at r3⟩
 have hx:∀b',x.map (·.1)=some b'->InnU c sz n off k hs h b':=by
  intro b' hb';cases x with
  |none=>cases hb'
  |some z=>
   obtain⟨z1,z2,z3⟩:=z;cases hb';exact⟨qa,hk,hh,z2,z3,by rw[v1,p2];rfl⟩
 have hgetM:∀i r,Mem.get ((j,Res.vecU sz n f k e off s' e' (hs++[(h,new)]))::(new,.vec s' n' g 0 e')::M) i=some r->
  (i=j/\r=.vecU sz n f k e off s' e' (hs++[(h,new)]))\/(i=new/\r=.vec s' n' g 0 e')\/(i≠j/\i≠new/\M.get i=some r):=by
  intro i r hi;simp only[Mem.get]at hi;split at hi
  ·rename_i e1;cases hi;exact .inl ⟨e1.symm,rfl⟩
  ·rename_i e1;split at hi
   ·rename_i e2;cases hi;exact .inr (.inl ⟨e2.symm,rfl⟩)
   ·rename_i e2;exact .inr (.inr ⟨λh=>e1 h.symm,λh=>e2 h.symm,hi⟩)
 have hvj:(ρ.setVec new x).vec j=some (b,n,cap):=by rw[hne j hjn];exact q1
 have hown:∀i r b',Mem.get ((j,Res.vecU sz n f k e off s' e' (hs++[(h,new)]))::(new,.vec s' n' g 0 e')::M) i=some r->Owns w (ρ.setVec new x) i r b'->
  (i=j/\(b'=b\/∃q,q≠h/\InnU c sz n off k hs q b'))\/(i=new/\InnU c sz n off k hs h b')\/(i≠j/\i≠new/\M.get i=some r/\Owns w ρ i r b'):=by
  intro i r b' hi hb';rcases hgetM i r hi with⟨rfl,rfl⟩|⟨rfl,rfl⟩|⟨h1,h2,h3⟩
  ·refine .inl ⟨rfl,?_⟩;rcases hb' with hb'|⟨b0,n0,cap0,c0,e0,q,r1,r2,r3⟩
   ·simp only[bzg,hvj,wQ,Option.some.injEq]at hb';exact .inl hb'.symm
   ·rw[hvj]at r1;cases r1;rw[q2]at r2;cases r2;exact .inr ⟨q,(hinn q b' r3).2,(hinn q b' r3).1⟩
  ·refine .inr (.inl ⟨rfl,hx b' ?_⟩);rw[owns_vec,hself]at hb';exact hb'
  ·exact .inr (.inr ⟨h1,h2,h3,(vzh (ρ:=ρ) (ρ':=ρ.setVec new x) ⟨rfl,hne i h2⟩ (λ_ _=>rfl) b').1 hb'⟩)
 have ob:Owns w ρ j (.vecU sz n f k e off s' e' hs) b:=.inl (by simp[bzg,q1]);have oi:∀q b',InnU c sz n off k hs q b'->Owns w ρ j (.vecU sz n f k e off s' e' hs) b':=λq b' h=>.inr ⟨b,n,cap,c,e,q,q1,q2,h⟩
 refine⟨x,λi r hi=>?_,λi r b' hi hb'=>?_,λi i' r r' b' hi hi' hb1 hb2=>?_⟩
 ·rcases hgetM i r hi with⟨rfl,rfl⟩|⟨rfl,rfl⟩|⟨h1,h2,h3⟩
  ·refine⟨hoff,hkn,.inr ⟨b,cap,c,hvj,q2,q3,q4,q5,q6,⟨q7.len,q7.cell,λq p hq ho hp=>?_,λz hz=>?_,?_,λq q' b' r1 r2=>q7.inj q q' b' (hinn q b' r1).1 (hinn q' b' r2).1⟩,λq r1=>q8 q (hinn q b r1).1⟩⟩
   ·rw[Ozn,qp]at ho;exact q7.own q p hq ho.1 hp
   ·rw[List.mem_append,wO]at hz;rcases hz with hz|rfl
    ·obtain⟨z1,z2⟩:=q7.hole z hz;have:z.2≠new:=λe1=>by
      have:=hfr _ _ hj;simp only[Res.has,List.any_eq_false]at this;exact this z hz (by simp[e1])
     exact⟨z1,by rw[hne _ this];exact z2⟩
    ·exact⟨by show h<n;omega,by show c[h * sz+off]?=_;rw[hself,v1,p2]⟩
   ·rw[List.map_append,List.nodup_append];refine⟨q7.nodup,by simp,λa ha b' hb' e1=>?_⟩;simp only[xN,xU,wO]at hb';obtain⟨z,hz,rfl⟩:=List.mem_map.1 ha;have:ozn hs h=true:=openB_true.2 ⟨z.2,by rw[<-hb',<-e1];exact hz⟩;rw[hh]at this;cases this
  ·show _/\_;rw[hself];exact p3
  ·refine(hm.ok i r h3).keep (λq=>q≠new) (λ_ _ h=>h) (λ_ _ _=>rfl) (λq hq=>⟨rfl,hne q hq⟩) h2 (λq hq=>?_) (λb' _=>⟨rfl,λ_ h=>h⟩);have:q=new:=Classical.byContradiction λh=>hq h
   subst this;exact hfr i r h3
 ·rcases hown i r b' hi hb' with⟨_,rfl|⟨q,_,h1⟩⟩|⟨_,h1⟩|⟨_,_,h3,h4⟩
  ·exact hm.mine j _ _ hj ob
  ·exact hm.mine j _ _ hj (oi q b' h1)
  ·exact hm.mine j _ _ hj (oi h b' h1)
  ·exact hm.mine i r b' h3 h4
 ·rcases hown i r b' hi hb1 with⟨e1,h1⟩|⟨e1,h1⟩|⟨a1,a2,h3,h4⟩<;>rcases hown i' r' b' hi' hb2 with⟨e2,h1'⟩|⟨e2,h1'⟩|⟨a1',a2',h3',h4'⟩
  ·rw[e1,e2]
  ·rcases h1 with rfl|⟨q,hq,h1⟩
   ·exact(q8 h h1').elim
   ·exact(hq (q7.inj q h b' h1 h1')).elim
  ·have hj':Owns w ρ j (.vecU sz n f k e off s' e' hs) b':=by
    rcases h1 with rfl|⟨q,hq,h1⟩
    ·exact ob
    ·exact oi q b' h1
   exact(a1' (hm.disj j i' _ r' b' hj h3' hj' h4').symm).elim
  ·rcases h1' with rfl|⟨q,hq,h1'⟩
   ·exact(q8 h h1).elim
   ·exact(hq (q7.inj q h b' h1' h1)).elim
  ·rw[e1,e2]
  ·exact(a1' (hm.disj j i' _ r' b' hj h3' (oi h b' h1) h4').symm).elim
  ·have hj':Owns w ρ j (.vecU sz n f k e off s' e' hs) b':=by
    rcases h1' with rfl|⟨q,hq,h1⟩
    ·exact ob
    ·exact oi q b' h1
   exact(a1 (hm.disj j i _ r b' hj h3 hj' h4).symm).elim
  ·exact(a1 (hm.disj j i _ r b' hj h3 (oi h b' h1') h4).symm).elim
  ·exact hm.disj i i' r r' b' h3 h3' h4 h4'
theorem MemOk.closeU {F:Cells}{w:qn}{ρ:Env}{Mine:Nat->Prop}{M:Mem}(hm:MemOk F w ρ Mine M){j sz n k k2 off s' n' h kk:Nat}{f g:Nat->PVal}{e e':qq}{hs:List (Nat×Nat)}
 (hj:M.get j=some (.vecU sz n f k e off s' e' ((h,kk)::hs))) (hk:M.get kk=some (.vec s' n' g 0 e')) (hkk:(k=n/\k2=k)\/(h=k/\k2=k+1)):
 MemOk F w ρ Mine ((j,.vecU sz n (iz8 f h off (.lst s' n' g)) k2 e off s' e' hs)::(kk,.gone)::M):=by
 have hjk:j≠kk:=λe1=>by rw[e1,hk]at hj;cases hj
 obtain⟨hoff,hkn,⟨_,hn0,hs0⟩|⟨b,cap,c,q1,q2,q3,q4,q5,q6,q7,q8⟩⟩:=hm.ok j _ hj
 ·cases hs0
 obtain⟨hhn,hcell⟩:=q7.hole _ (List.mem_cons_self ..);simp only at hhn hcell;have hfl:=q7.len h hhn;have hcells:(iz8 f h off (.lst s' n' g) h).cells=(f h).cells.take off++[.lst s' n' g]++(f h).cells.drop (off+1):=by
  simp only[iz8,if_true];have hnl:((f h).cells.take off++[PVal.lst s' n' g]++(f h).cells.drop (off+1)).length=(f h).cells.length:=by
   have:=ezh (f h).cells [PVal.lst s' n' g] off (by simp;omega);simpa using this
  refine rzt hnl.symm (λhsc=>?_);have h1:=PVal.cells_scalar hsc;rw[h1]at hfl⊢;obtain rfl:off=0:=by simp at hfl;omega
  simp[PVal.scalar]
 have hother:∀q,q≠h->iz8 f h off (.lst s' n' g) q=f q:=λq hq=>by simp[iz8,hq]
 have hkb:∀b',(ρ.vec kk).map (·.1)=some b'->Owns w ρ kk (.vec s' n' g 0 e') b':=λb' h=>owns_vec.2 h
 have hkok:VecAt F w s' n' g 0 e' (ρ.vec kk):=hm.ok kk _ hk;have ob:Owns w ρ j (.vecU sz n f k e off s' e' ((h,kk)::hs)) b:=.inl (by simp[bzg,q1]);have oi:∀q b',InnU c sz n off k ((h,kk)::hs) q b'->Owns w ρ j (.vecU sz n f k e off s' e' ((h,kk)::hs)) b':=λq b' h=>.inr ⟨b,n,cap,c,e,q,q1,q2,h⟩
 have hlt2:∀q,q≠h->q<n->(q<k2↔q<k):=by rcases hkk with⟨_,rfl⟩|⟨rfl,rfl⟩<;>intro q hq hqn<;>omega
 have hk2:k2<=n:=by rcases hkk with⟨_,rfl⟩|⟨rfl,rfl⟩<;>omega
 have hhk:h<k2:=by rcases hkk with⟨_,rfl⟩|⟨rfl,rfl⟩<;>omega
 have hinn:∀q b',InnU c sz n off k2 hs q b'->(q≠h/\InnU c sz n off k ((h,kk)::hs) q b')\/(q=h/\(ρ.vec kk).map (·.1)=some b'):=by
  intro q b' ⟨r1,r2,r3,n2,cap2,r4⟩;by_cases hq:q=h
  ·subst hq;refine .inr ⟨rfl,?_⟩;rw[hcell]at r4;cases hz:ρ.vec kk with
   |none=>rw[hz]at r4;simp[hzg]at r4
   |some z=>obtain⟨z1,z2,z3⟩:=z;rw[hz]at r4;simp[hzg]at r4;simp[r4.1]
  ·exact .inl ⟨hq,r1,(hlt2 q hq r1).1 r2,by rw[Hzg,r3];simp[Ne.symm hq],n2,cap2,r4⟩
 have hgetM:∀i r,Mem.get ((j,Res.vecU sz n (iz8 f h off (.lst s' n' g)) k2 e off s' e' hs)::(kk,.gone)::M) i=some r->
  (i=j/\r=.vecU sz n (iz8 f h off (.lst s' n' g)) k2 e off s' e' hs)\/(i=kk/\r=.gone)\/(i≠j/\i≠kk/\M.get i=some r):=by
  intro i r hi;simp only[Mem.get]at hi;split at hi
  ·rename_i e1;cases hi;exact .inl ⟨e1.symm,rfl⟩
  ·rename_i e1;split at hi
   ·rename_i e2;cases hi;exact .inr (.inl ⟨e2.symm,rfl⟩)
   ·rename_i e2;exact .inr (.inr ⟨λh=>e1 h.symm,λh=>e2 h.symm,hi⟩)
 have hown:∀i r b',Mem.get ((j,Res.vecU sz n (iz8 f h off (.lst s' n' g)) k2 e off s' e' hs)::(kk,.gone)::M) i=some r->Owns w ρ i r b'->
  (i=j/\(Owns w ρ j (.vecU sz n f k e off s' e' ((h,kk)::hs)) b'\/Owns w ρ kk (.vec s' n' g 0 e') b'))\/(i≠j/\i≠kk/\M.get i=some r/\Owns w ρ i r b'):=by
  intro i r b' hi hb';rcases hgetM i r hi with⟨rfl,rfl⟩|⟨rfl,rfl⟩|⟨h1,h2,h3⟩
  ·refine .inl ⟨rfl,?_⟩;rcases hb' with hb'|⟨b0,n0,cap0,c0,e0,q,r1,r2,r3⟩
   ·exact .inl (.inl hb')
   ·rw[q1]at r1;cases r1;rw[q2]at r2;cases r2;rcases hinn q b' r3 with⟨_,h1⟩|⟨_,h1⟩
    ·exact .inl (oi q b' h1)
    ·exact .inr (hkb b' h1)
  ·simp[Owns,nzl,bzg]at hb'
  ·exact .inr ⟨h1,h2,h3,hb'⟩
 refine⟨λi r hi=>?_,λi r b' hi hb'=>?_,λi i' r r' b' hi hi' hb1 hb2=>?_⟩
 ·rcases hgetM i r hi with⟨rfl,rfl⟩|⟨rfl,rfl⟩|⟨h1,h2,h3⟩
  ·refine⟨hoff,hk2,.inr ⟨b,cap,c,q1,q2,q3,q4,q5,q6,⟨λq hq=>?_,λq jj p hq hjj hp=>?_,λq p hq ho hp=>?_,λz hz=>q7.hole z (jA _ hz),(List.nodup_cons.1 q7.nodup).2,λq q' b' r1 r2=>?_⟩,λq r1=>?_⟩⟩
   ·by_cases e1:q=h
    ·subst e1;rw[hcells];have:=ezh (f q).cells [PVal.lst s' n' g] off (by simp;omega);simp only[xd]at this;rw[this];exact hfl
    ·rw[hother q e1];exact q7.len q hq
   ·by_cases e1:q=h
    ·subst e1;rw[hcells]at hp;have hog:=iz0 (f q).cells [PVal.lst s' n' g] off jj (by simp;omega);simp only[xd]at hog;rw[hog,qb qa]at hp;exact q7.cell q jj p hq hjj hp
    ·rw[hother q e1]at hp;exact q7.cell q jj p hq hjj hp
   ·by_cases e1:q=h
    ·subst e1;rw[hcells]at hp;have hog:=iz0 (f q).cells [PVal.lst s' n' g] off off (by simp;omega);simp only[xd]at hog;rw[hog,qc qa]at hp;simp only[Nat.sub_self,List.getElem?_cons_zero,Option.some.injEq]at hp;subst hp;exact⟨_,hcell,Bzj _,λ_=>⟨_,n',g,rfl,rfl,hkok⟩,λh=>qa⟩
    ·rw[hother q e1]at hp;obtain⟨v,v1,v2,v3,v4⟩:=q7.own q p hq (by rw[Hzg,ho];simp[Ne.symm e1]) hp;exact⟨v,v1,v2,λhk=>v3 ((hlt2 q e1 hq).1 hk),λhk=>v4 (Nat.le_of_not_lt λh=>by have:=(hlt2 q e1 hq).2 h;omega)⟩
   ·rcases hinn q b' r1 with⟨e1,h1⟩|⟨e1,h1⟩<;>rcases hinn q' b' r2 with⟨e2,h2⟩|⟨e2,h2⟩
    ·exact q7.inj q q' b' h1 h2
    ·exact(hjk (hm.disj _ _ _ _ b' hj hk (oi q b' h1) (hkb b' h2))).elim
    ·exact(hjk (hm.disj _ _ _ _ b' hj hk (oi q' b' h2) (hkb b' h1))).elim
    ·rw[e1,e2]
   ·rcases hinn q b r1 with⟨_,h1⟩|⟨_,h1⟩
    ·exact q8 q h1
    ·exact hjk (hm.disj _ _ _ _ b hj hk ob (hkb b h1))
  ·trivial
  ·exact hm.ok i r h3
 ·rcases hown i r b' hi hb' with⟨_,h1|h1⟩|⟨_,_,h3,h4⟩
  ·exact hm.mine j _ _ hj h1
  ·exact hm.mine kk _ _ hk h1
  ·exact hm.mine i r b' h3 h4
 ·rcases hown i r b' hi hb1 with⟨e1,h1⟩|⟨a1,a2,h3,h4⟩<;>rcases hown i' r' b' hi' hb2 with⟨e2,h1'⟩|⟨a1',a2',h3',h4'⟩
  ·rw[e1,e2]
  ·rcases h1 with h1|h1
   ·exact(a1' (hm.disj j i' _ r' b' hj h3' h1 h4').symm).elim
   ·exact(a2' (hm.disj kk i' _ r' b' hk h3' h1 h4').symm).elim
  ·rcases h1' with h1|h1
   ·exact(a1 (hm.disj j i _ r b' hj h3 h1 h4).symm).elim
   ·exact(a2 (hm.disj kk i _ r b' hk h3 h1 h4).symm).elim
  ·exact hm.disj i i' r r' b' h3 h3' h4 h4'
variable {P:qo} {o:Oper} {env:zI->AVal} {m:Mem} {id:Nat}
theorem az3d {t:qq}{x y:zI}{out:Out}(ho:o.op=.store t x y)(h:Szf P t (env x) (env y) m=some out)(hob:holds out.obl):Sound1 P o env m id out:=by cases (show none=some _ from h)
theorem Rzb {t:qq}{len:Nat}{parts:Array (Nat×zI)}{out:Out}(ho:o.op=.buildSlice t len parts)(h:Ezi P t len id env m parts.toList=some out):Sound1 P o env m id out:=by cases (show none=some _ from h)
theorem az5w {e:qq}{k:Nat}{out:Out}(ho:o.op=.alloc e)(h:Xzg P k e id=some out):Sound1 P o env m id out:=by cases (show none=some _ from h)
variable {P:qo} {o:Oper} {env:zI->AVal} {m:Mem} {id:Nat}
theorem az65 {t:qq}{x:zI}{lo hi mx:Option zI}{out:Out}(ho:o.op=.slice t x lo hi mx)
 (h:Xzi P t (env x) (lo.map env) (hi.map env) (mx.map env)=some out) (hob:holds out.obl):Sound1 P o env m id out:=by cases (show none=some _ from h)
theorem az37 {s x:zI}{ts:Array qq}{out:Out}(ho:o.op=.call {callee:=.builtin .append,args:=#[s,x],argTypes:=ts})
 (hts:∀t,ts[0]?=some t->ts[1]?=some t->ts=#[t,t]) (h:Szc P ts id (env s) (env x) m=some out) (hob:holds out.obl):Sound1 P o env m id out:=by cases (show none=some _ from h)
variable {P:qo} {o:Oper} {env:zI->AVal} {m:Mem} {id:Nat}
theorem az64 {t:qq}{x:zI}{lo hi mx:Option zI}{out:Out}(ho:o.op=.slice t x lo hi mx)
 (h:Xzh P t (env x) (lo.map env) (hi.map env) (mx.map env)=some out):Sound1 P o env m id out:=by cases (show none=some _ from h)
theorem az9h {d s:zI}{ts:Array qq}{out:Out}(ho:o.op=.call {callee:=.builtin .copy,args:=#[d,s],argTypes:=ts})(hts:ts.size=2)
 (h:az0w P ts (env d) (env s) m=some out):Sound1 P o env m id out:=by cases (show none=some _ from h)
theorem azby {x:zI}{ts:Array qq}{out:Out}(ho:o.op=.call {callee:=.builtin .len,args:=#[x],argTypes:=ts})(h:az0x P ts (env x)=some out):Sound1 P o env m id out:=by
 have hop:x∈o.op.operands:=by simp[ho,zV,Call.operands]
 unfold az0x at h;split at h
 ·rename_i i sz lo n t hx ht;split at h
  ·rename_i e hu;cases h;refine Sound1.still λF w ρ Mine M a _ _ ha=>⟨.int .i64 n,Azt ho ?_,.pure .int⟩
   have h1:=hx▸ha x hop;generalize a.eval x=u at h1⊢;cases h1 with
   |view=>simp[Builtin.len_,ht,zX hu,goInt]
   |viewN hh hn=>subst hn;simp[Builtin.len_,ht,zX hu,goInt]
  ·cases h
 ·cases h
theorem Uzf {t:qq}{x i:zI}{out:Out}(ho:o.op=.indexAddr t x i)(h:yzw P t (env x) (env i)=some out)(hob:holds out.obl):Sound1 P o env m id out:=by
 unfold yzw at h;split at h
 ·rename_i k sz lo n ik iv hx hi;split at h
  ·rename_i e hu;split at h
   ·rename_i hs;cases h;obtain⟨h0,hn⟩:=hob;refine Sound1.still λF w ρ Mine M a _ _ ha=>?_
    have hiv:a.eval i=.int ik iv:=(hi▸ha i (by simp[ho,zV])).pure_inv.int_inv;have h1:=ha x (by simp[ho,zV]);rw[hx]at h1;generalize hu':a.eval x=u at h1;cases h1 with
    |viewN hh hn'=>omega
    |@view _ _ _ _ b n0 cap ad hh hle had=>
     have had:=had (.inl qa);subst had;refine⟨.pointer (some ⟨b,(lo+iv.toNat) * sz+0,none⟩),.value ?_,.eptr hh⟩;simp only[zW,ho,Instr.indexAt,zM,hiv,hu',asIntOf,zN,zL,zX hu];simp[h0,hn,dzf hs,gzx,Nat.add_mul]
   ·cases h
  ·cases h
 ·cases h
theorem az3c {t:qq}{x:zI}{lo hi mx:Option zI}{out:Out}(ho:o.op=.slice t x lo hi mx)
 (h:Sze P t (env x) (lo.map env) (hi.map env) (mx.map env) m=some out) (hob:holds out.obl):Sound1 P o env m id out:=by cases (show none=some _ from h)
variable {P:qo} {o:Oper} {env:zI->AVal} {m:Mem} {id:Nat}
theorem az38 {s x:zI}{ts:Array qq}{out:Out}(ho:o.op=.call {callee:=.builtin .append,args:=#[s,x],argTypes:=ts})
 (hts:∀t,ts[0]?=some t->ts[1]?=some t->ts=#[t,t]) (h:Szd P ts id s (env s) (env x) m=some out) (hob:holds out.obl):Sound1 P o env m id out:=by cases (show none=some _ from h)
theorem az66 {t:qq}{x:zI}{lo hi mx:Option zI}{out:Out}(ho:o.op=.slice t x lo hi mx)
 (h:Xzj P t (env x) (lo.map env) (hi.map env) (mx.map env) m=some out) (hob:holds out.obl):Sound1 P o env m id out:=by cases (show none=some _ from h)
variable {P:qo} {o:Oper} {env:zI->AVal} {m:Mem} {id:Nat}
theorem Uzx {n:Int}(h0: -9223372036854775808<=n)(h1:n<=9223372036854775807):IntKind.i64.wrap n=n:=by
 simp only[IntKind.wrap,IntKind.bits,IntKind.signed,Bool.true_and,ge_iff_le,qf];split<;>omega
theorem Nz9 {F:Cells}{w:qn}{ρ:Env}{Mine:Nat->Prop}{M:Mem}(hm:MemOk F w ρ Mine M)(g:Good F w Mine)(fr:Fresh id M){t e:qq}{sz by_:Nat}{z:List qr}{ps:List PVal}{p:PVal}{l c:Int}
 (hu:P.underlying t=some (.slice e)) (hs:cz2 P e=some sz) (hby:Bz6 P e=some by_) (hz:oz5 P e=some z) (hzl:z.length=sz) (hps:allP (z.map fzl)=some ps) (hsc:ps.all (·.scalar)=true)
 (hpc:p.cells=ps) (h0:0<=l) (h1:l<=c) (h2:c<=9223372036854775807) (h3:c * by_<=140737488355328):
 ∃v w' F' ρ',(Instr.makeSlice t (.int .i64 l) (.int .i64 c)).run P w=.ok v w'/\Step Mine F w F' w'/\dzr id ρ ρ'/\ARel F' w' ρ' (.vec id) v/\MemOk F' w' ρ' Mine ([(id,.vec sz l.toNat (λ_=>p) 0 e)]++M):=by
 obtain⟨i,zv,hi,hzv,hzz⟩:=mzz hz;obtain⟨i',hi',hsz⟩:=hz8 hs;rw[hi]at hi';cases hi';obtain⟨i',hi',hbb⟩:=szj hby;rw[hi]at hi';cases hi';have hzs:zv.cells.size=sz:=by rw[<-hzl,<-hzz];simp
 have hwl:=Uzx (n:=l) qa qa;have hwc:=Uzx (n:=c) qa qa;have hbc:¬ (281474976710656<(by_:Int) * c):=by rw[xr];omega
 obtain⟨A,hA⟩:∃A:Array qr,A=(jB (c.toNat * sz)).map (λx=>zv.cells[x % zv.cells.size]!):=⟨_,rfl⟩;have hrun:(Instr.makeSlice t (.int .i64 l) (.int .i64 c)).run P w=.ok (.slice (some ⟨w.heap.size,0,none⟩) l.toNat c.toNat) (w.alloc (.cells A e)):=by
  have hnl:¬l<0:=qa
  have hcl:¬l>c:=qa
  have hc0:¬c<0:=qa
  have hb48:¬ (by_:Int) * c>2 ^ 48:=by simpa using hbc
  simp only[Instr.makeSlice,zM,zX hu,zL,asInt,asIntOf,zN,typeInfo,run_program,hi,hwl,hwc,hbb,dzf hs,
   hc0,hnl,hcl,hb48,decide_false,jC,zi,if_false,run_askRoom]
  by_cases hn:c.toNat * sz=0
  ·rw[qc hn];have hA0:A=#[]:=by rw[hA];simp[hn]
   have e0:(jB 0:Array Nat)=#[]:=by decide
   simp only[hn,newRow,zM,run_newObj,zN,zL,hA0,e0,jD,xU];rfl
  ·rw[qb hn];simp[newRow,zeroValue,typeInfo,hi,hzv,hA]
 have hsize:A.size=c.toNat * sz:=by rw[hA];simp
 have hel:∀ (q j:Nat) (x:PVal),q<c.toNat->ps[j]?=some x->∃v,A[q * sz+j]?=some v/\v.oneCell'=true/\PRel F (w.alloc (.cells A e)) x v:=by
  intro q j x hq hx;obtain⟨hl1,hl2⟩:=nz0 hps;have hj:j<sz:=by have:=(zD.1 hx).1;simp at hl1;omega
  obtain⟨aa,ha1,ha2⟩:=hl2 j x hx;simp only[jz,zT]at ha1;obtain⟨v,hv,rfl⟩:=ha1;have hr:=(gzz (F:=F) (w:=w.alloc (.cells A e)) (ρ:=ρ) v).toP ha2;refine⟨v,?_,hr.one (ql.1 hsc x (jq hx)),hr⟩;have hlt:=qz9 hq hj;have hmod:(q * sz+j) % sz=j:=by rw[jf,jE];exact jF hj
  have hzj:zv.cells[j]?=some v:=by rw[<-hzz]at hv;simpa using hv
  rw[hA];rw[jG,jH];simp only[hlt,if_true,wQ,hzs,hmod];simp[getElem!_def,hzj]
 have st:Step Mine F w F (w.alloc (.cells A e)):=by
  have s:=Step.alloc g (.cells A e) (λ_=>False);exact⟨λ_ _ h=>h,s.cell,λ_ _ h=>.inl h,λb o h=>by have:=g.lt b o h;simp;omega,s.keep⟩
 have hv:(ρ.setVec id (some (w.heap.size,l.toNat,c.toNat))).vec id=some (w.heap.size,l.toNat,c.toNat):=qc rfl;have hpl:ps.length=sz:=by have:=(nz0 hps).1;simp at this;omega
 have hmem:=hm.newVec fr st (some (w.heap.size,l.toNat,c.toNat)) [] sz l.toNat 0 (λ_=>p) e
  ⟨Nat.zero_le _,.inr ⟨w.heap.size,c.toNat,A,hv,heap_alloc_new w _,qa,by simp only[maxLen];omega,hsize,λo hF=>absurd (g.lt _ _ hF) qa,λ_ _=>by rw[hpc];exact hpl,λq j x hq hx=>hel q j x qa (by rw[<-hpc];exact hx)⟩⟩
  (λb hb=>by
   simp at hb;subst hb;exact⟨g.mine _ (wz _),by simp,λq r' hq _ hbq=>absurd (hm.mine q r' _ hq hbq).2 qa⟩)
  (λj r b hj _ hbj=>⟨heap_alloc_old w _ (hm.mine j r b hj hbj).2,λ_ h=>h⟩)
 exact⟨_,_,F,_,hrun,st,czm ρ id _,.vec hv,by simpa using hmem⟩
theorem Mzh {t:qq}{x y:zI}{out:Out}(ho:o.op=.makeSlice t x y)(h:vzu P t id (env x) (env y)=some out)(hob:holds out.obl):Sound1 P o env m id out:=by
 unfold vzu at h;split at h
 ·rename_i l c hx hy;split at h
  ·rename_i e hu;split at h
   ·rename_i sz by_ z hs hby hz;split at h
    ·rename_i hzl;split at h
     ·rename_i ps hps;split at h
      ·rename_i hsc
       have fin:∀ (p:PVal),p.cells=ps->(0<=l/\l<=c/\c<=9223372036854775807/\c * by_<=140737488355328)->
        Sound1 P o env m id ⟨.vec id,[],[(id,.vec (sz+1) l.toNat (λ_=>p) 0 e)],some (0<=l/\l<=c/\c<=9223372036854775807/\c * by_<=140737488355328)⟩:=by
        intro p hp hb F w ρ Mine M a hm g fr _ _ ha;obtain⟨v,w',F',ρ',h1,h2,h3,h4,h5⟩:=Nz9 (P:=P) hm g fr hu hs hby hz hzl hps hsc hp hb.1 hb.2.1 hb.2.2.1 hb.2.2.2;have e1:=(hx▸ha x (by simp[ho,zV])).pure_inv.int_inv;have e2:=(hy▸ha y (by simp[ho,zV])).pure_inv.int_inv;exact⟨v,w',F',ρ',.value (by simp only[zW,ho,zM,e1,e2,h1,zL,zN]),h2,h3,h4,h5⟩
       split at h
       ·cases h;exact fin (.agg ps) rfl hob
       ·split at h
        ·rename_i p;cases h;exact fin p (PVal.cells_scalar (by simpa using hsc)) hob
        ·cases h
       ·cases h
      ·cases h
     ·cases h
    ·cases h
   ·cases h
  ·cases h
 ·cases h
theorem Qza {w:qn}{t e:qq}{sz by_:Nat}{z:List qr}{l c:Int}
 (hu:P.underlying t=some (.slice e)) (hs:cz2 P e=some sz) (hby:Bz6 P e=some by_) (hz:oz5 P e=some z) (hzl:z.length=sz) (h0:0<=l) (h1:l<=c) (h2:c<=9223372036854775807) (h3:c * by_<=140737488355328):
 ∃A:Array qr,(Instr.makeSlice t (.int .i64 l) (.int .i64 c)).run P w=.ok (.slice (some ⟨w.heap.size,0,none⟩) l.toNat c.toNat) (w.alloc (.cells A e))/\A.size=c.toNat * sz/\
  ∀ (q j:Nat) (v:qr),q<c.toNat->z[j]?=some v->A[q * sz+j]?=some v:=by
 obtain⟨i,zv,hi,hzv,hzz⟩:=mzz hz;obtain⟨i',hi',hsz⟩:=hz8 hs;rw[hi]at hi';cases hi';obtain⟨i',hi',hbb⟩:=szj hby;rw[hi]at hi';cases hi';have hzs:zv.cells.size=sz:=by rw[<-hzl,<-hzz];simp
 have hwl:=Uzx (n:=l) qa qa;have hwc:=Uzx (n:=c) qa qa;have hbc:¬ (281474976710656<(by_:Int) * c):=by rw[xr];omega
 obtain⟨A,hA⟩:∃A:Array qr,A=(jB (c.toNat * sz)).map (λx=>zv.cells[x % zv.cells.size]!):=⟨_,rfl⟩;refine⟨A,?_,by rw[hA];simp,λq j v hq hv=>?_⟩
 ·have hnl:¬l<0:=qa
  have hcl:¬l>c:=qa
  have hc0:¬c<0:=qa
  have hb48:¬ (by_:Int) * c>2 ^ 48:=by simpa using hbc
  simp only[Instr.makeSlice,zM,zX hu,zL,asInt,asIntOf,zN,typeInfo,run_program,hi,hwl,hwc,hbb,dzf hs,
   hc0,hnl,hcl,hb48,decide_false,jC,zi,if_false,run_askRoom]
  by_cases hn:c.toNat * sz=0
  ·rw[qc hn];have hA0:A=#[]:=by rw[hA];simp[hn]
   have e0:(jB 0:Array Nat)=#[]:=by decide
   simp only[hn,newRow,zM,run_newObj,zN,zL,hA0,e0,jD,xU];rfl
  ·rw[qb hn];simp[newRow,zeroValue,typeInfo,hi,hzv,hA]
 ·have hj:j<sz:=by have:=(zD.1 hv).1;omega
  have hlt:=qz9 hq hj;have hmod:(q * sz+j) % sz=j:=by rw[jf,jE];exact jF hj
  have hzj:zv.cells[j]?=some v:=by rw[<-hzz]at hv;simpa using hv
  rw[hA];rw[jG,jH];simp only[hlt,if_true,wQ,hzs,hmod];simp[getElem!_def,hzj]
theorem Uzh {t:qq}{x y:zI}{out:Out}(ho:o.op=.makeSlice t x y)(h:yzy P t id (env x) (env y)=some out)(hob:holds out.obl):Sound1 P o env m id out:=by
 unfold yzy at h;split at h
 ·rename_i l c hx hy;split at h
  ·rename_i e hu;split at h
   ·rename_i by_ e' hs hby hz hu';split at h
    ·rename_i sz hs';cases h;obtain⟨h0,h1,h2,h3⟩:=hob;intro F w ρ Mine M a hm g fr _ _ ha;have e1:=(hx▸ha x (by simp[ho,zV])).pure_inv.int_inv;have e2:=(hy▸ha y (by simp[ho,zV])).pure_inv.int_inv;obtain⟨A,hrun,hA,hget⟩:=Qza (P:=P) (w:=w) hu hs hby hz rfl h0 h1 h2 h3;have hnil:∀q,q<c.toNat->A[q]?=some (.slice none 0 0):=λq hq=>by
      have:=hget q 0 _ hq rfl;simpa using this
     have st:Step Mine F w F (w.alloc (.cells A e)):=by
      have s:=Step.alloc g (.cells A e) (λ_=>False);exact⟨λ_ _ h=>h,s.cell,λ_ _ h=>.inl h,λb o h=>by have:=g.lt b o h;simp;omega,s.keep⟩
     have hv:(ρ.setVec id (some (w.heap.size,l.toNat,c.toNat))).vec id=some (w.heap.size,l.toNat,c.toNat):=qc rfl;have hno:∀q b,¬Inn A l.toNat none q b:=by
      intro q b ⟨r1,_,n',cap',r3⟩;rw[hnil q qa]at r3;simp at r3
     have hget1:∀k r,Mem.get [(id,Res.vecT sz l.toNat (λ_=>.lst sz 0 λ_=>.unk) e e' none)] k=some r->k=id/\r=.vecT sz l.toNat (λ_=>.lst sz 0 λ_=>.unk) e e' none:=by
      intro k r hk;simp only[Mem.get]at hk;split at hk
      ·rename_i e1;subst e1;cases hk;exact⟨rfl,rfl⟩
      ·cases hk
     refine⟨_,_,F,ρ.setVec id (some (w.heap.size,l.toNat,c.toNat)),.value (by simp only[zW,ho,zM,e1,e2,hrun,zL,zN]),st,czm ρ id _,.vec hv,MemOk.step hm st (λi=>¬Own id i) (czm ρ id _) _ (λj r h _=>?_) (λj r h=>?_) (λj j' r r' b h h' _ _=>?_)⟩
     ·obtain⟨q1,q2,q3⟩:=Tzm hm fr (.cells A e) (λ_=>False) j r h;exact⟨q1,q2,λb hb=>⟨(q3 b hb).1,λ_ h=>h⟩⟩
     ·obtain⟨rfl,rfl⟩:=hget1 j r h;refine⟨⟨w.heap.size,c.toNat,A,hv,heap_alloc_new w _,qa,by simp only[maxLen];omega,qa,λo hF=>absurd (g.lt _ _ hF) qa,λq hq=>⟨_,hnil q qa,rfl,.inr ⟨none,0,λ_=>.unk,rfl,rfl,wz _,.inl ⟨rfl,rfl⟩⟩⟩,λq q' b h=>absurd h (hno q b),λq h=>hno q _ h⟩,λb hb=>?_⟩;rcases hb with hb|⟨b0,n0,cap,c0,e0,q,r1,r2,r3⟩
      ·simp only[bzg,hv,wQ,Option.some.injEq]at hb;subst hb;exact⟨g.mine _ (wz _),by simp,λq r' hq _ hbq=>absurd (hm.mine q r' _ hq hbq).2 qa⟩
      ·rw[hv]at r1;cases r1;rw[heap_alloc_new w _]at r2;cases r2;exact absurd r3 (hno q b)
     ·obtain⟨rfl,rfl⟩:=hget1 j r h;obtain⟨rfl,rfl⟩:=hget1 j' r' h';rfl
    ·cases h
   ·cases h
  ·cases h
 ·cases h
theorem Oz7 {mx:Bool}{f:Int->Int->Int}(hf:f=if mx then(λa b=>max a b)else(λa b=>min a b)){k:IntKind}{F:Cells}{w:qn}{ρ:Env}:∀ (l:List AVal) (vs:List qr) (a r:Int),Oz6 f k a l=some r->l.length=vs.length->(∀ (j:Nat) (x:AVal) (v:qr),l[j]?=some x->vs[j]?=some v->ARel F w ρ x v)->
 (vs.foldlM (if mx then Builtin.max2 else Builtin.min2) (.int k a)).run P w=.ok (.int k r) w
 |[],[],a,r,h,_,_=>by simp[Oz6]at h;subst h;rfl
 |[],_::_,_,_,_,hl,_=>by simp at hl
 |_::_,[],_,_,_,hl,_=>by simp at hl
 |x::l,v::vs,a,r,h,hl,hr=>by
  have hx:=hr 0 x v (by simp) (by simp);obtain⟨b,rfl,h2⟩:∃b,x=.pure (.int k b)/\Oz6 f k (f a b) l=some r:=by
   match x,h with
   | .pure (.int k' b),h=>
     simp only[Oz6]at h;split at h
     ·rename_i hk;subst hk;exact⟨b,rfl,h⟩
     ·cases h
  have hv:=hx.pure_inv.int_inv;subst hv;have ih:=Oz7 hf l vs _ r h2 (by simpa using hl) (λj x v h1 h2=>hr (j+1) x v (by simpa using h1) (by simpa using h2));cases mx with
  |true=>
   simp only[if_true]at ih hf⊢;subst hf;simp only[jI,Builtin.max2,zM,zN,zL];rw[show(if b>a then b else a)=max a b from qa];exact ih
  |false=>
   simp only[zi,if_false]at ih hf⊢;subst hf;simp only[jI,Builtin.min2,zM,zN,zL];rw[show(if b<a then b else a)=min a b from qa];exact ih
theorem Yzi {b:Builtin}{mx:Bool}{ff:Int->Int->Int}(hff:ff=if mx then(λa b=>max a b)else(λa b=>min a b)){xs:Array zI}{ts:Array qq}{p:PVal}(hb:b=if mx then .max else .min)(ho:o.op=.call {callee:=.builtin b,args:=xs,argTypes:=ts})
 (h:Jzw ff (xs.toList.map env)=some p):Sound1 P o env m id (.v (.pure p)):=by
 unfold Jzw at h;split at h
 ·rename_i k a' l hl;split at h
  ·rename_i r hr;cases h;refine Sound1.still λF w ρ Mine M a _ _ ha=>?_
   obtain⟨x,ys,hxs⟩:∃x ys,xs.toList=x::ys:=by
    cases hh:xs.toList with
    |nil=>rw[hh]at hl;simp at hl
    |cons x ys=>exact⟨x,ys,rfl⟩
   rw[hxs,xN]at hl;simp only[List.cons.injEq]at hl;obtain⟨hx,rfl⟩:=hl;have hmem:∀z∈xs.toList,z∈o.op.operands:=λz hz=>by simp[ho,zV,Call.operands];simpa using hz
   have e1:=(hx▸ha x (hmem x (by rw[hxs];simp))).pure_inv.int_inv;have hf:=Oz7 (P:=P) hff (F:=F) (w:=w) (ρ:=ρ) (ys.map env) (ys.map a.eval) a' r hr (by simp) (λj u v hu hv=>by
    simp only[jz,zT]at hu hv;obtain⟨z,hz,rfl⟩:=hu;obtain⟨z',hz',rfl⟩:=hv;rw[hz]at hz';cases hz';exact ha z (hmem z (by rw[hxs];exact jA _ (jq hz))))
   have hargs:(xs.map a.eval).toList=a.eval x::ys.map a.eval:=by simp[hxs]
   refine⟨.int k r,.value ?_,.pure .int⟩;cases mx with
   |true=>
    simp only[if_true]at hb hf;subst hb;simp only[zW,ho,resolve,zM,zN,zL,invoke,builtin,Builtin.max_,hargs,e1,hf]
   |false=>
    simp only[zi,if_false]at hb hf;subst hb;simp only[zW,ho,resolve,zM,zN,zL,invoke,builtin,Builtin.min_,hargs,e1,hf]
  ·cases h
 ·cases h
theorem kz5 {out:Out}(h:evOp P o.op id env m=some out)(hob:holds out.obl):Sound1 P o env m id out:=by
 generalize hop:o.op=op at h;cases op<;>simp only[evOp]at h
 all_goals try(cases h;done)
 case move x=>cases h;exact azc0 hop
 case assign x=>
  split at h
  ·rename_i hn;have:x=.const (.slice none 0 0):=by
    unfold azaz at hn;split at hn
    ·rfl
    ·cases hn
   subst this;cases h;exact azct hop
  ·cases h;exact az60 hop
 case pick c x y=>
  split at h
  ·rename_i hc;cases h;exact az7b (b:=true) hop hc
  ·rename_i hc;cases h;exact az7b (b:=false) hop hc
  ·cases h
 case alloc t=>
  split at h
  ·rename_i z hz;split at h
   ·rename_i hc;simp only[qm,qf]at hc;cases h;exact az9f hop hz hc.1 hc.2
   ·cases h
  ·cases h
 case box t x=>
  split at h
  ·rename_i hc;cases h;exact azcr hop hc
  ·cases h
 case build t ps=>exact az9g hop h
 case buildSlice t n ps=>
  split at h
  ·rename_i out' ho';cases h;exact Uzc hop ho'
  ·exact Rza hop h
 case load t a=>
  split at h
  ·rename_i out' ho';cases h;exact az9l hop ho' hob
  ·split at h
   ·rename_i out' ho';cases h;exact az9n hop ho' hob
   ·exact azbz hop h hob
 case store t a v=>
  split at h
  ·rename_i out' ho';cases h;exact az6c hop ho' hob
  ·split at h
   ·rename_i out' ho';cases h;exact az6e hop ho' hob
   ·split at h
    ·rename_i out' ho';cases h;exact az3d hop ho' hob
    ·split at h
     ·rename_i out' ho';cases h;exact az6b hop ho'
     ·split at h
      ·rename_i out' ho';cases h;exact az6a hop ho' hob
      ·split at h
       ·rename_i out' ho';cases h;exact az69 hop ho' hob
       ·exact Rzc hop h hob
 case nilCheck x=>
  split at h<;>rename_i hx<;>first|(cases h;rw[<-hx];exact az00 hop (by rw[hx];trivial))|(cases h)
 case binOp op t x y t'=>
  split at h
  ·rename_i p q hp hq;split at h
   ·rename_i r ob hr;cases h;exact azcq hop hp hq hr hob
   ·cases h
  ·cases h
 case unOp op t x=>
  split at h
  ·rename_i hx;split at h
   ·cases h;exact azc1 (b:=true) hop hx
   ·cases h
  ·rename_i hx;split at h
   ·cases h;exact azc1 (b:=false) hop hx
   ·cases h
  ·rename_i p hx;split at h
   ·rename_i r hr;cases h;exact s_un hop hx hr
   ·cases h
  ·cases h
 case convert s d x=>
  split at h
  ·rename_i p hp;split at h
   ·rename_i r hr;split at h
    ·rename_i hs;cases h;exact azbx hop hs hp hr
    ·cases h
   ·cases h
  ·cases h
 case makeFunc fn a b=>
  split at h
  ·cases h;exact Zzz hop
  ·cases h
 case makeSlice t l c=>exact Mzh hop h hob
 case makeMap t r=>
  split at h
  ·exact az3b hop h
  ·cases h
 case lookup t x ix ok=>exact az63 hop h hob
 case mapUpdate t x k v=>exact Mzi (.inl hop) h
 case insert t x k v=>exact Mzi (.inr hop) h
 case slice t x lo hi mx=>
  split at h
  ·rename_i out' ho';cases h;exact az65 hop ho' hob
  ·split at h
   ·rename_i out' ho';cases h;exact az64 hop ho'
   ·split at h
    ·rename_i out' ho';cases h;exact az3c hop ho' hob
    ·split at h
     ·rename_i out' ho';cases h;exact az66 hop ho' hob
     ·exact az9p hop h hob
 case fieldAddr s x f=>exact az9i hop h
 case field s x f=>exact az61 hop h
 case indexAddr t x i=>
  split at h
  ·rename_i out' ho';cases h;exact Uze hop ho' hob
  ·split at h
   ·rename_i out' ho';cases h;exact Uzg hop ho' hob
   ·split at h
    ·rename_i out' ho';cases h;exact Uzd hop ho' hob
    ·split at h
     ·rename_i out' ho';cases h;exact Uzf hop ho' hob
     ·exact Wzr hop h hob
 case makeInterface t x=>exact az9j hop h
 case typeAssert x xt a ok=>exact az5z hop h
 case index t x i=>exact az9k hop h hob
 case range t x=>
  split at h
  ·rename_i s hu hx;cases h;exact az9o hop hu hx
  ·cases h
 case extract x i=>
  split at h
  ·rename_i cs hx;split at h
   ·rename_i v hv;cases h;exact az3a hop hx hv
   ·cases h
  ·cases h
 case call c=>
  split at h
  ·rename_i b hb;obtain⟨callee,args,ts⟩:=c;simp only at hb h;subst hb;unfold Ezj at h;split at h
   ·split at h
    ·rename_i x hx;have:args=#[x]:=by rw[<-jJ (xs:=args),hx]
     subst this;split at h
     ·rename_i out' ho';cases h;exact azby hop ho'
     ·exact azcs hop h
    ·cases h
   ·split at h
    ·rename_i d s hx;have:args=#[d,s]:=by rw[<-jJ (xs:=args),hx]
     subst this;split at h
     ·rename_i hsz;exact az9h hop hsz h
     ·cases h
    ·cases h
   ·split at h
    ·rename_i s x hx;have:args=#[s,x]:=by rw[<-jJ (xs:=args),hx]
     subst this;split at h
     ·rename_i hsz;have hts:∀t,ts[0]?=some t->ts[1]?=some t->ts=#[t,t]:=λt h0 h1=>by
       refine Array.ext (by simpa using hsz) λi hi _=>?_
       have hi2:i<2:=qa
       match i,hi2 with
       |0,_=>simpa[zE (show 0<ts.size from qa)]using h0
       |1,_=>simpa[zE (show 1<ts.size from qa)]using h1
      split at h
      ·rename_i out' ho';cases h;exact az39 hop hts ho' hob
      ·split at h
       ·rename_i out' ho';cases h;exact az37 hop hts ho' hob
       ·exact az5y hop hts h hob
     ·cases h
    ·cases h
   ·split at h
    ·rename_i p hp;cases h;exact Yzi (mx:=false) rfl rfl hop hp
    ·cases h
   ·split at h
    ·rename_i p hp;cases h;exact Yzi (mx:=true) rfl rfl hop hp
    ·cases h
   ·cases h
  ·cases h
end Go.Abs
