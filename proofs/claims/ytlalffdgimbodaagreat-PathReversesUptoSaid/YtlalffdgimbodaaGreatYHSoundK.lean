/-
  SoundK (a part of a claim: our own text).
-/
import Derived.Test.YtlalffdgimbodaaGreatYHSoundT
import Derived.Laws.CopyRow
namespace Go.Abs
variable {P:Program} {o:Oper} {env:Operand->AVal} {m:Mem} {id:Nat}
theorem openB_true {hs:List (Nat×Nat)}{i:Nat}:nz1 hs i=true↔∃k,(i,k)∈hs:=by
 simp only[nz1,List.any_eq_true,beq_iff_eq,Prod.exists]
 exact⟨fun ⟨a,b,h,e⟩=>⟨b,e▸h⟩,fun ⟨b,h⟩=>⟨i,b,h,rfl⟩⟩
theorem az4k {t:TypeId}{x:Operand}{q:Nat}{out:Out}(ho:o.op=.load t x)(h:Rzc P t q (env x) m=some out)(hob:holds out.obl):Sound1 P o env m id out:=by
 unfold Rzc at h
 split at h
 ·rename_i j sz i hx
  split at h
  ·rename_i sz' n f k e off s' e' hs hj
   split at h
   ·rename_i hc
    simp only[Bool.and_eq_true,decide_eq_true_eq]at hc
    obtain⟨⟨rfl,hsz⟩,hag⟩:=hc
    have key:∀ (val:AVal) (ob:Option Prop),i<n->(∀ (F:Cells) (w:World) (ρ:Env) (c:Array Value),UOk F w ρ c sz n f k off s' e' hs->off<sz->∀vs:Array Value,vs.size=sz->(∀jj,jj<sz->vs[jj]?=c[i * sz+jj]?)->ARel F w ρ val (.agg vs))->
     Sound1 P o env m id ⟨val,[j],[],ob⟩:=by
     intro val ob hin hv
     refine Sound1.still fun F w ρ Mine M a hm hrd ha=>?_
     have hax:=ha x (by simp[ho,Op.operands])
     rw[hx]at hax
     obtain⟨hoff,hkn,⟨_,hn0,_⟩|⟨b,cap,c,q1,q2,q3,q4,q5,q6,q7,q8⟩⟩:=hm.ok j _ ((hrd j (by simp)).trans hj)
     ·omega
     generalize hu:a.eval x=u at hax
     cases hax with
     |eptr hvec=>
      rw[hvec]at q1;cases q1
      have hsub:i * sz+sz≤c.size:=by rw[q5,←Nat.succ_mul];exact Nat.mul_le_mul_right _ (by omega)
      have hr:=lz1 (P:=P) (t:=t) (b:=b) (off:=i * sz+0) q2 (.inl ⟨hag,sz,hsz,by omega,rfl⟩)
      refine⟨.agg (c.extract (i * sz+0) (i * sz+0+sz)),.value (by simp only[execOp,ho,Instr.loadAt,Instr.sureAddr,hu,Sem.run_bind,Sem.run_pure,Result.andThen_ok,hr]),hv F w ρ c q7 hoff _ (by simp;omega) fun jj hjj=>?_⟩
      rw[Array.getElem?_extract,if_pos (by omega)]
      simp
    split at h
    ·split at h
     ·rename_i hemp
      have hemp:hs=[]:=by simpa using hemp
      subst hemp
      cases h
      obtain⟨hki,hin⟩:=hob
      refine key _ _ hin fun F w ρ c hU hoff vs hl hg=>.pure (.agg (by rw[hU.len i hin,hl]) fun jj p v hp hv=>?_)
      have hjj:jj<sz:=by have:=(List.getElem?_eq_some_iff.1 hp).1;rw[hU.len i hin]at this;exact this
      rw[hg jj hjj]at hv
      by_cases e0:jj=off
      ·subst e0
       obtain⟨v',v1,_,_,v4⟩:=hU.own i p hin rfl hp
       rw[v1]at hv;cases hv;exact v4 hki
      ·obtain⟨v',v1,_,v3⟩:=hU.cell i jj p hin e0 hp
       rw[v1]at hv;cases hv;exact v3
     ·cases h
    ·rename_i hh
     split at h
     ·rename_i h' k' hget
      cases h
      obtain rfl:i=h':=hob
      have hmem:(i,k')∈hs:=List.mem_of_getElem? hget
      intro F w ρ Mine M a hm g fr hrd hfe ha
      obtain⟨_,_,⟨_,_,he⟩|⟨b,cap,c,q1,q2,q3,q4,q5,q6,q7,q8⟩⟩:=hm.ok j _ ((hrd j (by simp)).trans hj)
      ·rw[he]at hmem;cases hmem
      have hin:=(q7.hole _ hmem).1
      refine key _ _ hin (fun F w ρ c hU hoff vs hl hg=>.agg (by rw[List.length_set,List.length_map,hU.len i hin,hl]) fun jj a v hp hv=>?_) F w ρ Mine M a hm g fr hrd hfe ha
      have hjj:jj<sz:=by have:=(List.getElem?_eq_some_iff.1 hp).1;rw[List.length_set,List.length_map,hU.len i hin]at this;exact this
      rw[hg jj hjj]at hv
      by_cases e0:jj=off
      ·subst e0
       rw[(hU.hole _ hmem).2]at hv;cases hv
       rw[List.getElem?_set_self (by rw[List.length_map,hU.len i hin];exact hjj)]at hp
       cases hp
       exact zz6 _
      ·rw[List.getElem?_set_ne (Ne.symm e0),List.getElem?_map,Option.map_eq_some_iff]at hp
       obtain⟨p,hp,rfl⟩:=hp
       obtain⟨v',v1,_,v3⟩:=hU.cell i jj p hin e0 hp
       rw[v1]at hv;cases hv;exact .pure v3
     ·cases h
   ·cases h
  ·cases h
 ·cases h
theorem az2e {t:TypeId}{x y:Operand}{j sz n i k off s' kk:Nat}{f:Nat->PVal}{e e':TypeId}{hs hs':List (Nat×Nat)}{ps:List PVal}{ob:Option Prop}{rk:Res}(ho:o.op=.store t x y)(hsz:bzu P t=some sz)
 (hx:env x=.eptr j sz i 0) (hj:m.get j=some (.vecU sz n f k e off s' e' hs)) (hk:m.get kk=some rk) (hoffv:(env y).cells[off]?=some (.vec kk)) (hps:allP ((env y).cells.set off (.pure .unk))=some ps) (hpl:ps.length=sz) (hpsc:ps.all (·.scalar)=true)
 (hin:i<n) (h1:∀q,q≠i->nz1 hs' q=nz1 hs q) (h2:nz1 hs' i=true) (h3:∀z∈hs',z=(i,kk)\/(z∈hs/\z.1≠i)) (h4:(hs.map (·.1)).Nodup->(hs'.map (·.1)).Nodup):
 Sound1 P o env m id ⟨.any,[j,kk],[(j,.vecU sz n (fun q=>if q=i then .agg ps else f q) k e off s' e' hs')],ob⟩:=by
 have run:∀ {a:Act} {w w':World} {b off:Nat},a.eval x=.pointer (some ⟨b,off,none⟩)->(storeVar t ⟨b,off,none⟩ (a.eval y)).run P w=.ok () w'->Ran P o a w undef w':=by
  intro a w w' b off hx hr
  exact .inr ⟨by simp[execOp,ho,Instr.storeAt,Instr.sureAddr,hx,hr],rfl⟩
 intro F w ρ Mine M a hm g fr hrd hfe ha
 have hM:=(hrd j (by simp)).trans hj
 have hax:=ha x (by simp[ho,Op.operands])
 have hay:=ha y (by simp[ho,Op.operands])
 rw[hx]at hax
 generalize hu:a.eval x=u at hax
 cases hax with
 |eptr hvec=>
  rename_i b n' cap
  obtain⟨hoff,hkn,⟨_,hn0,_⟩|⟨b',cap',c,hv',hb,hnc,hcm,hcsz,hF,hU,hnin⟩⟩:=hm.ok j _ hM
  ·omega
  rw[hvec]at hv';cases hv'
  obtain⟨hpl',hpg⟩:=lzq hps
  have hyl:(env y).cells.length=sz:=by rw[←hpl,←hpl',List.length_set]
  have hallsc:(env y).cells.all (·.scalar)=true:=by
   have h5:=Hz3 hps hpsc
   rw[List.all_eq_true]at h5⊢
   intro z hz
   obtain⟨q,hq⟩:=List.getElem?_of_mem hz
   by_cases e0:q=off
   ·subst e0;rw[hoffv]at hq;cases hq;rfl
   ·exact h5 z (List.mem_of_getElem? (i:=q) (by rw[List.getElem?_set_ne (Ne.symm e0)];exact hq))
  obtain⟨hvs,hvc⟩:=hay.cells hallsc
  have h5:∀u∈(a.eval y).cells.toList,u.oneCell'=true:=by
   intro u hu'
   obtain⟨q,hq⟩:=List.getElem?_of_mem hu'
   have hlt:q<(env y).cells.length:=by have:=(List.getElem?_eq_some_iff.1 hq).1;simp at this;omega
   exact(hvc q _ u (List.getElem?_eq_getElem hlt) (by simpa using hq)).2
  have hsub:i * sz+sz≤c.size:=by rw[hcsz,←Nat.succ_mul];exact Nat.mul_le_mul_right _ (by omega)
  have hr:=qzh (P:=P) (off:=i * sz+0) hsz (by omega) hb (by omega) h5
  have hvlen:(a.eval y).cells.toList.length=sz:=by simp;omega
  have hget:∀q,((c.toList.take (i * sz+0)++(a.eval y).cells.toList++c.toList.drop (i * sz+0+(a.eval y).cells.toList.length)).toArray)[q]?=
   if i * sz≤q/\q<i * sz+sz then(a.eval y).cells[q-i * sz]? else c[q]?:=by
   intro q
   rw[List.getElem?_toArray,hzk _ _ _ _ (by simp;omega),hvlen]
   simp
  generalize hc':(c.toList.take (i * sz+0)++(a.eval y).cells.toList++c.toList.drop (i * sz+0+(a.eval y).cells.toList.length)).toArray=c' at hr hget
  have hsz':c'.size=cap * sz:=by
   rw[←hc',List.size_toArray,ez5 _ _ _ (by simp;omega)];simpa using hcsz
  have hbj:Owns w ρ j (.vecU sz n f k e off s' e' hs) b:=.inl (by simp[bzb,hvec])
  have hmine:=hm.mine j _ b hM hbj
  have st:Step Mine F w F (w.setRow b c'):=Step.write g hb hmine.1 (fun o h=>absurd h (hF o))
  have hheap:=setRow_heap w b c c' e _ hb
  have hold:∀q jj,q≠i->jj<sz->c'[q * sz+jj]?=c[q * sz+jj]?:=by
   intro q jj hq hjj
   rw[hget,if_neg]
   rcases Nat.lt_or_gt_of_ne hq with hlt|hgt
   ·have:(q+1) * sz≤i * sz:=Nat.mul_le_mul_right _ hlt
    rw[Nat.succ_mul]at this;omega
   ·have:(i+1) * sz≤q * sz:=Nat.mul_le_mul_right _ hgt
    rw[Nat.succ_mul]at this;omega
  have hnew:∀jj,jj<sz->c'[i * sz+jj]?=(a.eval y).cells[jj]?:=by
   intro jj hjj
   rw[hget,if_pos (by omega)]
   congr 1;omega
  have hinn:∀q b',InnU c' sz n off k hs' q b'->InnU c sz n off k hs q b':=by
   intro q b' ⟨r1,r2,r3,n2,cap2,r4⟩
   have hqi:q≠i:=fun e=>by subst e;rw[h2]at r3;cases r3
   rw[hold q off hqi hoff]at r4
   exact⟨r1,r2,by rw[←h1 q hqi];exact r3,n2,cap2,r4⟩
  have hown:∀b',Owns (w.setRow b c') ρ j (.vecU sz n (fun q=>if q=i then .agg ps else f q) k e off s' e' hs') b'->Owns w ρ j (.vecU sz n f k e off s' e' hs) b':=by
   intro b' hb'
   rcases hb' with hb'|⟨b0,n0,cap0,c0,e0,q,r1,r2,r3⟩
   ·exact .inl hb'
   ·rw[hvec]at r1;cases r1
    rw[hheap]at r2;cases r2
    exact .inr ⟨b,n,cap,c,e,q,hvec,hb,hinn q b' r3⟩
  have hnone:∀q,Mem.get [(j,Res.vecU sz n (fun q=>if q=i then .agg ps else f q) k e off s' e' hs')] q=none->q≠j:=by
   intro q hq e1
   subst e1
   simp[Mem.get]at hq
  refine⟨undef,_,F,ρ,run hu hr,st,fun _ _=>⟨rfl,rfl⟩,.any,MemOk.step hm st (fun _=>True) (fun _ _=>⟨rfl,rfl⟩) _ (fun q r h hn=>⟨trivial,fun q hq=>absurd trivial hq,fun b' hb'=>⟨?_,fun _ h=>h⟩⟩) (fun q r h=>?_) (fun q q' r r' b' h h' _ _=>?_)⟩
  ·refine setRow_other w b b' _ (fun e1=>?_)
   subst e1
   exact hnone q hn (hm.disj j q _ r _ hM h hbj hb').symm
  ·simp only[Mem.get]at h
   split at h
   ·rename_i e1;subst e1;cases h
    refine⟨⟨hoff,hkn,.inr ⟨b,cap,c',hvec,hheap,hnc,hcm,hsz',hF,⟨fun q hq=>?_,fun q jj p hq hjj hp=>?_,fun q p hq hop hp=>?_,fun z hz=>?_,h4 hU.nodup,fun q q' b' r1 r2=>hU.inj q q' b' (hinn q b' r1) (hinn q' b' r2)⟩,fun q r1=>hnin q (hinn q b r1)⟩⟩,fun b' hb'=>?_⟩
    ·by_cases hqi:q=i
     ·simp only[if_pos hqi];exact hpl
     ·simp only[if_neg hqi];exact hU.len q hq
    ·by_cases hqi:q=i
     ·subst hqi
      simp only[if_true]at hp
      have hlt:jj<sz:=by have:=(List.getElem?_eq_some_iff.1 hp).1;rw[show(PVal.agg ps).cells=ps from rfl,hpl]at this;exact this
      obtain⟨aa,ha1,ha2⟩:=hpg jj p hp
      rw[List.getElem?_set_ne (Ne.symm hjj)]at ha1
      rw[hnew jj hlt]
      have hlt2:jj<(a.eval y).cells.size:=by omega
      obtain⟨r1,r2⟩:=hvc jj aa _ ha1 (Array.getElem?_eq_getElem hlt2)
      exact⟨_,Array.getElem?_eq_getElem hlt2,r2,(r1.toP ha2).mono st.sub st.cell⟩
     ·simp only[if_neg hqi]at hp
      have hlt:jj<sz:=by have:=(List.getElem?_eq_some_iff.1 hp).1;rw[hU.len q hq]at this;exact this
      rw[hold q jj hqi hlt]
      obtain⟨v,v1,v2,v3⟩:=hU.cell q jj p hq hjj hp
      exact⟨v,v1,v2,v3.mono st.sub st.cell⟩
    ·have hqi:q≠i:=fun e1=>by subst e1;rw[h2]at hop;cases hop
     simp only[if_neg hqi]at hp
     rw[hold q off hqi hoff]
     rw[h1 q hqi]at hop
     obtain⟨v,v1,v2,v3,v4⟩:=hU.own q p hq hop hp
     refine⟨v,v1,v2,fun hqk=>?_,fun hqk=>(v4 hqk).mono st.sub st.cell⟩
     obtain⟨z,n2,g2,p1,p2,p3⟩:=v3 hqk
     refine⟨z,n2,g2,p1,p2,p3.mono st.sub st.cell fun b' m' cap' hx'=>⟨setRow_other w b b' _ (fun e1=>?_),fun _ h=>h⟩⟩
     subst hx'
     exact hnin q ⟨hq,hqk,hop,m',cap',by rw[v1,p2,e1];rfl⟩
    ·rcases h3 z hz with rfl|⟨z1,z2⟩
     ·refine⟨hin,?_⟩
      rw[hnew off hoff]
      have hlt2:off<(a.eval y).cells.size:=by omega
      obtain⟨r1,_⟩:=hvc off _ _ hoffv (Array.getElem?_eq_getElem hlt2)
      rw[Array.getElem?_eq_getElem hlt2,Qzi r1]
     ·obtain⟨r1,r2⟩:=hU.hole z z1
      exact⟨r1,by rw[hold z.1 off z2 hoff];exact r2⟩
    ·obtain⟨m1,m2⟩:=hm.mine _ _ b' hM (hown b' hb')
     exact⟨m1,by simpa using m2,fun q r' hq hn hbq=>hnone q hn (hm.disj _ q _ r' b' hM hq (hown b' hb') hbq).symm⟩
   ·cases h
  ·simp only[Mem.get]at h h'
   split at h
   ·split at h'
    ·rename_i e1 e2;exact e1.symm.trans e2
    ·cases h'
   ·cases h
theorem Xzo {hs:List (Nat×Nat)}{h i k kk:Nat}(hg:hs[h]?=some (i,k)):(hs.set h (i,kk)).map (·.1)=hs.map (·.1):=by
 rw[List.map_set]
 have:=List.getElem?_eq_some_iff.1 hg
 obtain⟨h1,h2⟩:=this
 apply List.ext_getElem?
 intro j
 by_cases e:h=j
 ·subst e
  rw[List.getElem?_set_self (by simpa using h1)]
  simp[hg]
 ·rw[List.getElem?_set_ne e]
theorem Pzi {hs hs':List (Nat×Nat)}(h:hs.map (·.1)=hs'.map (·.1))(i:Nat):nz1 hs i=nz1 hs' i:=by
 have:∀l:List (Nat×Nat),nz1 l i=(l.map (·.1)).any (·==i):=fun l=>by simp[nz1,List.any_map,Function.comp_def]
 rw[this,this,h]
theorem az19 {t:TypeId}{x y:Operand}{q:Nat}{out:Out}(ho:o.op=.store t x y)(h:Mz5 P t q (env x) (env y) m=some out)(hob:holds out.obl):Sound1 P o env m id out:=by
 unfold Mz5 at h
 split at h
 ·rename_i j sz i hx
  split at h
  ·rename_i sz' n f k e off s' e' hs hj
   split at h
   ·rename_i kk ps hoffv hps
    split at h
    ·rename_i z1 z2 z3 z4 z5 hk
     split at h
     ·rename_i hc
      simp only[Bool.and_eq_true,decide_eq_true_eq]at hc
      obtain⟨⟨⟨⟨rfl,hsz⟩,hpl⟩,hpsc⟩,_⟩:=hc
      split at h
      ·split at h
       ·rename_i hemp
        have hemp:hs=[]:=by simpa using hemp
        subst hemp
        cases h
        refine az2e ho hsz hx hj hk hoffv hps hpl hpsc hob (fun q hq=>?_) (by simp[nz1]) (fun z hz=>.inl (by simpa using hz)) (fun _=>by simp)
        simp[nz1,Ne.symm hq]
       ·cases h
      ·rename_i hh
       split at h
       ·rename_i h' k' hget
        cases h
        obtain rfl:i=h':=hob
        intro F w ρ Mine M a hm g fr hrd hfe ha
        obtain⟨_,_,⟨_,_,he⟩|⟨b,cap,c,q1,q2,q3,q4,q5,q6,q7,q8⟩⟩:=hm.ok j _ ((hrd j (by simp)).trans hj)
        ·rw[he]at hget;simp at hget
        have hin:=(q7.hole _ (List.mem_of_getElem? hget)).1
        have hfst:=Xzo (kk:=kk) hget
        refine az2e ho hsz hx hj hk hoffv hps hpl hpsc hin (fun q hq=>Pzi hfst q) ?_ (fun z hz=>?_) (fun hn=>by rw[hfst];exact hn) F w ρ Mine M a hm g fr hrd hfe ha
        ·rw[Pzi hfst];exact openB_true.2 ⟨k',List.mem_of_getElem? hget⟩
        ·obtain⟨q,hq⟩:=List.getElem?_of_mem hz
         by_cases e1:hh=q
         ·subst e1
          have hlt:=(List.getElem?_eq_some_iff.1 hget).1
          rw[List.getElem?_set_self hlt]at hq
          cases hq;exact .inl rfl
         ·rw[List.getElem?_set_ne e1]at hq
          refine .inr ⟨List.mem_of_getElem? hq,fun e2=>e1 ?_⟩
          have hnd:=q7.nodup
          have l1:=(List.getElem?_eq_some_iff.1 hget).1
          have l2:=(List.getElem?_eq_some_iff.1 hq).1
          refine(List.getElem?_inj (by simpa using l1) hnd).1 ?_
          rw[List.getElem?_map,List.getElem?_map,hget,hq]
          simp[e2]
       ·cases h
     ·cases h
    ·cases h
   ·cases h
  ·cases h
 ·cases h
theorem Eza {x:Nat×Nat}{hs:List (Nat×Nat)}{i:Nat}:nz1 (x::hs) i=(x.1==i||nz1 hs i):=by simp[nz1]
theorem Kzu {x:Nat×Nat}{hs:List (Nat×Nat)}{i:Nat}:nz1 (hs++[x]) i=(nz1 hs i||x.1==i):=by simp[nz1]
theorem MemOk.openU {F:Cells}{w:World}{ρ:Env}{Mine:Nat->Prop}{M:Mem}(hm:MemOk F w ρ Mine M){j sz n k off s' n' h new:Nat}{f g:Nat->PVal}{e e':TypeId}{hs:List (Nat×Nat)}
 (hj:M.get j=some (.vecU sz n f k e off s' e' hs)) (hc:(f h).cells[off]?=some (.lst s' n' g)) (hk:h<k) (hh:nz1 hs h=false)
 (hnew:M.get new=none) (hfr:∀q r,M.get q=some r->r.has new=false):
 ∃x,MemOk F w (ρ.setVec new x) Mine ((j,.vecU sz n f k e off s' e' (hs++[(h,new)]))::(new,.vec s' n' g 0 e')::M):=by
 obtain⟨hoff,hkn,⟨_,hn0,_⟩|⟨b,cap,c,q1,q2,q3,q4,q5,q6,q7,q8⟩⟩:=hm.ok j _ hj
 ·omega
 obtain⟨v,v1,v2,v3,_⟩:=q7.own h _ (by omega) hh hc
 obtain⟨x,n2,g2,p1,p2,p3⟩:=v3 hk
 cases p1
 have hjn:j≠new:=fun e1=>by rw[e1,hnew]at hj;cases hj
 have hne:∀i,i≠new->(ρ.setVec new x).vec i=ρ.vec i:=fun i hi=>by simp[Env.setVec,hi]
 have hself:(ρ.setVec new x).vec new=x:=by simp[Env.setVec]
 have hinn:∀q b',InnU c sz n off k (hs++[(h,new)]) q b'->InnU c sz n off k hs q b'/\q≠h:=by
  intro q b' ⟨r1,r2,r3,r4⟩
  rw[Kzu,Bool.or_eq_false_iff]at r3
  exact⟨⟨r1,r2,r3.1,r4⟩,fun e=>by simp[e]at r3⟩
 have hx:∀b',x.map (·.1)=some b'->InnU c sz n off k hs h b':=by
  intro b' hb'
  cases x with
  |none=>cases hb'
  |some z=>
   obtain⟨z1,z2,z3⟩:=z
   cases hb'
   exact⟨by omega,hk,hh,z2,z3,by rw[v1,p2];rfl⟩
 have hgetM:∀i r,Mem.get ((j,Res.vecU sz n f k e off s' e' (hs++[(h,new)]))::(new,.vec s' n' g 0 e')::M) i=some r->
  (i=j/\r=.vecU sz n f k e off s' e' (hs++[(h,new)]))\/(i=new/\r=.vec s' n' g 0 e')\/(i≠j/\i≠new/\M.get i=some r):=by
  intro i r hi
  simp only[Mem.get]at hi
  split at hi
  ·rename_i e1;cases hi;exact .inl ⟨e1.symm,rfl⟩
  ·rename_i e1
   split at hi
   ·rename_i e2;cases hi;exact .inr (.inl ⟨e2.symm,rfl⟩)
   ·rename_i e2;exact .inr (.inr ⟨fun h=>e1 h.symm,fun h=>e2 h.symm,hi⟩)
 have hvj:(ρ.setVec new x).vec j=some (b,n,cap):=by rw[hne j hjn];exact q1
 have hown:∀i r b',Mem.get ((j,Res.vecU sz n f k e off s' e' (hs++[(h,new)]))::(new,.vec s' n' g 0 e')::M) i=some r->Owns w (ρ.setVec new x) i r b'->
  (i=j/\(b'=b\/∃q,q≠h/\InnU c sz n off k hs q b'))\/(i=new/\InnU c sz n off k hs h b')\/(i≠j/\i≠new/\M.get i=some r/\Owns w ρ i r b'):=by
  intro i r b' hi hb'
  rcases hgetM i r hi with⟨rfl,rfl⟩|⟨rfl,rfl⟩|⟨h1,h2,h3⟩
  ·refine .inl ⟨rfl,?_⟩
   rcases hb' with hb'|⟨b0,n0,cap0,c0,e0,q,r1,r2,r3⟩
   ·simp only[bzb,hvj,Option.map_some,Option.some.injEq]at hb';exact .inl hb'.symm
   ·rw[hvj]at r1;cases r1
    rw[q2]at r2;cases r2
    exact .inr ⟨q,(hinn q b' r3).2,(hinn q b' r3).1⟩
  ·refine .inr (.inl ⟨rfl,hx b' ?_⟩)
   rw[owns_vec,hself]at hb';exact hb'
  ·exact .inr (.inr ⟨h1,h2,h3,(tzg (ρ:=ρ) (ρ':=ρ.setVec new x) ⟨rfl,hne i h2⟩ (fun _ _=>rfl) b').1 hb'⟩)
 have ob:Owns w ρ j (.vecU sz n f k e off s' e' hs) b:=.inl (by simp[bzb,q1])
 have oi:∀q b',InnU c sz n off k hs q b'->Owns w ρ j (.vecU sz n f k e off s' e' hs) b':=fun q b' h=>.inr ⟨b,n,cap,c,e,q,q1,q2,h⟩
 refine⟨x,fun i r hi=>?_,fun i r b' hi hb'=>?_,fun i i' r r' b' hi hi' hb1 hb2=>?_⟩
 ·rcases hgetM i r hi with⟨rfl,rfl⟩|⟨rfl,rfl⟩|⟨h1,h2,h3⟩
  ·refine⟨hoff,hkn,.inr ⟨b,cap,c,hvj,q2,q3,q4,q5,q6,⟨q7.len,q7.cell,fun q p hq ho hp=>?_,fun z hz=>?_,?_,fun q q' b' r1 r2=>q7.inj q q' b' (hinn q b' r1).1 (hinn q' b' r2).1⟩,fun q r1=>q8 q (hinn q b r1).1⟩⟩
   ·rw[Kzu,Bool.or_eq_false_iff]at ho
    exact q7.own q p hq ho.1 hp
   ·rw[List.mem_append,List.mem_singleton]at hz
    rcases hz with hz|rfl
    ·obtain⟨z1,z2⟩:=q7.hole z hz
     have:z.2≠new:=fun e1=>by
      have:=hfr _ _ hj
      simp only[Res.has,List.any_eq_false]at this
      exact this z hz (by simp[e1])
     exact⟨z1,by rw[hne _ this];exact z2⟩
    ·exact⟨by show h<n;omega,by show c[h * sz+off]?=_;rw[hself,v1,p2]⟩
   ·rw[List.map_append,List.nodup_append]
    refine⟨q7.nodup,by simp,fun a ha b' hb' e1=>?_⟩
    simp only[List.map_cons,List.map_nil,List.mem_singleton]at hb'
    obtain⟨z,hz,rfl⟩:=List.mem_map.1 ha
    have:nz1 hs h=true:=openB_true.2 ⟨z.2,by rw[←hb',←e1];exact hz⟩
    rw[hh]at this;cases this
  ·show _/\_
   rw[hself];exact p3
  ·refine(hm.ok i r h3).keep (fun q=>q≠new) (fun _ _ h=>h) (fun _ _ _=>rfl) (fun q hq=>⟨rfl,hne q hq⟩) h2 (fun q hq=>?_) (fun b' _=>⟨rfl,fun _ h=>h⟩)
   have:q=new:=Classical.byContradiction fun h=>hq h
   subst this;exact hfr i r h3
 ·rcases hown i r b' hi hb' with⟨_,rfl|⟨q,_,h1⟩⟩|⟨_,h1⟩|⟨_,_,h3,h4⟩
  ·exact hm.mine j _ _ hj ob
  ·exact hm.mine j _ _ hj (oi q b' h1)
  ·exact hm.mine j _ _ hj (oi h b' h1)
  ·exact hm.mine i r b' h3 h4
 ·rcases hown i r b' hi hb1 with⟨e1,h1⟩|⟨e1,h1⟩|⟨a1,a2,h3,h4⟩<;>rcases hown i' r' b' hi' hb2 with⟨e2,h1'⟩|⟨e2,h1'⟩|⟨a1',a2',h3',h4'⟩
  ·rw[e1,e2]
  ·rcases h1 with rfl|⟨q,hq,h1⟩
   ·exact(q8 h h1').elim
   ·exact(hq (q7.inj q h b' h1 h1')).elim
  ·have hj':Owns w ρ j (.vecU sz n f k e off s' e' hs) b':=by
    rcases h1 with rfl|⟨q,hq,h1⟩
    ·exact ob
    ·exact oi q b' h1
   exact(a1' (hm.disj j i' _ r' b' hj h3' hj' h4').symm).elim
  ·rcases h1' with rfl|⟨q,hq,h1'⟩
   ·exact(q8 h h1).elim
   ·exact(hq (q7.inj q h b' h1' h1)).elim
  ·rw[e1,e2]
  ·exact(a1' (hm.disj j i' _ r' b' hj h3' (oi h b' h1) h4').symm).elim
  ·have hj':Owns w ρ j (.vecU sz n f k e off s' e' hs) b':=by
    rcases h1' with rfl|⟨q,hq,h1⟩
    ·exact ob
    ·exact oi q b' h1
   exact(a1 (hm.disj j i _ r b' hj h3 hj' h4).symm).elim
  ·exact(a1 (hm.disj j i _ r b' hj h3 (oi h b' h1') h4).symm).elim
  ·exact hm.disj i i' r r' b' h3 h3' h4 h4'
theorem MemOk.closeU {F:Cells}{w:World}{ρ:Env}{Mine:Nat->Prop}{M:Mem}(hm:MemOk F w ρ Mine M){j sz n k k2 off s' n' h kk:Nat}{f g:Nat->PVal}{e e':TypeId}{hs:List (Nat×Nat)}
 (hj:M.get j=some (.vecU sz n f k e off s' e' ((h,kk)::hs))) (hk:M.get kk=some (.vec s' n' g 0 e')) (hkk:(k=n/\k2=k)\/(h=k/\k2=k+1)):
 MemOk F w ρ Mine ((j,.vecU sz n (hz4 f h off (.lst s' n' g)) k2 e off s' e' hs)::(kk,.gone)::M):=by
 have hjk:j≠kk:=fun e1=>by rw[e1,hk]at hj;cases hj
 obtain⟨hoff,hkn,⟨_,hn0,hs0⟩|⟨b,cap,c,q1,q2,q3,q4,q5,q6,q7,q8⟩⟩:=hm.ok j _ hj
 ·cases hs0
 obtain⟨hhn,hcell⟩:=q7.hole _ (List.mem_cons_self ..)
 simp only at hhn hcell
 have hfl:=q7.len h hhn
 have hcells:(hz4 f h off (.lst s' n' g) h).cells=(f h).cells.take off++[.lst s' n' g]++(f h).cells.drop (off+1):=by
  simp only[hz4,if_true]
  have hnl:((f h).cells.take off++[PVal.lst s' n' g]++(f h).cells.drop (off+1)).length=(f h).cells.length:=by
   have:=ez5 (f h).cells [PVal.lst s' n' g] off (by simp;omega)
   simpa using this
  refine qz0 hnl.symm (fun hsc=>?_)
  have h1:=PVal.cells_scalar hsc
  rw[h1]at hfl⊢
  obtain rfl:off=0:=by simp at hfl;omega
  simp[PVal.scalar]
 have hother:∀q,q≠h->hz4 f h off (.lst s' n' g) q=f q:=fun q hq=>by simp[hz4,hq]
 have hkb:∀b',(ρ.vec kk).map (·.1)=some b'->Owns w ρ kk (.vec s' n' g 0 e') b':=fun b' h=>owns_vec.2 h
 have hkok:VecAt F w s' n' g 0 e' (ρ.vec kk):=hm.ok kk _ hk
 have ob:Owns w ρ j (.vecU sz n f k e off s' e' ((h,kk)::hs)) b:=.inl (by simp[bzb,q1])
 have oi:∀q b',InnU c sz n off k ((h,kk)::hs) q b'->Owns w ρ j (.vecU sz n f k e off s' e' ((h,kk)::hs)) b':=fun q b' h=>.inr ⟨b,n,cap,c,e,q,q1,q2,h⟩
 have hlt2:∀q,q≠h->q<n->(q<k2↔q<k):=by rcases hkk with⟨_,rfl⟩|⟨rfl,rfl⟩<;>intro q hq hqn<;>omega
 have hk2:k2≤n:=by rcases hkk with⟨_,rfl⟩|⟨rfl,rfl⟩<;>omega
 have hhk:h<k2:=by rcases hkk with⟨_,rfl⟩|⟨rfl,rfl⟩<;>omega
 have hinn:∀q b',InnU c sz n off k2 hs q b'->(q≠h/\InnU c sz n off k ((h,kk)::hs) q b')\/(q=h/\(ρ.vec kk).map (·.1)=some b'):=by
  intro q b' ⟨r1,r2,r3,n2,cap2,r4⟩
  by_cases hq:q=h
  ·subst hq
   refine .inr ⟨rfl,?_⟩
   rw[hcell]at r4
   cases hz:ρ.vec kk with
   |none=>rw[hz]at r4;simp[izk]at r4
   |some z=>obtain⟨z1,z2,z3⟩:=z;rw[hz]at r4;simp[izk]at r4;simp[r4.1]
  ·exact .inl ⟨hq,r1,(hlt2 q hq r1).1 r2,by rw[Eza,r3];simp[Ne.symm hq],n2,cap2,r4⟩
 have hgetM:∀i r,Mem.get ((j,Res.vecU sz n (hz4 f h off (.lst s' n' g)) k2 e off s' e' hs)::(kk,.gone)::M) i=some r->
  (i=j/\r=.vecU sz n (hz4 f h off (.lst s' n' g)) k2 e off s' e' hs)\/(i=kk/\r=.gone)\/(i≠j/\i≠kk/\M.get i=some r):=by
  intro i r hi
  simp only[Mem.get]at hi
  split at hi
  ·rename_i e1;cases hi;exact .inl ⟨e1.symm,rfl⟩
  ·rename_i e1
   split at hi
   ·rename_i e2;cases hi;exact .inr (.inl ⟨e2.symm,rfl⟩)
   ·rename_i e2;exact .inr (.inr ⟨fun h=>e1 h.symm,fun h=>e2 h.symm,hi⟩)
 have hown:∀i r b',Mem.get ((j,Res.vecU sz n (hz4 f h off (.lst s' n' g)) k2 e off s' e' hs)::(kk,.gone)::M) i=some r->Owns w ρ i r b'->
  (i=j/\(Owns w ρ j (.vecU sz n f k e off s' e' ((h,kk)::hs)) b'\/Owns w ρ kk (.vec s' n' g 0 e') b'))\/(i≠j/\i≠kk/\M.get i=some r/\Owns w ρ i r b'):=by
  intro i r b' hi hb'
  rcases hgetM i r hi with⟨rfl,rfl⟩|⟨rfl,rfl⟩|⟨h1,h2,h3⟩
  ·refine .inl ⟨rfl,?_⟩
   rcases hb' with hb'|⟨b0,n0,cap0,c0,e0,q,r1,r2,r3⟩
   ·exact .inl (.inl hb')
   ·rw[q1]at r1;cases r1
    rw[q2]at r2;cases r2
    rcases hinn q b' r3 with⟨_,h1⟩|⟨_,h1⟩
    ·exact .inl (oi q b' h1)
    ·exact .inr (hkb b' h1)
  ·simp[Owns,nzi,bzb]at hb'
  ·exact .inr ⟨h1,h2,h3,hb'⟩
 refine⟨fun i r hi=>?_,fun i r b' hi hb'=>?_,fun i i' r r' b' hi hi' hb1 hb2=>?_⟩
 ·rcases hgetM i r hi with⟨rfl,rfl⟩|⟨rfl,rfl⟩|⟨h1,h2,h3⟩
  ·refine⟨hoff,hk2,.inr ⟨b,cap,c,q1,q2,q3,q4,q5,q6,⟨fun q hq=>?_,fun q jj p hq hjj hp=>?_,fun q p hq ho hp=>?_,fun z hz=>q7.hole z (List.mem_cons_of_mem _ hz),(List.nodup_cons.1 q7.nodup).2,fun q q' b' r1 r2=>?_⟩,fun q r1=>?_⟩⟩
   ·by_cases e1:q=h
    ·subst e1
     rw[hcells]
     have:=ez5 (f q).cells [PVal.lst s' n' g] off (by simp;omega)
     simp only[List.length_singleton]at this
     rw[this];exact hfl
    ·rw[hother q e1];exact q7.len q hq
   ·by_cases e1:q=h
    ·subst e1
     rw[hcells]at hp
     have hog:=hzk (f q).cells [PVal.lst s' n' g] off jj (by simp;omega)
     simp only[List.length_singleton]at hog
     rw[hog,if_neg (by omega)]at hp
     exact q7.cell q jj p hq hjj hp
    ·rw[hother q e1]at hp;exact q7.cell q jj p hq hjj hp
   ·by_cases e1:q=h
    ·subst e1
     rw[hcells]at hp
     have hog:=hzk (f q).cells [PVal.lst s' n' g] off off (by simp;omega)
     simp only[List.length_singleton]at hog
     rw[hog,if_pos (by omega)]at hp
     simp only[Nat.sub_self,List.getElem?_cons_zero,Option.some.injEq]at hp
     subst hp
     exact⟨_,hcell,Ezu _,fun _=>⟨_,n',g,rfl,rfl,hkok⟩,fun h=>by omega⟩
    ·rw[hother q e1]at hp
     obtain⟨v,v1,v2,v3,v4⟩:=q7.own q p hq (by rw[Eza,ho];simp[Ne.symm e1]) hp
     exact⟨v,v1,v2,fun hk=>v3 ((hlt2 q e1 hq).1 hk),fun hk=>v4 (Nat.le_of_not_lt fun h=>by have:=(hlt2 q e1 hq).2 h;omega)⟩
   ·rcases hinn q b' r1 with⟨e1,h1⟩|⟨e1,h1⟩<;>rcases hinn q' b' r2 with⟨e2,h2⟩|⟨e2,h2⟩
    ·exact q7.inj q q' b' h1 h2
    ·exact(hjk (hm.disj _ _ _ _ b' hj hk (oi q b' h1) (hkb b' h2))).elim
    ·exact(hjk (hm.disj _ _ _ _ b' hj hk (oi q' b' h2) (hkb b' h1))).elim
    ·rw[e1,e2]
   ·rcases hinn q b r1 with⟨_,h1⟩|⟨_,h1⟩
    ·exact q8 q h1
    ·exact hjk (hm.disj _ _ _ _ b hj hk ob (hkb b h1))
  ·trivial
  ·exact hm.ok i r h3
 ·rcases hown i r b' hi hb' with⟨_,h1|h1⟩|⟨_,_,h3,h4⟩
  ·exact hm.mine j _ _ hj h1
  ·exact hm.mine kk _ _ hk h1
  ·exact hm.mine i r b' h3 h4
 ·rcases hown i r b' hi hb1 with⟨e1,h1⟩|⟨a1,a2,h3,h4⟩<;>rcases hown i' r' b' hi' hb2 with⟨e2,h1'⟩|⟨a1',a2',h3',h4'⟩
  ·rw[e1,e2]
  ·rcases h1 with h1|h1
   ·exact(a1' (hm.disj j i' _ r' b' hj h3' h1 h4').symm).elim
   ·exact(a2' (hm.disj kk i' _ r' b' hk h3' h1 h4').symm).elim
  ·rcases h1' with h1|h1
   ·exact(a1 (hm.disj j i _ r b' hj h3 h1 h4).symm).elim
   ·exact(a2 (hm.disj kk i _ r b' hk h3 h1 h4).symm).elim
  ·exact hm.disj i i' r r' b' h3 h3' h4 h4'
variable {P:Program} {o:Oper} {env:Operand->AVal} {m:Mem} {id:Nat}
theorem Yzo {t:TypeId}{x y:Operand}{out:Out}(ho:o.op=.store t x y)(h:Ozg P t (env x) (env y) m=some out)(hob:holds out.obl):Sound1 P o env m id out:=by cases (show none=some _ from h)
theorem Nzh {t:TypeId}{len:Nat}{parts:Array (Nat×Operand)}{out:Out}(ho:o.op=.buildSlice t len parts)(h:Bzo P t len id env m parts.toList=some out):Sound1 P o env m id out:=by cases (show none=some _ from h)
theorem az0t {e:TypeId}{k:Nat}{out:Out}(ho:o.op=.alloc e)(h:Tz3 P k e id=some out):Sound1 P o env m id out:=by cases (show none=some _ from h)
variable {P:Program} {o:Oper} {env:Operand->AVal} {m:Mem} {id:Nat}
theorem az11 {t:TypeId}{x:Operand}{lo hi mx:Option Operand}{out:Out}(ho:o.op=.slice t x lo hi mx)
 (h:Tz5 P t (env x) (lo.map env) (hi.map env) (mx.map env)=some out) (hob:holds out.obl):Sound1 P o env m id out:=by cases (show none=some _ from h)
theorem Yzi {s x:Operand}{ts:Array TypeId}{out:Out}(ho:o.op=.call {callee:=.builtin .append,args:=#[s,x],argTypes:=ts})
 (hts:∀t,ts[0]?=some t->ts[1]?=some t->ts=#[t,t]) (h:Ozd P ts id (env s) (env x) m=some out) (hob:holds out.obl):Sound1 P o env m id out:=by cases (show none=some _ from h)
variable {P:Program} {o:Oper} {env:Operand->AVal} {m:Mem} {id:Nat}
theorem az10 {t:TypeId}{x:Operand}{lo hi mx:Option Operand}{out:Out}(ho:o.op=.slice t x lo hi mx)
 (h:Tz4 P t (env x) (lo.map env) (hi.map env) (mx.map env)=some out):Sound1 P o env m id out:=by cases (show none=some _ from h)
theorem az4f {d s:Operand}{ts:Array TypeId}{out:Out}(ho:o.op=.call {callee:=.builtin .copy,args:=#[d,s],argTypes:=ts})(hts:ts.size=2)
 (h:Wzd P ts (env d) (env s) m=some out):Sound1 P o env m id out:=by cases (show none=some _ from h)
theorem az6i {x:Operand}{ts:Array TypeId}{out:Out}(ho:o.op=.call {callee:=.builtin .len,args:=#[x],argTypes:=ts})(h:Wze P ts (env x)=some out):Sound1 P o env m id out:=by
 have hop:x∈o.op.operands:=by simp[ho,Op.operands,Call.operands]
 unfold Wze at h
 split at h
 ·rename_i i sz lo n t hx ht
  split at h
  ·rename_i e hu
   cases h
   refine Sound1.still fun F w ρ Mine M a _ _ ha=>⟨.int .i64 n,yzi ho ?_,.pure .int⟩
   have h1:=hx▸ha x hop
   generalize a.eval x=u at h1⊢
   cases h1 with
   |view=>simp[Builtin.len_,ht,run_underlying hu,goInt]
   |viewN hh hn=>subst hn;simp[Builtin.len_,ht,run_underlying hu,goInt]
  ·cases h
 ·cases h
theorem Qz9 {t:TypeId}{x i:Operand}{out:Out}(ho:o.op=.indexAddr t x i)(h:wzo P t (env x) (env i)=some out)(hob:holds out.obl):Sound1 P o env m id out:=by
 unfold wzo at h
 split at h
 ·rename_i k sz lo n ik iv hx hi
  split at h
  ·rename_i e hu
   split at h
   ·rename_i hs
    cases h
    obtain⟨h0,hn⟩:=hob
    refine Sound1.still fun F w ρ Mine M a _ _ ha=>?_
    have hiv:a.eval i=.int ik iv:=(hi▸ha i (by simp[ho,Op.operands])).pure_inv.int_inv
    have h1:=ha x (by simp[ho,Op.operands])
    rw[hx]at h1
    generalize hu':a.eval x=u at h1
    cases h1 with
    |viewN hh hn'=>omega
    |@view _ _ _ _ b n0 cap ad hh hle had=>
     have had:=had (.inl (by omega))
     subst had
     refine⟨.pointer (some ⟨b,(lo+iv.toNat) * sz+0,none⟩),.value ?_,.eptr hh⟩
     simp only[execOp,ho,Instr.indexAt,Sem.run_bind,hiv,hu',asIntOf,Sem.run_pure,Result.andThen_ok,run_underlying hu]
     simp[h0,hn,czy hs,gzz,Nat.add_mul]
   ·cases h
  ·cases h
 ·cases h
theorem Yzn {t:TypeId}{x:Operand}{lo hi mx:Option Operand}{out:Out}(ho:o.op=.slice t x lo hi mx)
 (h:Ozf P t (env x) (lo.map env) (hi.map env) (mx.map env) m=some out) (hob:holds out.obl):Sound1 P o env m id out:=by cases (show none=some _ from h)
variable {P:Program} {o:Oper} {env:Operand->AVal} {m:Mem} {id:Nat}
theorem MemOk.dat {F:Cells}{w:World}{ρ:Env}{Mine:Nat->Prop}{M:Mem}{old sz n:Nat}{f:Nat->PVal}(h:MemOk F w ρ Mine M)(hp:PRel F w (.lst sz n f) (izk (ρ.vec old))):MemOk F w ρ Mine ((old,.dat sz n f)::M):=by
 have no:∀b,¬Owns w ρ old (.dat sz n f) b:=fun b hb=>by simp[Owns,nzi,bzb]at hb
 refine⟨fun i r hg=>?_,fun i r b hg hb=>?_,fun i i' r r' b hg hg' hb hb'=>?_⟩
 ·by_cases e:old=i
  ·subst e;simp[Mem.get]at hg;subst hg;exact hp
  ·simp[Mem.get,e]at hg;exact h.ok i r hg
 ·by_cases e:old=i
  ·subst e;simp[Mem.get]at hg;subst hg;exact absurd hb (no b)
  ·simp[Mem.get,e]at hg;exact h.mine i r b hg hb
 ·by_cases e:old=i
  ·subst e;simp[Mem.get]at hg;subst hg;exact absurd hb (no b)
  ·by_cases e':old=i'
   ·subst e';simp[Mem.get]at hg';subst hg';exact absurd hb' (no b)
   ·simp[Mem.get,e]at hg;simp[Mem.get,e']at hg';exact h.disj i i' r r' b hg hg' hb hb'
theorem MemOk.ext {F:Cells}{w:World}{ρ:Env}{Mine:Nat->Prop}{M M':Mem}(h:MemOk F w ρ Mine M)(he:∀i,M'.get i=M.get i):MemOk F w ρ Mine M':=
 ⟨fun i r hg=>h.ok i r (by rw[←he];exact hg),fun i r b hg=>h.mine i r b (by rw[←he];exact hg),fun i i' r r' b hg hg'=>h.disj i i' r r' b (by rw[←he];exact hg) (by rw[←he];exact hg')⟩
theorem Vzc {F:Cells}{w:World}{ρ:Env}{k:Nat}:ARel F w ρ (.vec k) (izk (ρ.vec k)):=by
 cases h:ρ.vec k with
 |none=>exact .vnil h
 |some x=>obtain⟨b,n,cap⟩:=x;exact .vec h
theorem Yzj {s x:Operand}{ts:Array TypeId}{out:Out}(ho:o.op=.call {callee:=.builtin .append,args:=#[s,x],argTypes:=ts})
 (hts:∀t,ts[0]?=some t->ts[1]?=some t->ts=#[t,t]) (h:Hzq P ts id s (env s) (env x) m=some out) (hob:holds out.obl):Sound1 P o env m id out:=by
 unfold Hzq at h
 split at h
 ·rename_i old hs
  split at h
  ·rename_i sz n f sh e hm0
   split at h
   ·rename_i out0 h0
    split at h
    ·rename_i x0 l0 hwr
     split at h
     ·cases h
     ·rename_i hxo
      cases h
      have key:=Tzw (P:=P) (id:=id) (env:=env) (m:=bz1 m [old]++m) ho hts h0 hob
      have hsh:bz1 m [old]=[(old,Res.vec sz n f n e)]:=by simp[bz1,hm0]
      intro F w ρ Mine M a hm g fr hrd hfe ha
      have hMo:=(hrd old (by simp)).trans hm0
      obtain⟨st,hm1⟩:=kzj (m:=m) hm g (is:=[old]) (fun i hi=>by simp at hi;subst hi;exact hrd i (by simp))
      have hp:=gzj (m:=m) hm g (a:=.vec old) (v:=izk (ρ.vec old)) (p:=.lst sz n f) (is:=[old]) (js:=[old]) (by simp[ozs,Nz2,hm0]) (fun _ h=>h) (fun i hi=>by simp at hi;subst hi;exact hrd i (by simp)) Vzc
      have fr1:Fresh id (bz1 m [old]++M):=by
       rw[hsh]
       refine⟨fun i hi=>?_,fun i q r hi hq=>?_⟩
       ·rw[Mem.get_append]
        by_cases e1:old=i
        ·subst e1;rw[fr.none old hi]at hMo;cases hMo
        ·simp[Mem.get,e1,fr.none i hi]
       ·rw[Mem.get_append]at hq
        by_cases e1:old=q
        ·subst e1;simp[Mem.get]at hq;subst hq;rfl
        ·simp[Mem.get,e1]at hq;exact fr.has i q r hi hq
      obtain⟨v,w',F',ρ',k1,k2,k3,k4,k5⟩:=key (dzo F w ρ m [old]) w ρ Mine _ a hm1 (st.good g) fr1 (fun i hi=>by
       rw[Mem.get_append,Mem.get_append,hrd i (by simp[hi])]) hfe (fun z hz=>(ha z hz).mono' st.sub st.cell)
      have hno:¬Own id old:=fun hi=>by rw[fr.none old hi]at hMo;cases hMo
      refine⟨v,w',F',ρ',k1,st.trans k2,k3,k4,?_⟩
      have hd:=k5.dat (old:=old) (sz:=sz) (n:=n) (f:=f) (by rw[(k3 old hno).2];exact hp.mono k2.sub k2.cell)
      refine hd.ext fun i=>?_
      have e9:out0.wr++(bz1 m [old]++M)=x0::(l0++(bz1 m [old]++M)):=by rw[hwr];rfl
      rw[e9]
      show Mem.get (x0::(old,Res.dat sz n f)::(l0++bz1 m [old]++M)) i=Mem.get ((old,Res.dat sz n f)::x0::(l0++(bz1 m [old]++M))) i
      obtain⟨x1,x2⟩:=x0
      simp only[Mem.get,List.append_assoc]
      by_cases q1:x1=i
      ·have q2:¬old=i:=fun q=>hxo (q1.trans q.symm)
       simp[q1,q2]
      ·simp[q1]
    ·cases h
   ·cases h
  ·cases h
 ·cases h
theorem az12 {t:TypeId}{x:Operand}{lo hi mx:Option Operand}{out:Out}(ho:o.op=.slice t x lo hi mx)
 (h:Mz0 P t (env x) (lo.map env) (hi.map env) (mx.map env) m=some out) (hob:holds out.obl):Sound1 P o env m id out:=by
 unfold Mz0 at h
 split at h
 ·rename_i old hx
  split at h
  ·rename_i sz n f hm0
   split at h
   ·rename_i out0 h0
    cases h
    unfold Bzq at h0
    split at h0
    ·cases h0
    ·rename_i hmx
     have hmx':mx=none:=by simpa using hmx
     subst hmx'
     have hop:x∈o.op.operands:=by simp[ho,Op.operands]
     have hlo:∀y,lo=some y->y∈o.op.operands:=fun y hy=>by simp[ho,Op.operands,hy]
     have hhi:∀y,hi=some y->y∈o.op.operands:=fun y hy=>by simp[ho,Op.operands,hy]
     split at h0
     ·rename_i e hu
      split at h0
      ·rename_i sz' n' f' is hx'
       simp only[ozs,Nz2,AVal.toP,Option.some.injEq,Prod.mk.injEq,PVal.lst.injEq]at hx'
       obtain⟨⟨rfl,rfl,rfl⟩,rfl⟩:=hx'
       split at h0
       ·rename_i l hh hl hh'
        split at h0
        ·rename_i hs
         cases h0
         obtain⟨h0,h1,h2⟩:=hob
         intro F w ρ Mine M a hm g fr hrd hown ha
         have hb1:=jz9 (F:=F) (w:=w) (ρ:=ρ) (a:=a) hl (fun y hy=>ha y (hlo y hy))
         have hb2:=jz9 (F:=F) (w:=w) (ρ:=ρ) (a:=a) hh' (fun y hy=>ha y (hhi y hy))
         have hb1':(lo.map a.eval=none/\l=0)\/∃k,lo.map a.eval=some (.int k l):=hb1.imp (fun h=>⟨by simp[h.1],by simpa using h.2⟩) (fun h=>h)
         have hb2':(hi.map a.eval=none/\hh=n)\/∃k,hi.map a.eval=some (.int k hh):=hb2.imp (fun h=>⟨by simp[h.1],h.2⟩) (fun h=>h)
         have hMo:=(hrd old (by simp)).trans hm0
         have hp:PRel F w (.lst sz n f) (izk (ρ.vec old)):=hm.ok old _ hMo
         have hv:a.eval x=izk (ρ.vec old):=by
          have:=ha x hop
          rw[hx]at this
          generalize a.eval x=y at this⊢
          cases this with
          |vnil h=>rw[h];rfl
          |vec h=>rw[h];rfl
         rw[←hv]at hp
         obtain⟨v,hr,hv⟩:=Jz0 (ρ:=ρ) ho hu hs hp hb1' hb2' h0 h1 h2
         exact⟨v,w,F,ρ,hr,Step.refl g,fun _ _=>⟨rfl,rfl⟩,hv,by simpa[bz1]using hm⟩
        ·cases h0
       ·cases h0
      ·cases h0
     ·cases h0
   ·cases h
  ·cases h
 ·cases h
variable {P:Program} {o:Oper} {env:Operand->AVal} {m:Mem} {id:Nat}
theorem Zz7 {n:Int}(h0: -9223372036854775808≤n)(h1:n≤9223372036854775807):IntKind.i64.wrap n=n:=by
 simp only[IntKind.wrap,IntKind.bits,IntKind.signed,Bool.true_and,ge_iff_le,decide_eq_true_eq]
 split<;>omega
theorem Jzo {F:Cells}{w:World}{ρ:Env}{Mine:Nat->Prop}{M:Mem}(hm:MemOk F w ρ Mine M)(g:Good F w Mine)(fr:Fresh id M){t e:TypeId}{sz by_:Nat}{z:List Value}{ps:List PVal}{p:PVal}{l c:Int}
 (hu:P.underlying t=some (.slice e)) (hs:bzu P e=some sz) (hby:Jz7 P e=some by_) (hz:qzo P e=some z) (hzl:z.length=sz) (hps:allP (z.map ezt)=some ps) (hsc:ps.all (·.scalar)=true)
 (hpc:p.cells=ps) (h0:0≤l) (h1:l≤c) (h2:c≤9223372036854775807) (h3:c * by_≤140737488355328):
 ∃v w' F' ρ',(Instr.makeSlice t (.int .i64 l) (.int .i64 c)).run P w=.ok v w'/\Step Mine F w F' w'/\czz id ρ ρ'/\ARel F' w' ρ' (.vec id) v/\MemOk F' w' ρ' Mine ([(id,.vec sz l.toNat (fun _=>p) 0 e)]++M):=by
 obtain⟨i,zv,hi,hzv,hzz⟩:=vzk hz
 obtain⟨i',hi',hsz⟩:=izy hs
 rw[hi]at hi';cases hi'
 obtain⟨i',hi',hbb⟩:=Gz1 hby
 rw[hi]at hi';cases hi'
 have hzs:zv.cells.size=sz:=by rw[←hzl,←hzz];simp
 have hwl:=Zz7 (n:=l) (by omega) (by omega)
 have hwc:=Zz7 (n:=c) (by omega) (by omega)
 have hbc:¬ (281474976710656<(by_:Int) * c):=by rw[Int.mul_comm];omega
 obtain⟨A,hA⟩:∃A:Array Value,A=(Array.range (c.toNat * sz)).map (fun x=>zv.cells[x % zv.cells.size]!):=⟨_,rfl⟩
 have hrun:(Instr.makeSlice t (.int .i64 l) (.int .i64 c)).run P w=.ok (.slice (some ⟨w.heap.size,0,none⟩) l.toNat c.toNat) (w.alloc (.cells A e)):=by
  have hnl:¬l<0:=by omega
  have hcl:¬l>c:=by omega
  have hc0:¬c<0:=by omega
  have hb48:¬ (by_:Int) * c>2 ^ 48:=by simpa using hbc
  simp only[Instr.makeSlice,Sem.run_bind,run_underlying hu,Result.andThen_ok,asInt,asIntOf,Sem.run_pure,typeInfo,run_program,hi,hwl,hwc,hbb,czy hs,
   hc0,hnl,hcl,hb48,decide_false,Bool.or_false,Bool.false_eq_true,if_false,run_askRoom]
  by_cases hn:c.toNat * sz=0
  ·rw[if_pos hn]
   have hA0:A=#[]:=by rw[hA];simp[hn]
   have e0:(Array.range 0:Array Nat)=#[]:=by decide
   simp only[hn,newRow,Sem.run_bind,run_newObj,Sem.run_pure,Result.andThen_ok,hA0,e0,List.map_toArray,List.map_nil]
   rfl
  ·rw[if_neg hn]
   simp[newRow,zeroValue,typeInfo,hi,hzv,hA]
 have hsize:A.size=c.toNat * sz:=by rw[hA];simp
 have hel:∀ (q j:Nat) (x:PVal),q<c.toNat->ps[j]?=some x->∃v,A[q * sz+j]?=some v/\v.oneCell'=true/\PRel F (w.alloc (.cells A e)) x v:=by
  intro q j x hq hx
  obtain⟨hl1,hl2⟩:=lzq hps
  have hj:j<sz:=by have:=(List.getElem?_eq_some_iff.1 hx).1;simp at hl1;omega
  obtain⟨aa,ha1,ha2⟩:=hl2 j x hx
  simp only[List.getElem?_map,Option.map_eq_some_iff]at ha1
  obtain⟨v,hv,rfl⟩:=ha1
  have hr:=(gz3 (F:=F) (w:=w.alloc (.cells A e)) (ρ:=ρ) v).toP ha2
  refine⟨v,?_,hr.one (List.all_eq_true.1 hsc x (List.mem_of_getElem? hx)),hr⟩
  have hlt:=tzq hq hj
  have hmod:(q * sz+j) % sz=j:=by rw[Nat.mul_comm,Nat.mul_add_mod];exact Nat.mod_eq_of_lt hj
  have hzj:zv.cells[j]?=some v:=by rw[←hzz]at hv;simpa using hv
  rw[hA]
  rw[Array.getElem?_map,Array.getElem?_range]
  simp only[hlt,if_true,Option.map_some,hzs,hmod]
  simp[getElem!_def,hzj]
 have st:Step Mine F w F (w.alloc (.cells A e)):=by
  have s:=Step.alloc g (.cells A e) (fun _=>False)
  exact⟨fun _ _ h=>h,s.cell,fun _ _ h=>.inl h,fun b o h=>by have:=g.lt b o h;simp;omega,s.keep⟩
 have hv:(ρ.setVec id (some (w.heap.size,l.toNat,c.toNat))).vec id=some (w.heap.size,l.toNat,c.toNat):=if_pos rfl
 have hpl:ps.length=sz:=by have:=(lzq hps).1;simp at this;omega
 have hmem:=hm.newVec fr st (some (w.heap.size,l.toNat,c.toNat)) [] sz l.toNat 0 (fun _=>p) e
  ⟨Nat.zero_le _,.inr ⟨w.heap.size,c.toNat,A,hv,heap_alloc_new w _,by omega,by simp only[maxLen];omega,hsize,fun o hF=>absurd (g.lt _ _ hF) (by omega),fun _ _=>by rw[hpc];exact hpl,fun q j x hq hx=>hel q j x (by omega) (by rw[←hpc];exact hx)⟩⟩
  (fun b hb=>by
   simp at hb;subst hb
   exact⟨g.mine _ (Nat.le_refl _),by simp,fun q r' hq _ hbq=>absurd (hm.mine q r' _ hq hbq).2 (by omega)⟩)
  (fun j r b hj _ hbj=>⟨heap_alloc_old w _ (hm.mine j r b hj hbj).2,fun _ h=>h⟩)
 exact⟨_,_,F,_,hrun,st,dz2 ρ id _,.vec hv,by simpa using hmem⟩
theorem Izv {t:TypeId}{x y:Operand}{out:Out}(ho:o.op=.makeSlice t x y)(h:tzt P t id (env x) (env y)=some out)(hob:holds out.obl):Sound1 P o env m id out:=by
 unfold tzt at h
 split at h
 ·rename_i l c hx hy
  split at h
  ·rename_i e hu
   split at h
   ·rename_i sz by_ z hs hby hz
    split at h
    ·rename_i hzl
     split at h
     ·rename_i ps hps
      split at h
      ·rename_i hsc
       have fin:∀ (p:PVal),p.cells=ps->(0≤l/\l≤c/\c≤9223372036854775807/\c * by_≤140737488355328)->
        Sound1 P o env m id ⟨.vec id,[],[(id,.vec (sz+1) l.toNat (fun _=>p) 0 e)],some (0≤l/\l≤c/\c≤9223372036854775807/\c * by_≤140737488355328)⟩:=by
        intro p hp hb F w ρ Mine M a hm g fr _ _ ha
        obtain⟨v,w',F',ρ',h1,h2,h3,h4,h5⟩:=Jzo (P:=P) hm g fr hu hs hby hz hzl hps hsc hp hb.1 hb.2.1 hb.2.2.1 hb.2.2.2
        have e1:=(hx▸ha x (by simp[ho,Op.operands])).pure_inv.int_inv
        have e2:=(hy▸ha y (by simp[ho,Op.operands])).pure_inv.int_inv
        exact⟨v,w',F',ρ',.value (by simp only[execOp,ho,Sem.run_bind,e1,e2,h1,Result.andThen_ok,Sem.run_pure]),h2,h3,h4,h5⟩
       split at h
       ·cases h;exact fin (.agg ps) rfl hob
       ·split at h
        ·rename_i p
         cases h
         exact fin p (PVal.cells_scalar (by simpa using hsc)) hob
        ·cases h
       ·cases h
      ·cases h
     ·cases h
    ·cases h
   ·cases h
  ·cases h
 ·cases h
theorem Qzb {t:TypeId}{x y:Operand}{out:Out}(ho:o.op=.makeSlice t x y)(h:Fz4 P t id (env x) (env y)=some out)(hob:holds out.obl):Sound1 P o env m id out:=by cases (show none=some _ from h)
theorem Kzg {mx:Bool}{f:Int->Int->Int}(hf:f=if mx then(fun a b=>max a b)else(fun a b=>min a b)){k:IntKind}{F:Cells}{w:World}{ρ:Env}:∀ (l:List AVal) (vs:List Value) (a r:Int),Kzf f k a l=some r->l.length=vs.length->(∀ (j:Nat) (x:AVal) (v:Value),l[j]?=some x->vs[j]?=some v->ARel F w ρ x v)->
 (vs.foldlM (if mx then Builtin.max2 else Builtin.min2) (.int k a)).run P w=.ok (.int k r) w
 |[],[],a,r,h,_,_=>by simp[Kzf]at h;subst h;rfl
 |[],_::_,_,_,_,hl,_=>by simp at hl
 |_::_,[],_,_,_,hl,_=>by simp at hl
 |x::l,v::vs,a,r,h,hl,hr=>by
  have hx:=hr 0 x v (by simp) (by simp)
  obtain⟨b,rfl,h2⟩:∃b,x=.pure (.int k b)/\Kzf f k (f a b) l=some r:=by
   match x,h with
   | .pure (.int k' b),h=>
     simp only[Kzf]at h
     split at h
     ·rename_i hk;subst hk;exact⟨b,rfl,h⟩
     ·cases h
  have hv:=hx.pure_inv.int_inv
  subst hv
  have ih:=Kzg hf l vs _ r h2 (by simpa using hl) (fun j x v h1 h2=>hr (j+1) x v (by simpa using h1) (by simpa using h2))
  cases mx with
  |true=>
   simp only[if_true]at ih hf⊢
   subst hf
   simp only[List.foldlM_cons,Builtin.max2,Sem.run_bind,Sem.run_pure,Result.andThen_ok]
   rw[show(if b>a then b else a)=max a b by omega];exact ih
  |false=>
   simp only[Bool.false_eq_true,if_false]at ih hf⊢
   subst hf
   simp only[List.foldlM_cons,Builtin.min2,Sem.run_bind,Sem.run_pure,Result.andThen_ok]
   rw[show(if b<a then b else a)=min a b by omega];exact ih
theorem Tzx {b:Builtin}{mx:Bool}{ff:Int->Int->Int}(hff:ff=if mx then(fun a b=>max a b)else(fun a b=>min a b)){xs:Array Operand}{ts:Array TypeId}{p:PVal}(hb:b=if mx then .max else .min)(ho:o.op=.call {callee:=.builtin b,args:=xs,argTypes:=ts})
 (h:Gzq ff (xs.toList.map env)=some p):Sound1 P o env m id (.v (.pure p)):=by
 unfold Gzq at h
 split at h
 ·rename_i k a' l hl
  split at h
  ·rename_i r hr
   cases h
   refine Sound1.still fun F w ρ Mine M a _ _ ha=>?_
   obtain⟨x,ys,hxs⟩:∃x ys,xs.toList=x::ys:=by
    cases hh:xs.toList with
    |nil=>rw[hh]at hl;simp at hl
    |cons x ys=>exact⟨x,ys,rfl⟩
   rw[hxs,List.map_cons]at hl
   simp only[List.cons.injEq]at hl
   obtain⟨hx,rfl⟩:=hl
   have hmem:∀z∈xs.toList,z∈o.op.operands:=fun z hz=>by simp[ho,Op.operands,Call.operands];simpa using hz
   have e1:=(hx▸ha x (hmem x (by rw[hxs];simp))).pure_inv.int_inv
   have hf:=Kzg (P:=P) hff (F:=F) (w:=w) (ρ:=ρ) (ys.map env) (ys.map a.eval) a' r hr (by simp) (fun j u v hu hv=>by
    simp only[List.getElem?_map,Option.map_eq_some_iff]at hu hv
    obtain⟨z,hz,rfl⟩:=hu
    obtain⟨z',hz',rfl⟩:=hv
    rw[hz]at hz';cases hz'
    exact ha z (hmem z (by rw[hxs];exact List.mem_cons_of_mem _ (List.mem_of_getElem? hz))))
   have hargs:(xs.map a.eval).toList=a.eval x::ys.map a.eval:=by simp[hxs]
   refine⟨.int k r,.value ?_,.pure .int⟩
   cases mx with
   |true=>
    simp only[if_true]at hb hf
    subst hb
    simp only[execOp,ho,resolve,Sem.run_bind,Sem.run_pure,Result.andThen_ok,invoke,builtin,Builtin.max_,hargs,e1,hf]
   |false=>
    simp only[Bool.false_eq_true,if_false]at hb hf
    subst hb
    simp only[execOp,ho,resolve,Sem.run_bind,Sem.run_pure,Result.andThen_ok,invoke,builtin,Builtin.min_,hargs,e1,hf]
  ·cases h
 ·cases h
theorem jz1 {out:Out}(h:evOp P o.op id env m=some out)(hob:holds out.obl):Sound1 P o env m id out:=by
 generalize hop:o.op=op at h
 cases op<;>simp only[evOp]at h
 all_goals try(cases h;done)
 case move x=>cases h;exact az6k hop
 case assign x=>
  split at h
  ·rename_i hn
   have:x=.const (.slice none 0 0):=by
    unfold az5s at hn
    split at hn
    ·rfl
    ·cases hn
   subst this
   cases h;exact az77 hop
  ·cases h;exact az0w hop
 case pick c x y=>
  split at h
  ·rename_i hc;cases h;exact az2b (b:=true) hop hc
  ·rename_i hc;cases h;exact az2b (b:=false) hop hc
  ·cases h
 case alloc t=>
  split at h
  ·rename_i z hz
   split at h
   ·rename_i hc
    simp only[Bool.and_eq_true,decide_eq_true_eq]at hc
    cases h;exact az4d hop hz hc.1 hc.2
   ·cases h
  ·cases h
 case box t x=>
  split at h
  ·rename_i hc;cases h;exact az75 hop hc
  ·cases h
 case build t ps=>exact az4e hop h
 case buildSlice t n ps=>
  split at h
  ·rename_i out' ho';cases h;exact Qz6 hop ho'
  ·exact Nzg hop h
 case load t a=>
  split at h
  ·rename_i out' ho';cases h;exact az4j hop ho' hob
  ·split at h
   ·rename_i out' ho';cases h;exact az4l hop ho' hob
   ·exact az6j hop h hob
 case store t a v=>
  split at h
  ·rename_i out' ho';cases h;exact az18 hop ho' hob
  ·split at h
   ·rename_i out' ho';cases h;exact az1a hop ho' hob
   ·split at h
    ·rename_i out' ho';cases h;exact Yzo hop ho' hob
    ·split at h
     ·rename_i out' ho';cases h;exact az17 hop ho'
     ·split at h
      ·rename_i out' ho';cases h;exact az16 hop ho' hob
      ·split at h
       ·rename_i out' ho';cases h;exact az15 hop ho' hob
       ·exact Nzi hop h hob
 case nilCheck x=>
  split at h<;>rename_i hx<;>first|(cases h;rw[←hx];exact Vz9 hop (by rw[hx];trivial))|(cases h)
 case binOp op t x y t'=>
  split at h
  ·rename_i p q hp hq
   split at h
   ·rename_i r ob hr;cases h;exact az74 hop hp hq hr hob
   ·cases h
  ·cases h
 case unOp op t x=>
  split at h
  ·rename_i hx
   split at h
   ·cases h;exact az6l (b:=true) hop hx
   ·cases h
  ·rename_i hx
   split at h
   ·cases h;exact az6l (b:=false) hop hx
   ·cases h
  ·rename_i p hx
   split at h
   ·rename_i r hr;cases h;exact s_un hop hx hr
   ·cases h
  ·cases h
 case convert s d x=>
  split at h
  ·rename_i p hp
   split at h
   ·rename_i r hr
    split at h
    ·rename_i hs;cases h;exact az6h hop hs hp hr
    ·cases h
   ·cases h
  ·cases h
 case makeFunc fn a b=>
  split at h
  ·cases h;exact Vz8 hop
  ·cases h
 case makeSlice t l c=>exact Izv hop h hob
 case makeMap t r=>
  split at h
  ·exact Yzm hop h
  ·cases h
 case lookup t x ix ok=>exact az0z hop h hob
 case mapUpdate t x k v=>exact Izw (.inl hop) h
 case insert t x k v=>exact Izw (.inr hop) h
 case slice t x lo hi mx=>
  split at h
  ·rename_i out' ho';cases h;exact az11 hop ho' hob
  ·split at h
   ·rename_i out' ho';cases h;exact az10 hop ho'
   ·split at h
    ·rename_i out' ho';cases h;exact Yzn hop ho' hob
    ·split at h
     ·rename_i out' ho';cases h;exact az12 hop ho' hob
     ·exact az4n hop h hob
 case fieldAddr s x f=>exact az4g hop h
 case field s x f=>exact az0x hop h
 case indexAddr t x i=>
  split at h
  ·rename_i out' ho';cases h;exact Qz8 hop ho' hob
  ·split at h
   ·rename_i out' ho';cases h;exact Qza hop ho' hob
   ·split at h
    ·rename_i out' ho';cases h;exact Qz7 hop ho' hob
    ·split at h
     ·rename_i out' ho';cases h;exact Qz9 hop ho' hob
     ·exact Sze hop h hob
 case makeInterface t x=>exact az4h hop h
 case typeAssert x xt a ok=>exact az0v hop h
 case index t x i=>exact az4i hop h hob
 case range t x=>
  split at h
  ·rename_i s hu hx
   cases h;exact az4m hop hu hx
  ·cases h
 case extract x i=>
  split at h
  ·rename_i cs hx
   split at h
   ·rename_i v hv;cases h;exact Yzl hop hx hv
   ·cases h
  ·cases h
 case call c=>
  split at h
  ·rename_i b hb
   obtain⟨callee,args,ts⟩:=c
   simp only at hb h
   subst hb
   unfold Bzp at h
   split at h
   ·split at h
    ·rename_i x hx
     have:args=#[x]:=by rw[←Array.toArray_toList (xs:=args),hx]
     subst this
     split at h
     ·rename_i out' ho';cases h;exact az6i hop ho'
     ·exact az76 hop h
    ·cases h
   ·split at h
    ·rename_i d s hx
     have:args=#[d,s]:=by rw[←Array.toArray_toList (xs:=args),hx]
     subst this
     split at h
     ·rename_i hsz;exact az4f hop hsz h
     ·cases h
    ·cases h
   ·split at h
    ·rename_i s x hx
     have:args=#[s,x]:=by rw[←Array.toArray_toList (xs:=args),hx]
     subst this
     split at h
     ·rename_i hsz
      have hts:∀t,ts[0]?=some t->ts[1]?=some t->ts=#[t,t]:=fun t h0 h1=>by
       refine Array.ext (by simpa using hsz) fun i hi _=>?_
       have hi2:i<2:=by omega
       match i,hi2 with
       |0,_=>simpa[Array.getElem?_eq_getElem (show 0<ts.size by omega)]using h0
       |1,_=>simpa[Array.getElem?_eq_getElem (show 1<ts.size by omega)]using h1
      split at h
      ·rename_i out' ho';cases h;exact Yzk hop hts ho' hob
      ·split at h
       ·rename_i out' ho';cases h;exact Yzi hop hts ho' hob
       ·exact Tzw hop hts h hob
     ·cases h
    ·cases h
   ·split at h
    ·rename_i p hp;cases h;exact Tzx (mx:=false) rfl rfl hop hp
    ·cases h
   ·split at h
    ·rename_i p hp;cases h;exact Tzx (mx:=true) rfl rfl hop hp
    ·cases h
   ·cases h
  ·cases h
end Go.Abs
