/-
  SoundK (a part of a claim: our own text).
-/
import Derived.Test.YtkbjjlfpbebiaaaGreatDoorYKSoundT
import Derived.Laws.CopyRow
import Derived.Laws.Pointers
namespace Go.Abs
variable {P:Program} {o:Oper} {env:Operand->AVal} {m:Mem} {id:Nat}
theorem openB_true {hs:List (Nat×Nat)}{i:Nat}:jzx hs i=true↔∃k,(i,k)∈hs:=by
 simp only[jzx,List.any_eq_true,beq_iff_eq,Prod.exists]
 exact⟨fun ⟨a,b,h,e⟩=>⟨b,e▸h⟩,fun ⟨b,h⟩=>⟨i,b,h,rfl⟩⟩
theorem Uz9 {t:TypeId}{x:Operand}{q:Nat}{out:Out}(ho:o.op=.load t x)(h:Lz2 P t q (env x) m=some out)(hob:holds out.obl):Sound1 P o env m id out:=by
 unfold Lz2 at h
 split at h
 ·rename_i j sz i hx
  split at h
  ·rename_i sz' n f k e off s' e' hs hj
   split at h
   ·rename_i hc
    simp only[Bool.and_eq_true,decide_eq_true_eq]at hc
    obtain⟨⟨rfl,hsz⟩,hag⟩:=hc
    have key:∀ (val:AVal) (ob:Option Prop),i<n->(∀ (F:Cells) (w:World) (ρ:Env) (c:Array Value),UOk F w ρ c sz n f k off s' e' hs->off<sz->∀vs:Array Value,vs.size=sz->(∀jj,jj<sz->vs[jj]?=c[i * sz+jj]?)->ARel F w ρ val (.agg vs))->
     Sound1 P o env m id ⟨val,[j],[],ob⟩:=by
     intro val ob hin hv
     refine Sound1.still fun F w ρ Mine M a hm hrd ha=>?_
     have hax:=ha x (by simp[ho,Op.operands])
     rw[hx]at hax
     obtain⟨hoff,hkn,⟨_,hn0,_⟩|⟨b,cap,c,q1,q2,q3,q4,q5,q6,q7,q8⟩⟩:=hm.ok j _ ((hrd j (by simp)).trans hj)
     ·omega
     generalize hu:a.eval x=u at hax
     cases hax with
     |eptr hvec=>
      rw[hvec]at q1;cases q1
      have hsub:i * sz+sz≤c.size:=by rw[q5,←Nat.succ_mul];exact Nat.mul_le_mul_right _ (by omega)
      have hr:=izu (P:=P) (t:=t) (b:=b) (off:=i * sz+0) q2 (.inl ⟨hag,sz,hsz,by omega,rfl⟩)
      refine⟨.agg (c.extract (i * sz+0) (i * sz+0+sz)),.value (by simp only[execOp,ho,Instr.loadAt,Instr.sureAddr,hu,Sem.run_bind,Sem.run_pure,Result.andThen_ok,hr]),hv F w ρ c q7 hoff _ (by simp;omega) fun jj hjj=>?_⟩
      rw[Array.getElem?_extract,if_pos (by omega)]
      simp
    split at h
    ·split at h
     ·rename_i hemp
      have hemp:hs=[]:=by simpa using hemp
      subst hemp
      cases h
      obtain⟨hki,hin⟩:=hob
      refine key _ _ hin fun F w ρ c hU hoff vs hl hg=>.pure (.agg (by rw[hU.len i hin,hl]) fun jj p v hp hv=>?_)
      have hjj:jj<sz:=by have:=(List.getElem?_eq_some_iff.1 hp).1;rw[hU.len i hin]at this;exact this
      rw[hg jj hjj]at hv
      by_cases e0:jj=off
      ·subst e0
       obtain⟨v',v1,_,_,v4⟩:=hU.own i p hin rfl hp
       rw[v1]at hv;cases hv;exact v4 hki
      ·obtain⟨v',v1,_,v3⟩:=hU.cell i jj p hin e0 hp
       rw[v1]at hv;cases hv;exact v3
     ·cases h
    ·rename_i hh
     split at h
     ·rename_i h' k' hget
      cases h
      obtain rfl:i=h':=hob
      have hmem:(i,k')∈hs:=List.mem_of_getElem? hget
      intro F w ρ Mine M a hm g fr hrd hfe ha
      obtain⟨_,_,⟨_,_,he⟩|⟨b,cap,c,q1,q2,q3,q4,q5,q6,q7,q8⟩⟩:=hm.ok j _ ((hrd j (by simp)).trans hj)
      ·rw[he]at hmem;cases hmem
      have hin:=(q7.hole _ hmem).1
      refine key _ _ hin (fun F w ρ c hU hoff vs hl hg=>.agg (by rw[List.length_set,List.length_map,hU.len i hin,hl]) fun jj a v hp hv=>?_) F w ρ Mine M a hm g fr hrd hfe ha
      have hjj:jj<sz:=by have:=(List.getElem?_eq_some_iff.1 hp).1;rw[List.length_set,List.length_map,hU.len i hin]at this;exact this
      rw[hg jj hjj]at hv
      by_cases e0:jj=off
      ·subst e0
       rw[(hU.hole _ hmem).2]at hv;cases hv
       rw[List.getElem?_set_self (by rw[List.length_map,hU.len i hin];exact hjj)]at hp
       cases hp
       exact rz8 _
      ·rw[List.getElem?_set_ne (Ne.symm e0),List.getElem?_map,Option.map_eq_some_iff]at hp
       obtain⟨p,hp,rfl⟩:=hp
       obtain⟨v',v1,_,v3⟩:=hU.cell i jj p hin e0 hp
       rw[v1]at hv;cases hv;exact .pure v3
     ·cases h
   ·cases h
  ·cases h
 ·cases h
theorem Tz2 {t:TypeId}{x y:Operand}{j sz n i k off s' kk:Nat}{f:Nat->PVal}{e e':TypeId}{hs hs':List (Nat×Nat)}{ps:List PVal}{ob:Option Prop}{rk:Res}(ho:o.op=.store t x y)(hsz:bzi P t=some sz)
 (hx:env x=.eptr j sz i 0) (hj:m.get j=some (.vecU sz n f k e off s' e' hs)) (hk:m.get kk=some rk) (hoffv:(env y).cells[off]?=some (.vec kk)) (hps:allP ((env y).cells.set off (.pure .unk))=some ps) (hpl:ps.length=sz) (hpsc:ps.all (·.scalar)=true)
 (hin:i<n) (h1:∀q,q≠i->jzx hs' q=jzx hs q) (h2:jzx hs' i=true) (h3:∀z∈hs',z=(i,kk)\/(z∈hs/\z.1≠i)) (h4:(hs.map (·.1)).Nodup->(hs'.map (·.1)).Nodup):
 Sound1 P o env m id ⟨.any,[j,kk],[(j,.vecU sz n (fun q=>if q=i then .agg ps else f q) k e off s' e' hs')],ob⟩:=by
 have run:∀ {a:Act} {w w':World} {b off:Nat},a.eval x=.pointer (some ⟨b,off,none⟩)->(storeVar t ⟨b,off,none⟩ (a.eval y)).run P w=.ok () w'->Ran P o a w undef w':=by
  intro a w w' b off hx hr
  exact .inr ⟨by simp[execOp,ho,Instr.storeAt,Instr.sureAddr,hx,hr],rfl⟩
 intro F w ρ Mine M a hm g fr hrd hfe ha
 have hM:=(hrd j (by simp)).trans hj
 have hax:=ha x (by simp[ho,Op.operands])
 have hay:=ha y (by simp[ho,Op.operands])
 rw[hx]at hax
 generalize hu:a.eval x=u at hax
 cases hax with
 |eptr hvec=>
  rename_i b n' cap
  obtain⟨hoff,hkn,⟨_,hn0,_⟩|⟨b',cap',c,hv',hb,hnc,hcm,hcsz,hF,hU,hnin⟩⟩:=hm.ok j _ hM
  ·omega
  rw[hvec]at hv';cases hv'
  obtain⟨hpl',hpg⟩:=gzu hps
  have hyl:(env y).cells.length=sz:=by rw[←hpl,←hpl',List.length_set]
  have hallsc:(env y).cells.all (·.scalar)=true:=by
   have h5:=Aze hps hpsc
   rw[List.all_eq_true]at h5⊢
   intro z hz
   obtain⟨q,hq⟩:=List.getElem?_of_mem hz
   by_cases e0:q=off
   ·subst e0;rw[hoffv]at hq;cases hq;rfl
   ·exact h5 z (List.mem_of_getElem? (i:=q) (by rw[List.getElem?_set_ne (Ne.symm e0)];exact hq))
  obtain⟨hvs,hvc⟩:=hay.cells hallsc
  have h5:∀u∈(a.eval y).cells.toList,u.oneCell'=true:=by
   intro u hu'
   obtain⟨q,hq⟩:=List.getElem?_of_mem hu'
   have hlt:q<(env y).cells.length:=by have:=(List.getElem?_eq_some_iff.1 hq).1;simp at this;omega
   exact(hvc q _ u (List.getElem?_eq_getElem hlt) (by simpa using hq)).2
  have hsub:i * sz+sz≤c.size:=by rw[hcsz,←Nat.succ_mul];exact Nat.mul_le_mul_right _ (by omega)
  have hr:=jzg (P:=P) (off:=i * sz+0) hsz (by omega) hb (by omega) h5
  have hvlen:(a.eval y).cells.toList.length=sz:=by simp;omega
  have hget:∀q,((c.toList.take (i * sz+0)++(a.eval y).cells.toList++c.toList.drop (i * sz+0+(a.eval y).cells.toList.length)).toArray)[q]?=
   if i * sz≤q/\q<i * sz+sz then(a.eval y).cells[q-i * sz]? else c[q]?:=by
   intro q
   rw[List.getElem?_toArray,ezc _ _ _ _ (by simp;omega),hvlen]
   simp
  generalize hc':(c.toList.take (i * sz+0)++(a.eval y).cells.toList++c.toList.drop (i * sz+0+(a.eval y).cells.toList.length)).toArray=c' at hr hget
  have hsz':c'.size=cap * sz:=by
   rw[←hc',List.size_toArray,dz4 _ _ _ (by simp;omega)];simpa using hcsz
  have hbj:Owns w ρ j (.vecU sz n f k e off s' e' hs) b:=.inl (by simp[bzc,hvec])
  have hmine:=hm.mine j _ b hM hbj
  have st:Step Mine F w F (w.setRow b c'):=Step.write g hb hmine.1 (fun o h=>absurd h (hF o))
  have hheap:=setRow_heap w b c c' e _ hb
  have hold:∀q jj,q≠i->jj<sz->c'[q * sz+jj]?=c[q * sz+jj]?:=by
   intro q jj hq hjj
   rw[hget,if_neg]
   rcases Nat.lt_or_gt_of_ne hq with hlt|hgt
   ·have:(q+1) * sz≤i * sz:=Nat.mul_le_mul_right _ hlt
    rw[Nat.succ_mul]at this;omega
   ·have:(i+1) * sz≤q * sz:=Nat.mul_le_mul_right _ hgt
    rw[Nat.succ_mul]at this;omega
  have hnew:∀jj,jj<sz->c'[i * sz+jj]?=(a.eval y).cells[jj]?:=by
   intro jj hjj
   rw[hget,if_pos (by omega)]
   congr 1;omega
  have hinn:∀q b',InnU c' sz n off k hs' q b'->InnU c sz n off k hs q b':=by
   intro q b' ⟨r1,r2,r3,n2,cap2,r4⟩
   have hqi:q≠i:=fun e=>by subst e;rw[h2]at r3;cases r3
   rw[hold q off hqi hoff]at r4
   exact⟨r1,r2,by rw[←h1 q hqi];exact r3,n2,cap2,r4⟩
  have hown:∀b',Owns (w.setRow b c') ρ j (.vecU sz n (fun q=>if q=i then .agg ps else f q) k e off s' e' hs') b'->Owns w ρ j (.vecU sz n f k e off s' e' hs) b':=by
   intro b' hb'
   rcases hb' with hb'|⟨b0,n0,cap0,c0,e0,q,r1,r2,r3⟩
   ·exact .inl hb'
   ·rw[hvec]at r1;cases r1
    rw[hheap]at r2;cases r2
    exact .inr ⟨b,n,cap,c,e,q,hvec,hb,hinn q b' r3⟩
  have hnone:∀q,Mem.get [(j,Res.vecU sz n (fun q=>if q=i then .agg ps else f q) k e off s' e' hs')] q=none->q≠j:=by
   intro q hq e1
   subst e1
   simp[Mem.get]at hq
  refine⟨undef,_,F,ρ,run hu hr,st,fun _ _=>⟨rfl,rfl⟩,.any,MemOk.step hm st (fun _=>True) (fun _ _=>⟨rfl,rfl⟩) _ (fun q r h hn=>⟨trivial,fun q hq=>absurd trivial hq,fun b' hb'=>⟨?_,fun _ h=>h⟩⟩) (fun q r h=>?_) (fun q q' r r' b' h h' _ _=>?_)⟩
  ·refine setRow_other w b b' _ (fun e1=>?_)
   subst e1
   exact hnone q hn (hm.disj j q _ r _ hM h hbj hb').symm
  ·simp only[Mem.get]at h
   split at h
   ·rename_i e1;subst e1;cases h
    refine⟨⟨hoff,hkn,.inr ⟨b,cap,c',hvec,hheap,hnc,hcm,hsz',hF,⟨fun q hq=>?_,fun q jj p hq hjj hp=>?_,fun q p hq hop hp=>?_,fun z hz=>?_,h4 hU.nodup,fun q q' b' r1 r2=>hU.inj q q' b' (hinn q b' r1) (hinn q' b' r2)⟩,fun q r1=>hnin q (hinn q b r1)⟩⟩,fun b' hb'=>?_⟩
    ·by_cases hqi:q=i
     ·simp only[if_pos hqi];exact hpl
     ·simp only[if_neg hqi];exact hU.len q hq
    ·by_cases hqi:q=i
     ·subst hqi
      simp only[if_true]at hp
      have hlt:jj<sz:=by have:=(List.getElem?_eq_some_iff.1 hp).1;rw[show(PVal.agg ps).cells=ps from rfl,hpl]at this;exact this
      obtain⟨aa,ha1,ha2⟩:=hpg jj p hp
      rw[List.getElem?_set_ne (Ne.symm hjj)]at ha1
      rw[hnew jj hlt]
      have hlt2:jj<(a.eval y).cells.size:=by omega
      obtain⟨r1,r2⟩:=hvc jj aa _ ha1 (Array.getElem?_eq_getElem hlt2)
      exact⟨_,Array.getElem?_eq_getElem hlt2,r2,(r1.toP ha2).mono st.sub st.cell⟩
     ·simp only[if_neg hqi]at hp
      have hlt:jj<sz:=by have:=(List.getElem?_eq_some_iff.1 hp).1;rw[hU.len q hq]at this;exact this
      rw[hold q jj hqi hlt]
      obtain⟨v,v1,v2,v3⟩:=hU.cell q jj p hq hjj hp
      exact⟨v,v1,v2,v3.mono st.sub st.cell⟩
    ·have hqi:q≠i:=fun e1=>by subst e1;rw[h2]at hop;cases hop
     simp only[if_neg hqi]at hp
     rw[hold q off hqi hoff]
     rw[h1 q hqi]at hop
     obtain⟨v,v1,v2,v3,v4⟩:=hU.own q p hq hop hp
     refine⟨v,v1,v2,fun hqk=>?_,fun hqk=>(v4 hqk).mono st.sub st.cell⟩
     obtain⟨z,n2,g2,p1,p2,p3⟩:=v3 hqk
     refine⟨z,n2,g2,p1,p2,p3.mono st.sub st.cell fun b' m' cap' hx'=>⟨setRow_other w b b' _ (fun e1=>?_),fun _ h=>h⟩⟩
     subst hx'
     exact hnin q ⟨hq,hqk,hop,m',cap',by rw[v1,p2,e1];rfl⟩
    ·rcases h3 z hz with rfl|⟨z1,z2⟩
     ·refine⟨hin,?_⟩
      rw[hnew off hoff]
      have hlt2:off<(a.eval y).cells.size:=by omega
      obtain⟨r1,_⟩:=hvc off _ _ hoffv (Array.getElem?_eq_getElem hlt2)
      rw[Array.getElem?_eq_getElem hlt2,Dz1 r1]
     ·obtain⟨r1,r2⟩:=hU.hole z z1
      exact⟨r1,by rw[hold z.1 off z2 hoff];exact r2⟩
    ·obtain⟨m1,m2⟩:=hm.mine _ _ b' hM (hown b' hb')
     exact⟨m1,by simpa using m2,fun q r' hq hn hbq=>hnone q hn (hm.disj _ q _ r' b' hM hq (hown b' hb') hbq).symm⟩
   ·cases h
  ·simp only[Mem.get]at h h'
   split at h
   ·split at h'
    ·rename_i e1 e2;exact e1.symm.trans e2
    ·cases h'
   ·cases h
theorem Pz6 {hs:List (Nat×Nat)}{h i k kk:Nat}(hg:hs[h]?=some (i,k)):(hs.set h (i,kk)).map (·.1)=hs.map (·.1):=by
 rw[List.map_set]
 have:=List.getElem?_eq_some_iff.1 hg
 obtain⟨h1,h2⟩:=this
 apply List.ext_getElem?
 intro j
 by_cases e:h=j
 ·subst e
  rw[List.getElem?_set_self (by simpa using h1)]
  simp[hg]
 ·rw[List.getElem?_set_ne e]
theorem Jzj {hs hs':List (Nat×Nat)}(h:hs.map (·.1)=hs'.map (·.1))(i:Nat):jzx hs i=jzx hs' i:=by
 have:∀l:List (Nat×Nat),jzx l i=(l.map (·.1)).any (·==i):=fun l=>by simp[jzx,List.any_map,Function.comp_def]
 rw[this,this,h]
theorem Sz9 {t:TypeId}{x y:Operand}{q:Nat}{out:Out}(ho:o.op=.store t x y)(h:Gzq P t q (env x) (env y) m=some out)(hob:holds out.obl):Sound1 P o env m id out:=by
 unfold Gzq at h
 split at h
 ·rename_i j sz i hx
  split at h
  ·rename_i sz' n f k e off s' e' hs hj
   split at h
   ·rename_i kk ps hoffv hps
    split at h
    ·rename_i z1 z2 z3 z4 z5 hk
     split at h
     ·rename_i hc
      simp only[Bool.and_eq_true,decide_eq_true_eq]at hc
      obtain⟨⟨⟨⟨rfl,hsz⟩,hpl⟩,hpsc⟩,_⟩:=hc
      split at h
      ·split at h
       ·rename_i hemp
        have hemp:hs=[]:=by simpa using hemp
        subst hemp
        cases h
        refine Tz2 ho hsz hx hj hk hoffv hps hpl hpsc hob (fun q hq=>?_) (by simp[jzx]) (fun z hz=>.inl (by simpa using hz)) (fun _=>by simp)
        simp[jzx,Ne.symm hq]
       ·cases h
      ·rename_i hh
       split at h
       ·rename_i h' k' hget
        cases h
        obtain rfl:i=h':=hob
        intro F w ρ Mine M a hm g fr hrd hfe ha
        obtain⟨_,_,⟨_,_,he⟩|⟨b,cap,c,q1,q2,q3,q4,q5,q6,q7,q8⟩⟩:=hm.ok j _ ((hrd j (by simp)).trans hj)
        ·rw[he]at hget;simp at hget
        have hin:=(q7.hole _ (List.mem_of_getElem? hget)).1
        have hfst:=Pz6 (kk:=kk) hget
        refine Tz2 ho hsz hx hj hk hoffv hps hpl hpsc hin (fun q hq=>Jzj hfst q) ?_ (fun z hz=>?_) (fun hn=>by rw[hfst];exact hn) F w ρ Mine M a hm g fr hrd hfe ha
        ·rw[Jzj hfst];exact openB_true.2 ⟨k',List.mem_of_getElem? hget⟩
        ·obtain⟨q,hq⟩:=List.getElem?_of_mem hz
         by_cases e1:hh=q
         ·subst e1
          have hlt:=(List.getElem?_eq_some_iff.1 hget).1
          rw[List.getElem?_set_self hlt]at hq
          cases hq;exact .inl rfl
         ·rw[List.getElem?_set_ne e1]at hq
          refine .inr ⟨List.mem_of_getElem? hq,fun e2=>e1 ?_⟩
          have hnd:=q7.nodup
          have l1:=(List.getElem?_eq_some_iff.1 hget).1
          have l2:=(List.getElem?_eq_some_iff.1 hq).1
          refine(List.getElem?_inj (by simpa using l1) hnd).1 ?_
          rw[List.getElem?_map,List.getElem?_map,hget,hq]
          simp[e2]
       ·cases h
     ·cases h
    ·cases h
   ·cases h
  ·cases h
 ·cases h
theorem wzw {x:Nat×Nat}{hs:List (Nat×Nat)}{i:Nat}:jzx (x::hs) i=(x.1==i||jzx hs i):=by simp[jzx]
theorem Fzs {x:Nat×Nat}{hs:List (Nat×Nat)}{i:Nat}:jzx (hs++[x]) i=(jzx hs i||x.1==i):=by simp[jzx]
theorem MemOk.openU {F:Cells}{w:World}{ρ:Env}{Mine:Nat->Prop}{M:Mem}(hm:MemOk F w ρ Mine M){j sz n k off s' n' h new:Nat}{f g:Nat->PVal}{e e':TypeId}{hs:List (Nat×Nat)}
 (hj:M.get j=some (.vecU sz n f k e off s' e' hs)) (hc:(f h).cells[off]?=some (.lst s' n' g)) (hk:h<k) (hh:jzx hs h=false)
 (hnew:M.get new=none) (hfr:∀q r,M.get q=some r->r.has new=false):
 ∃x,MemOk F w (ρ.setVec new x) Mine ((j,.vecU sz n f k e off s' e' (hs++[(h,new)]))::(new,.vec s' n' g 0 e')::M):=by
 obtain⟨hoff,hkn,⟨_,hn0,_⟩|⟨b,cap,c,q1,q2,q3,q4,q5,q6,q7,q8⟩⟩:=hm.ok j _ hj
 ·omega
 obtain⟨v,v1,v2,v3,_⟩:=q7.own h _ (by omega) hh hc
 obtain⟨x,n2,g2,p1,p2,p3⟩:=v3 hk
 cases p1
 have hjn:j≠new:=fun e1=>by rw[e1,hnew]at hj;cases hj
 have hne:∀i,i≠new->(ρ.setVec new x).vec i=ρ.vec i:=fun i hi=>by simp[Env.setVec,hi]
 have hself:(ρ.setVec new x).vec new=x:=by simp[Env.setVec]
 have hinn:∀q b',InnU c sz n off k (hs++[(h,new)]) q b'->InnU c sz n off k hs q b'/\q≠h:=by
  intro q b' ⟨r1,r2,r3,r4⟩
  rw[Fzs,Bool.or_eq_false_iff]at r3
  exact⟨⟨r1,r2,r3.1,r4⟩,fun e=>by simp[e]at r3⟩
 have hx:∀b',x.map (·.1)=some b'->InnU c sz n off k hs h b':=by
  intro b' hb'
  cases x with
  |none=>cases hb'
  |some z=>
   obtain⟨z1,z2,z3⟩:=z
   cases hb'
   exact⟨by omega,hk,hh,z2,z3,by rw[v1,p2];rfl⟩
 have hgetM:∀i r,Mem.get ((j,Res.vecU sz n f k e off s' e' (hs++[(h,new)]))::(new,.vec s' n' g 0 e')::M) i=some r->
  (i=j/\r=.vecU sz n f k e off s' e' (hs++[(h,new)]))\/(i=new/\r=.vec s' n' g 0 e')\/(i≠j/\i≠new/\M.get i=some r):=by
  intro i r hi
  simp only[Mem.get]at hi
  split at hi
  ·rename_i e1;cases hi;exact .inl ⟨e1.symm,rfl⟩
  ·rename_i e1
   split at hi
   ·rename_i e2;cases hi;exact .inr (.inl ⟨e2.symm,rfl⟩)
   ·rename_i e2;exact .inr (.inr ⟨fun h=>e1 h.symm,fun h=>e2 h.symm,hi⟩)
 have hvj:(ρ.setVec new x).vec j=some (b,n,cap):=by rw[hne j hjn];exact q1
 have hown:∀i r b',Mem.get ((j,Res.vecU sz n f k e off s' e' (hs++[(h,new)]))::(new,.vec s' n' g 0 e')::M) i=some r->Owns w (ρ.setVec new x) i r b'->
  (i=j/\(b'=b\/∃q,q≠h/\InnU c sz n off k hs q b'))\/(i=new/\InnU c sz n off k hs h b')\/(i≠j/\i≠new/\M.get i=some r/\Owns w ρ i r b'):=by
  intro i r b' hi hb'
  rcases hgetM i r hi with⟨rfl,rfl⟩|⟨rfl,rfl⟩|⟨h1,h2,h3⟩
  ·refine .inl ⟨rfl,?_⟩
   rcases hb' with hb'|⟨b0,n0,cap0,c0,e0,q,r1,r2,r3⟩
   ·simp only[bzc,hvj,Option.map_some,Option.some.injEq]at hb';exact .inl hb'.symm
   ·rw[hvj]at r1;cases r1
    rw[q2]at r2;cases r2
    exact .inr ⟨q,(hinn q b' r3).2,(hinn q b' r3).1⟩
  ·refine .inr (.inl ⟨rfl,hx b' ?_⟩)
   rw[owns_vec,hself]at hb';exact hb'
  ·exact .inr (.inr ⟨h1,h2,h3,(nzp (ρ:=ρ) (ρ':=ρ.setVec new x) ⟨rfl,hne i h2⟩ (fun _ _=>rfl) b').1 hb'⟩)
 have ob:Owns w ρ j (.vecU sz n f k e off s' e' hs) b:=.inl (by simp[bzc,q1])
 have oi:∀q b',InnU c sz n off k hs q b'->Owns w ρ j (.vecU sz n f k e off s' e' hs) b':=fun q b' h=>.inr ⟨b,n,cap,c,e,q,q1,q2,h⟩
 refine⟨x,fun i r hi=>?_,fun i r b' hi hb'=>?_,fun i i' r r' b' hi hi' hb1 hb2=>?_⟩
 ·rcases hgetM i r hi with⟨rfl,rfl⟩|⟨rfl,rfl⟩|⟨h1,h2,h3⟩
  ·refine⟨hoff,hkn,.inr ⟨b,cap,c,hvj,q2,q3,q4,q5,q6,⟨q7.len,q7.cell,fun q p hq ho hp=>?_,fun z hz=>?_,?_,fun q q' b' r1 r2=>q7.inj q q' b' (hinn q b' r1).1 (hinn q' b' r2).1⟩,fun q r1=>q8 q (hinn q b r1).1⟩⟩
   ·rw[Fzs,Bool.or_eq_false_iff]at ho
    exact q7.own q p hq ho.1 hp
   ·rw[List.mem_append,List.mem_singleton]at hz
    rcases hz with hz|rfl
    ·obtain⟨z1,z2⟩:=q7.hole z hz
     have:z.2≠new:=fun e1=>by
      have:=hfr _ _ hj
      simp only[Res.has,List.any_eq_false]at this
      exact this z hz (by simp[e1])
     exact⟨z1,by rw[hne _ this];exact z2⟩
    ·exact⟨by show h<n;omega,by show c[h * sz+off]?=_;rw[hself,v1,p2]⟩
   ·rw[List.map_append,List.nodup_append]
    refine⟨q7.nodup,by simp,fun a ha b' hb' e1=>?_⟩
    simp only[List.map_cons,List.map_nil,List.mem_singleton]at hb'
    obtain⟨z,hz,rfl⟩:=List.mem_map.1 ha
    have:jzx hs h=true:=openB_true.2 ⟨z.2,by rw[←hb',←e1];exact hz⟩
    rw[hh]at this;cases this
  ·show _/\_
   rw[hself];exact p3
  ·refine(hm.ok i r h3).keep (fun q=>q≠new) (fun _ _ h=>h) (fun _ _ _=>rfl) (fun q hq=>⟨rfl,hne q hq⟩) h2 (fun q hq=>?_) (fun b' _=>⟨rfl,fun _ h=>h⟩)
   have:q=new:=Classical.byContradiction fun h=>hq h
   subst this;exact hfr i r h3
 ·rcases hown i r b' hi hb' with⟨_,rfl|⟨q,_,h1⟩⟩|⟨_,h1⟩|⟨_,_,h3,h4⟩
  ·exact hm.mine j _ _ hj ob
  ·exact hm.mine j _ _ hj (oi q b' h1)
  ·exact hm.mine j _ _ hj (oi h b' h1)
  ·exact hm.mine i r b' h3 h4
 ·rcases hown i r b' hi hb1 with⟨e1,h1⟩|⟨e1,h1⟩|⟨a1,a2,h3,h4⟩<;>rcases hown i' r' b' hi' hb2 with⟨e2,h1'⟩|⟨e2,h1'⟩|⟨a1',a2',h3',h4'⟩
  ·rw[e1,e2]
  ·rcases h1 with rfl|⟨q,hq,h1⟩
   ·exact(q8 h h1').elim
   ·exact(hq (q7.inj q h b' h1 h1')).elim
  ·have hj':Owns w ρ j (.vecU sz n f k e off s' e' hs) b':=by
    rcases h1 with rfl|⟨q,hq,h1⟩
    ·exact ob
    ·exact oi q b' h1
   exact(a1' (hm.disj j i' _ r' b' hj h3' hj' h4').symm).elim
  ·rcases h1' with rfl|⟨q,hq,h1'⟩
   ·exact(q8 h h1).elim
   ·exact(hq (q7.inj q h b' h1' h1)).elim
  ·rw[e1,e2]
  ·exact(a1' (hm.disj j i' _ r' b' hj h3' (oi h b' h1) h4').symm).elim
  ·have hj':Owns w ρ j (.vecU sz n f k e off s' e' hs) b':=by
    rcases h1' with rfl|⟨q,hq,h1⟩
    ·exact ob
    ·exact oi q b' h1
   exact(a1 (hm.disj j i _ r b' hj h3 hj' h4).symm).elim
  ·exact(a1 (hm.disj j i _ r b' hj h3 (oi h b' h1') h4).symm).elim
  ·exact hm.disj i i' r r' b' h3 h3' h4 h4'
theorem MemOk.closeU {F:Cells}{w:World}{ρ:Env}{Mine:Nat->Prop}{M:Mem}(hm:MemOk F w ρ Mine M){j sz n k k2 off s' n' h kk:Nat}{f g:Nat->PVal}{e e':TypeId}{hs:List (Nat×Nat)}
 (hj:M.get j=some (.vecU sz n f k e off s' e' ((h,kk)::hs))) (hk:M.get kk=some (.vec s' n' g 0 e')) (hkk:(k=n/\k2=k)\/(h=k/\k2=k+1)):
 MemOk F w ρ Mine ((j,.vecU sz n (czx f h off (.lst s' n' g)) k2 e off s' e' hs)::(kk,.gone)::M):=by
 have hjk:j≠kk:=fun e1=>by rw[e1,hk]at hj;cases hj
 obtain⟨hoff,hkn,⟨_,hn0,hs0⟩|⟨b,cap,c,q1,q2,q3,q4,q5,q6,q7,q8⟩⟩:=hm.ok j _ hj
 ·cases hs0
 obtain⟨hhn,hcell⟩:=q7.hole _ (List.mem_cons_self ..)
 simp only at hhn hcell
 have hfl:=q7.len h hhn
 have hcells:(czx f h off (.lst s' n' g) h).cells=(f h).cells.take off++[.lst s' n' g]++(f h).cells.drop (off+1):=by
  simp only[czx,if_true]
  have hnl:((f h).cells.take off++[PVal.lst s' n' g]++(f h).cells.drop (off+1)).length=(f h).cells.length:=by
   have:=dz4 (f h).cells [PVal.lst s' n' g] off (by simp;omega)
   simpa using this
  refine jze hnl.symm (fun hsc=>?_)
  have h1:=PVal.cells_scalar hsc
  rw[h1]at hfl⊢
  obtain rfl:off=0:=by simp at hfl;omega
  simp[PVal.scalar]
 have hother:∀q,q≠h->czx f h off (.lst s' n' g) q=f q:=fun q hq=>by simp[czx,hq]
 have hkb:∀b',(ρ.vec kk).map (·.1)=some b'->Owns w ρ kk (.vec s' n' g 0 e') b':=fun b' h=>owns_vec.2 h
 have hkok:VecAt F w s' n' g 0 e' (ρ.vec kk):=hm.ok kk _ hk
 have ob:Owns w ρ j (.vecU sz n f k e off s' e' ((h,kk)::hs)) b:=.inl (by simp[bzc,q1])
 have oi:∀q b',InnU c sz n off k ((h,kk)::hs) q b'->Owns w ρ j (.vecU sz n f k e off s' e' ((h,kk)::hs)) b':=fun q b' h=>.inr ⟨b,n,cap,c,e,q,q1,q2,h⟩
 have hlt2:∀q,q≠h->q<n->(q<k2↔q<k):=by rcases hkk with⟨_,rfl⟩|⟨rfl,rfl⟩<;>intro q hq hqn<;>omega
 have hk2:k2≤n:=by rcases hkk with⟨_,rfl⟩|⟨rfl,rfl⟩<;>omega
 have hhk:h<k2:=by rcases hkk with⟨_,rfl⟩|⟨rfl,rfl⟩<;>omega
 have hinn:∀q b',InnU c sz n off k2 hs q b'->(q≠h/\InnU c sz n off k ((h,kk)::hs) q b')\/(q=h/\(ρ.vec kk).map (·.1)=some b'):=by
  intro q b' ⟨r1,r2,r3,n2,cap2,r4⟩
  by_cases hq:q=h
  ·subst hq
   refine .inr ⟨rfl,?_⟩
   rw[hcell]at r4
   cases hz:ρ.vec kk with
   |none=>rw[hz]at r4;simp[ez4]at r4
   |some z=>obtain⟨z1,z2,z3⟩:=z;rw[hz]at r4;simp[ez4]at r4;simp[r4.1]
  ·exact .inl ⟨hq,r1,(hlt2 q hq r1).1 r2,by rw[wzw,r3];simp[Ne.symm hq],n2,cap2,r4⟩
 have hgetM:∀i r,Mem.get ((j,Res.vecU sz n (czx f h off (.lst s' n' g)) k2 e off s' e' hs)::(kk,.gone)::M) i=some r->
  (i=j/\r=.vecU sz n (czx f h off (.lst s' n' g)) k2 e off s' e' hs)\/(i=kk/\r=.gone)\/(i≠j/\i≠kk/\M.get i=some r):=by
  intro i r hi
  simp only[Mem.get]at hi
  split at hi
  ·rename_i e1;cases hi;exact .inl ⟨e1.symm,rfl⟩
  ·rename_i e1
   split at hi
   ·rename_i e2;cases hi;exact .inr (.inl ⟨e2.symm,rfl⟩)
   ·rename_i e2;exact .inr (.inr ⟨fun h=>e1 h.symm,fun h=>e2 h.symm,hi⟩)
 have hown:∀i r b',Mem.get ((j,Res.vecU sz n (czx f h off (.lst s' n' g)) k2 e off s' e' hs)::(kk,.gone)::M) i=some r->Owns w ρ i r b'->
  (i=j/\(Owns w ρ j (.vecU sz n f k e off s' e' ((h,kk)::hs)) b'\/Owns w ρ kk (.vec s' n' g 0 e') b'))\/(i≠j/\i≠kk/\M.get i=some r/\Owns w ρ i r b'):=by
  intro i r b' hi hb'
  rcases hgetM i r hi with⟨rfl,rfl⟩|⟨rfl,rfl⟩|⟨h1,h2,h3⟩
  ·refine .inl ⟨rfl,?_⟩
   rcases hb' with hb'|⟨b0,n0,cap0,c0,e0,q,r1,r2,r3⟩
   ·exact .inl (.inl hb')
   ·rw[q1]at r1;cases r1
    rw[q2]at r2;cases r2
    rcases hinn q b' r3 with⟨_,h1⟩|⟨_,h1⟩
    ·exact .inl (oi q b' h1)
    ·exact .inr (hkb b' h1)
  ·simp[Owns,hzm,bzc]at hb'
  ·exact .inr ⟨h1,h2,h3,hb'⟩
 refine⟨fun i r hi=>?_,fun i r b' hi hb'=>?_,fun i i' r r' b' hi hi' hb1 hb2=>?_⟩
 ·rcases hgetM i r hi with⟨rfl,rfl⟩|⟨rfl,rfl⟩|⟨h1,h2,h3⟩
  ·refine⟨hoff,hk2,.inr ⟨b,cap,c,q1,q2,q3,q4,q5,q6,⟨fun q hq=>?_,fun q jj p hq hjj hp=>?_,fun q p hq ho hp=>?_,fun z hz=>q7.hole z (List.mem_cons_of_mem _ hz),(List.nodup_cons.1 q7.nodup).2,fun q q' b' r1 r2=>?_⟩,fun q r1=>?_⟩⟩
   ·by_cases e1:q=h
    ·subst e1
     rw[hcells]
     have:=dz4 (f q).cells [PVal.lst s' n' g] off (by simp;omega)
     simp only[List.length_singleton]at this
     rw[this];exact hfl
    ·rw[hother q e1];exact q7.len q hq
   ·by_cases e1:q=h
    ·subst e1
     rw[hcells]at hp
     have hog:=ezc (f q).cells [PVal.lst s' n' g] off jj (by simp;omega)
     simp only[List.length_singleton]at hog
     rw[hog,if_neg (by omega)]at hp
     exact q7.cell q jj p hq hjj hp
    ·rw[hother q e1]at hp;exact q7.cell q jj p hq hjj hp
   ·by_cases e1:q=h
    ·subst e1
     rw[hcells]at hp
     have hog:=ezc (f q).cells [PVal.lst s' n' g] off off (by simp;omega)
     simp only[List.length_singleton]at hog
     rw[hog,if_pos (by omega)]at hp
     simp only[Nat.sub_self,List.getElem?_cons_zero,Option.some.injEq]at hp
     subst hp
     exact⟨_,hcell,rz7 _,fun _=>⟨_,n',g,rfl,rfl,hkok⟩,fun h=>by omega⟩
    ·rw[hother q e1]at hp
     obtain⟨v,v1,v2,v3,v4⟩:=q7.own q p hq (by rw[wzw,ho];simp[Ne.symm e1]) hp
     exact⟨v,v1,v2,fun hk=>v3 ((hlt2 q e1 hq).1 hk),fun hk=>v4 (Nat.le_of_not_lt fun h=>by have:=(hlt2 q e1 hq).2 h;omega)⟩
   ·rcases hinn q b' r1 with⟨e1,h1⟩|⟨e1,h1⟩<;>rcases hinn q' b' r2 with⟨e2,h2⟩|⟨e2,h2⟩
    ·exact q7.inj q q' b' h1 h2
    ·exact(hjk (hm.disj _ _ _ _ b' hj hk (oi q b' h1) (hkb b' h2))).elim
    ·exact(hjk (hm.disj _ _ _ _ b' hj hk (oi q' b' h2) (hkb b' h1))).elim
    ·rw[e1,e2]
   ·rcases hinn q b r1 with⟨_,h1⟩|⟨_,h1⟩
    ·exact q8 q h1
    ·exact hjk (hm.disj _ _ _ _ b hj hk ob (hkb b h1))
  ·trivial
  ·exact hm.ok i r h3
 ·rcases hown i r b' hi hb' with⟨_,h1|h1⟩|⟨_,_,h3,h4⟩
  ·exact hm.mine j _ _ hj h1
  ·exact hm.mine kk _ _ hk h1
  ·exact hm.mine i r b' h3 h4
 ·rcases hown i r b' hi hb1 with⟨e1,h1⟩|⟨a1,a2,h3,h4⟩<;>rcases hown i' r' b' hi' hb2 with⟨e2,h1'⟩|⟨a1',a2',h3',h4'⟩
  ·rw[e1,e2]
  ·rcases h1 with h1|h1
   ·exact(a1' (hm.disj j i' _ r' b' hj h3' h1 h4').symm).elim
   ·exact(a2' (hm.disj kk i' _ r' b' hk h3' h1 h4').symm).elim
  ·rcases h1' with h1|h1
   ·exact(a1 (hm.disj j i _ r b' hj h3 h1 h4).symm).elim
   ·exact(a2 (hm.disj kk i _ r b' hk h3 h1 h4).symm).elim
  ·exact hm.disj i i' r r' b' h3 h3' h4 h4'
variable {P:Program} {o:Oper} {env:Operand->AVal} {m:Mem} {id:Nat}
theorem Bzl {f:Nat->PVal}{h off sz:Nat}(hl:(f h).cells.length=sz)(ho:off<sz):((f h).cells.take off++[PVal.unk]++(f h).cells.drop (off+1)).length=(f h).cells.length:=by
 have:=dz4 (f h).cells [PVal.unk] off (by simp;omega)
 simpa using this
theorem Bzk {f:Nat->PVal}{h off sz:Nat}(hl:(f h).cells.length=sz)(ho:off<sz):(czx f h off .unk h).cells=(f h).cells.take off++[PVal.unk]++(f h).cells.drop (off+1):=by
 simp only[czx,if_true]
 refine jze (Bzl hl ho).symm (fun hsc=>?_)
 have h1:=PVal.cells_scalar hsc
 rw[h1]at hl⊢
 obtain rfl:off=0:=by simp at hl;omega
 simp[PVal.scalar]
theorem Pz8 {α:Type}{A B:List α}{u v:α}{off:Nat}(h:A.length=off):(A++[u]++B).take off++[v]++(A++[u]++B).drop (off+1)=A++[v]++B:=by
 subst h
 simp[List.take_append,List.drop_append]
theorem Hzc (x:PVal){cs ds:List PVal}(h1:x.cells.length=cs.length)(h2:cs.length=ds.length)(h3:∀l,(∀l,x≠ .agg l)->cs=[PVal.agg l]->False):nza (nza x cs) ds=nza x ds:=by
 cases x with
 |agg l=>rfl
 |_=>
  simp only[PVal.cells,List.length_cons,List.length_nil]at h1
  match cs,ds,h1,h2 with
  |[q],[r],_,_=>cases q<;>first|rfl|exact(h3 _ (by simp) rfl).elim
theorem Lz9 {f:Nat->PVal}{h off sz:Nat}(hl:(f h).cells.length=sz)(ho:off<sz):czx (czx f h off .unk) h off .unk=czx f h off .unk:=by
 funext j
 by_cases e:j=h
 ·subst e
  have hc:=Bzk hl ho
  have hlen:=Bzl hl ho
  have hto:((f j).cells.take off).length=off:=by simp;omega
  show(if j=j then nza (czx f j off .unk j) ((czx f j off .unk j).cells.take off++[PVal.unk]++(czx f j off .unk j).cells.drop (off+1))else _)=_
  rw[if_pos rfl,hc,Pz8 hto]
  simp only[czx,if_true]
  refine Hzc _ hlen.symm rfl (fun l hx hcs=>?_)
  have h1:(f j).cells=[f j]:=by
   cases hfj:f j with
   |agg l'=>exact(hx l' hfj).elim
   |_=>rfl
  rw[h1]at hl hcs
  obtain rfl:off=0:=by simp at hl;omega
  simp at hcs
 ·simp only[czx,if_neg e]
theorem MemOk.unX {F:Cells}{w:World}{ρ:Env}{Mine:Nat->Prop}{M:Mem}{j sz n hh off k:Nat}{f:Nat->PVal}{e:TypeId}(hm:MemOk F w ρ Mine M)(hj:M.get j=some (.vecX sz n f e hh off k)):
 MemOk F w ρ Mine ((j,.vec sz n (czx f hh off .unk) 0 e)::M):=by
 have hget:∀i r,Mem.get ((j,Res.vec sz n (czx f hh off .unk) 0 e)::M) i=some r->(i=j/\r=.vec sz n (czx f hh off .unk) 0 e)\/M.get i=some r:=by
  intro i r h
  rw[Mem.get]at h
  split at h
  ·rename_i e1;cases h;exact .inl ⟨e1.symm,rfl⟩
  ·exact .inr h
 have hown:∀i r,Mem.get ((j,Res.vec sz n (czx f hh off .unk) 0 e)::M) i=some r->∃r',M.get i=some r'/\∀b,Owns w ρ i r b->Owns w ρ i r' b:=by
  intro i r h
  rcases hget i r h with⟨rfl,rfl⟩|h
  ·exact⟨_,hj,fun b hb=>hb⟩
  ·exact⟨r,h,fun b hb=>hb⟩
 refine⟨fun i r h=>?_,fun i r b h hb=>?_,fun i i' r r' b h h' hb hb'=>?_⟩
 ·rcases hget i r h with⟨rfl,rfl⟩|h
  ·exact(hm.ok _ _ hj).1
  ·exact hm.ok _ _ h
 ·obtain⟨r',q1,q2⟩:=hown i r h;exact hm.mine _ _ _ q1 (q2 b hb)
 ·obtain⟨r1,q1,q2⟩:=hown i r h
  obtain⟨r2,q3,q4⟩:=hown i' r' h'
  exact hm.disj _ _ _ _ b q1 q3 (q2 b hb) (q4 b hb')
theorem MemOk.sameX {F:Cells}{w:World}{ρ:Env}{Mine:Nat->Prop}{M:Mem}{j sz n hh off k:Nat}{f:Nat->PVal}{e:TypeId}{r0:Res}
 (hm:MemOk F w ρ Mine ([(j,.vecX sz n (czx f hh off .unk) e hh off k)]++((j,r0)::M))) (hl:(f hh).cells.length=sz) (ho:off<sz):
 MemOk F w ρ Mine ([(j,.vecX sz n f e hh off k)]++M):=by
 have hj:Mem.get ([(j,Res.vecX sz n (czx f hh off .unk) e hh off k)]++((j,r0)::M)) j=some (.vecX sz n (czx f hh off .unk) e hh off k):=by simp[Mem.get]
 have hget:∀i r,Mem.get ([(j,Res.vecX sz n f e hh off k)]++M) i=some r->(i=j/\r=.vecX sz n f e hh off k)\/Mem.get ([(j,Res.vecX sz n (czx f hh off .unk) e hh off k)]++((j,r0)::M)) i=some r:=by
  intro i r h
  simp only[List.cons_append,List.nil_append,Mem.get]at h⊢
  split at h
  ·rename_i e1;cases h;exact .inl ⟨e1.symm,rfl⟩
  ·rename_i e1;rw[if_neg e1,if_neg e1];exact .inr h
 have hown:∀i r,Mem.get ([(j,Res.vecX sz n f e hh off k)]++M) i=some r->∃r',Mem.get ([(j,Res.vecX sz n (czx f hh off .unk) e hh off k)]++((j,r0)::M)) i=some r'/\∀b,Owns w ρ i r b->Owns w ρ i r' b:=by
  intro i r h
  rcases hget i r h with⟨rfl,rfl⟩|h
  ·exact⟨_,hj,fun b hb=>hb⟩
  ·exact⟨r,h,fun b hb=>hb⟩
 refine⟨fun i r h=>?_,fun i r b h hb=>?_,fun i i' r r' b h h' hb hb'=>?_⟩
 ·rcases hget i r h with⟨rfl,rfl⟩|h
  ·obtain⟨h0,b,cap,c,q1,q2,q3,q4,_,q5⟩:=hm.ok _ _ hj
   rw[Lz9 hl ho]at h0
   exact⟨h0,b,cap,c,q1,q2,q3,q4,hl,q5⟩
  ·exact hm.ok _ _ h
 ·obtain⟨r',q1,q2⟩:=hown i r h;exact hm.mine _ _ _ q1 (q2 b hb)
 ·obtain⟨r1,q1,q2⟩:=hown i r h
  obtain⟨r2,q3,q4⟩:=hown i' r' h'
  exact hm.disj _ _ _ _ b q1 q3 (q2 b hb) (q4 b hb')
theorem Pzp {t:TypeId}{x y:Operand}{out:Out}(ho:o.op=.store t x y)(h:Bz9 P t (env x) (env y) m=some out)(hob:holds out.obl):Sound1 P o env m id out:=by
 unfold Bz9 at h
 split at h
 ·rename_i j sz hh off k hx hy
  split at h
  ·rename_i sz' n f e h' off' k0 sz2 n2 f2 sh2 e2 hj hk
   split at h
   ·rename_i hc
    simp only[Bool.and_eq_true,decide_eq_true_eq,bne_iff_ne,ne_eq]at hc
    obtain⟨⟨⟨hs,rfl⟩,rfl⟩,hjk⟩:=hc
    cases h
    obtain rfl:hh=h':=hob
    intro F w ρ Mine M a hm g fr hrd hfe ha
    have hM:=(hrd j (by simp)).trans hj
    obtain⟨hv0,b,cap,c,q1,q2,hlt,hoff,hl,q5⟩:=hm.ok j _ hM
    have hlen:(czx f hh off .unk hh).cells.length=sz:=by rw[Bzk hl hoff,Bzl hl hoff,hl]
    have hev:tzt P t (env x) (env y) ((j,.vec sz n (czx f hh off .unk) 0 e)::m)=some ⟨.any,[j,k],[(j,.vecX sz n (czx f hh off .unk) e hh off k)],some (hh<n)⟩:=by
     unfold tzt
     rw[hx,hy]
     have h1:Mem.get ((j,Res.vec sz n (czx f hh off .unk) 0 e)::m) j=some (.vec sz n (czx f hh off .unk) 0 e):=by simp[Mem.get]
     have h2:Mem.get ((j,Res.vec sz n (czx f hh off .unk) 0 e)::m) k=some (.vec sz2 n2 f2 sh2 e2):=by simp[Mem.get,hjk,hk]
     simp only[h1,h2]
     rw[if_pos (by simp[hs,hjk,hlen];omega)]
    have fr':Fresh id ((j,Res.vec sz n (czx f hh off .unk) 0 e)::M):=by
     refine⟨fun i hi=>?_,fun i i' r hi h=>?_⟩
     ·have hne:j≠i:=fun e1=>by have:=fr.none i hi;rw[←e1,hM]at this;cases this
      simp only[Mem.get,if_neg hne];exact fr.none i hi
     ·rw[Mem.get]at h
      split at h
      ·cases h;rfl
      ·exact fr.has i i' r hi h
    obtain⟨v,w',F',ρ',k1,k2,k3,k4,k5⟩:=Mzs (id:=id) ho hev hlt F w ρ Mine _ a (MemOk.unX hm hM) g fr' (fun i hi=>by
     by_cases e1:j=i
     ·subst e1;simp[Mem.get]
     ·simp only[Mem.get,if_neg e1];exact hrd i hi) hfe ha
    exact⟨v,w',F',ρ',k1,k2,k3,k4,MemOk.sameX k5 hl hoff⟩
   ·cases h
  ·cases h
 ·cases h
theorem Czk {t e:TypeId}{s:Nat}{x:Operand}{parts:Array (Nat×Operand)}{zl:List Value}{a:Act}{w:World}(ho:o.op=.buildSlice t 1 parts)(hp:parts.toList=[(0,x)])(hu:P.underlying t=some (.slice e))(hs:bzi P e=some s)(hs1:1≤s)(hs2:s≤16777216)(hzl:gzt P e=some zl)(hc:(a.eval x).cells.size=s):
 ∃A:Array Value,(execOp a.eval o).run P w=.ok (.value (.slice (some ⟨w.heap.size,0,none⟩) 1 1)) (w.alloc (.cells A e))/\∀j,j<s->A[j]?=(a.eval x).cells[j]?:=by
 obtain⟨zv,hzv,_⟩:=rz6 (P:=P) (w:=w) hzl
 obtain⟨A,f1,f2,f3,f4⟩:=rz3 s [a.eval x] 0 ((Array.range (1 * s)).map (zv.cells[· % zv.cells.size]!)) (by simpa using hc) (by simp)
 refine⟨A,?_,fun j hj=>by simpa using f4 0 (a.eval x) (by simp) j hj⟩
 have f1':Instr.fill (fun i=>some (i * s,s)) ((Array.range (1 * s)).map (zv.cells[· % zv.cells.size]!)) [(0,a.eval x)]=some A:=by simpa using f1
 simp only[execOp,ho,Instr.buildSlice,Sem.run_bind,run_underlying hu,Result.andThen_ok,cz2 hs]
 rw[if_neg (by omega),if_neg (by omega)]
 have hm:(Array.map (fun (y:Nat×Operand)=>(y.1,a.eval y.2)) parts).toList=[(0,a.eval x)]:=by simp[hp]
 simp only[Sem.run_bind,hzv,Sem.run_pure,Result.andThen_ok]
 simp only[hm,f1',newRow,Sem.run_bind,run_newObj,Result.andThen_ok,Sem.run_pure]
 rfl
theorem Hzr {t:TypeId}{len:Nat}{parts:Array (Nat×Operand)}{out:Out}(ho:o.op=.buildSlice t len parts)(h:nzt P t len id env m parts.toList=some out):Sound1 P o env m id out:=by
 unfold nzt at h
 split at h
 ·rename_i e x hu hp
  split at h
  ·rename_i s cs hs hx
   split at h
   ·rename_i off hoff
    split at h
    ·rename_i k ps hk hps
     split at h
     ·rename_i hkm
      split at h
      ·rename_i hc
       simp only[Bool.and_eq_true,decide_eq_true_eq]at hc
       obtain⟨⟨⟨⟨⟨rfl,hl⟩,hall⟩,hs1⟩,hs2⟩,hzz⟩:=hc
       obtain⟨zl,hzl⟩:=Option.isSome_iff_exists.1 hzz
       cases h
       classical
       obtain⟨env',he'⟩:∃env':Operand->AVal,env'=fun z=>if z=x then .pure (.agg ps)else env z:=⟨_,rfl⟩
       have hex:env' x=.pure (.agg ps):=by rw[he'];simp
       have hev:jzc P t 1 id env' m parts.toList=some ⟨.vec id,[],[(id,.vec s 1 (lget [.agg ps]) 0 e)],none⟩:=by
        unfold jzc
        simp only[hp,hu,hs,szx,if_true,hex,nze,kzb,Ezu,AVal.toP]
        rw[if_pos (by simp[PVal.cells,hl,hs1,hs2,hzz];simpa using hall)]
        rfl
       obtain⟨hal,hag⟩:=gzu hps
       have hlen:cs.length=s:=by rw[←hl,←hal];simp
       have hofl:off<cs.length:=(List.getElem?_eq_some_iff.1 hk).1
       intro F w ρ Mine M a hm g fr hrd hfe ha
       have hax:=hx▸ha x (by simp[ho,Op.operands];exact⟨0,by rw[←Array.mem_toList_iff,hp];simp⟩)
       have hM:=(hrd k (by simp)).trans hkm
       have hkn:ρ.vec k=none:=hm.ok k _ hM
       generalize hu':a.eval x=u at hax
       cases hax with
       |agg hvl hva=>
        rename_i vs
        have hvk:vs[off]?=some (.slice none 0 0):=by
         have h1:vs[off]?=some (vs[off]'(by omega)):=by simp
         have h2:=Dz1 (hva off _ _ hk h1)
         rw[hkn]at h2
         rw[h1,h2];rfl
        have hrel:PRel F w (.agg ps) (.agg vs):=by
         refine .agg (by rw[hl,←hvl,hlen]) (fun j p v hp hv=>?_)
         obtain⟨b,hb,hbp⟩:=hag j p hp
         by_cases e1:off=j
         ·subst e1
          rw[List.getElem?_set_self hofl]at hb
          cases hb
          simp[AVal.toP]at hbp
          subst hbp
          rw[hvk]at hv
          cases hv
          exact .unk rfl
         ·rw[List.getElem?_set_ne e1]at hb
          exact(hva j b v hb hv).toP hbp
        obtain⟨A,hrun,hA⟩:=Czk (P:=P) (a:=a) (w:=w) ho hp hu hs hs1 hs2 hzl (by rw[hu'];simp[Value.cells];omega)
        obtain⟨v,w',F',ρ',k1,k2,k3,k4,k5⟩:=yz3 (P:=P) (id:=id) (env:=env') ho hev F w ρ Mine M a hm g fr (fun i hi=>by simp at hi) (fun z hz i hi=>by
         rw[he']
         by_cases e1:z=x
         ·simp[e1,AVal.has]
         ·simp only[if_neg e1];exact hfe z hz i hi) (fun z hz=>by
         rw[he']
         by_cases e1:z=x
         ·subst e1;simp only[if_true];rw[hu'];exact .pure hrel
         ·simp only[if_neg e1];exact ha z hz)
        have hvw:v=.slice (some ⟨w.heap.size,0,none⟩) 1 1/\w'=w.alloc (.cells A e):=by
         rcases k1 with k1|⟨k1,_⟩
         ·rw[hrun]at k1;cases k1;exact⟨rfl,rfl⟩
         ·rw[hrun]at k1;cases k1
        obtain⟨rfl,rfl⟩:=hvw
        have hvid:ρ'.vec id=some (w.heap.size,1,1):=by
         cases k4 with
         |vec hh=>exact hh
        have hvk':ρ'.vec k=none:=by
         rw[(k3 k (fun ho=>by have:=fr.none k ho;rw[hM]at this;cases this)).2];exact hkn
        have hpo:ps[off]?=some .unk:=by
         have h1:ps[off]?=some (ps[off]'(by omega)):=by simp
         obtain⟨b,hb,hbp⟩:=hag off _ h1
         rw[List.getElem?_set_self hofl]at hb
         cases hb
         simp[AVal.toP]at hbp
         rw[h1,←hbp]
        have hsp:ps.take off++[PVal.unk]++ps.drop (off+1)=ps:=by
         apply List.ext_getElem?
         intro j
         have h1:=ezc ps [PVal.unk] off j (by simp;omega)
         simp only[List.length_singleton]at h1
         rw[h1]
         by_cases e1:off=j
         ·subst e1;rw[if_pos (by omega)];simp[hpo]
         ·rw[if_neg (by omega)]
        have hf:czx (lget [PVal.agg ps]) 0 off .unk=lget [PVal.agg ps]:=by
         funext j
         cases j with
         |zero=>
          show nza (.agg ps) (ps.take off++[PVal.unk]++ps.drop (off+1))=.agg ps
          rw[hsp];rfl
         |succ j=>rfl
        refine⟨_,_,F',ρ',k1,k2,k3,k4,MemOk.setX (by rw[hf];exact k5) ⟨w.heap.size,1,A,hvid,heap_alloc_new w _,by omega,by omega,hl,?_⟩⟩
        rw[hvk',Nat.zero_mul,Nat.zero_add,hA off (by omega),hu']
        exact hvk
      ·cases h
     ·cases h
    ·cases h
   ·cases h
  ·cases h
 ·cases h
theorem tzg {F:Cells}{w:World}{ρ:Env}:∀ (l:List Value) (k id:Nat),(∀i,id≤i->i<id+l.length->ρ.vec i=none)->
 (mzx k id l).length=l.length/\∀ (j:Nat) (a:AVal) (v:Value),(mzx k id l)[j]?=some a->l[j]?=some v->ARel F w ρ a v
 |[],k,id,_=>by simp[mzx]
 |x::l,k,id,h=>by
  have ih:=tzg (F:=F) (w:=w) (ρ:=ρ) l (k / 2) (id+1) (fun i h1 h2=>h i (by omega) (by simp;omega))
  have key:∀ (hd:AVal),ARel F w ρ hd x->(hd::mzx (k / 2) (id+1) l).length=(x::l).length/\∀ (j:Nat) (a:AVal) (v:Value),(hd::mzx (k / 2) (id+1) l)[j]?=some a->(x::l)[j]?=some v->ARel F w ρ a v:=by
   intro hd hhd
   refine⟨by simp[ih.1],fun j a v ha hv=>?_⟩
   cases j with
   |zero=>simp at ha hv;subst ha;subst hv;exact hhd
   |succ j=>exact ih.2 j a v (by simpa using ha) (by simpa using hv)
  unfold mzx
  split
  ·rename_i e;cases e
  ·rename_i e
   cases e
   refine key _ ?_
   split
   ·exact .pure .nil
   ·exact .vnil (h id (Nat.le_refl _) (by simp))
  ·rename_i e;cases e;exact key _ (eza _)
theorem Rzs {e:TypeId}{k:Nat}{out:Out}(ho:o.op=.alloc e)(h:Gzc P k e id=some out):Sound1 P o env m id out:=by
 unfold Gzc at h
 split at h
 ·rename_i z hz
  split at h
  ·rename_i h1
   simp only[Bool.and_eq_true,decide_eq_true_eq]at h1
   obtain⟨hlen,h1⟩:=h1
   cases h
   intro F w ρ Mine M a hm g fr _ hfe ha
   obtain⟨v,hv,hvz⟩:=rz6 (P:=P) (w:=w) hz
   have hsz:v.cells.size=z.length:=by rw[←hvz];simp
   obtain⟨F',ρ',st,he,hb,hm'⟩:=Jzh hm g fr e v.cells (mzx k (id+1) z) (zmem (id+1) z)
    (fun i r h=>by obtain⟨q1,q2,q3⟩:=Az9 z (id+1) i r h;exact⟨q1,by omega,by omega⟩)
    (by rw[hsz];exact(tzg (F:=F) (w:=w) (ρ:=ρ.clear id) z k (id+1) (fun i h1 h2=>if_pos ⟨by omega,by omega⟩)).1)
    (fun F' w' ρ' hF hw he hvn j y u hy hu=>by
     have:=(tzg (F:=F') (w:=w') (ρ:=ρ') z k (id+1) (fun i h1 h2=>hvn i ⟨by omega,by omega⟩)).2 j y u hy
     have hu':z[j]?=some u:=by rw[←hvz];simpa using hu
     exact⟨this hu',List.all_eq_true.1 h1 u (List.mem_of_getElem? hu')⟩)
   refine⟨.pointer (some ⟨w.heap.size,0,none⟩),w.alloc (.cells v.cells e),F',ρ',.value ?_,st,he,?_,by simpa using hm'⟩
   ·simp[execOp,ho,Instr.alloc,newVar,newRow,hv]
   ·rw[←hb];exact .ptr
  ·cases h
 ·cases h
variable {P:Program} {o:Oper} {env:Operand->AVal} {m:Mem} {id:Nat}
theorem tza {w:World}{len cap:Nat}{h:Int}{k k':IntKind}(h0:0≤h)(h2:h≤cap):
 (Instr.sliceBounds true len cap none (some (.int k h)) (some (.int k' h))).run P w=.ok (0,h.toNat,h.toNat) w:=by
 have h4:h≤(h.toNat:Int):=by omega
 simp only[Instr.sliceBounds,Instr.sliceBound,asIntOf,Sem.run_bind,Sem.run_pure,Result.andThen_ok,h0,h2,h4,and_self,if_true]
theorem Nzl {t:TypeId}{x hi mx:Operand}{e:TypeId}{sz n:Nat}{f:Nat->PVal}{h:Int}{k k':IntKind}(ho:o.op=.slice t x none (some hi) (some mx))(hu:P.underlying t=some (.slice e))(hs:bzi P e=some sz)
 {F:Cells} {w:World} {ρ:Env} {a:Act} (hx:PRel F w (.lst sz n f) (a.eval x)) (hhi:a.eval hi=.int k h) (hmx:a.eval mx=.int k' h) (h0:0≤h) (h2:h≤n):
 ∃v,Ran P o a w v w/\ARel F w ρ (.clip (.lst sz h.toNat f)) v:=by
 rcases hx.lst_inv with⟨hv,hn0⟩|⟨ad,cap,hv,hn0,hcm⟩|⟨b,off,cap,c,hv,hnc,hcm,hsz,hc,hr⟩
 ·subst hn0
  obtain rfl:h=0:=by omega
  have hbb:=tza (P:=P) (w:=w) (len:=0) (cap:=0) (k:=k) (k':=k') (Int.le_refl 0) (Int.le_refl 0)
  refine⟨.slice none 0 0,.value ?_,.clip .nil⟩
  simp only[execOp,ho,Instr.sliceAt,Instr.slice,Sem.run_bind,run_underlying hu,Result.andThen_ok,hv,Option.map_none,Option.map_some,hhi,hmx,hbb,cz2 hs,Sem.run_pure]
  simp
 ·subst hn0
  obtain rfl:h=0:=by omega
  have hbb:=tza (P:=P) (w:=w) (len:=0) (cap:=cap) (k:=k) (k':=k') (Int.le_refl 0) (by omega)
  refine⟨.slice (some ad) 0 0,.value ?_,.clip (.emp (Nat.zero_le _))⟩
  simp only[execOp,ho,Instr.sliceAt,Instr.slice,Sem.run_bind,run_underlying hu,Result.andThen_ok,hv,Option.map_none,Option.map_some,hhi,hmx,hbb,cz2 hs,Sem.run_pure]
  simp
 ·have hbb:=tza (P:=P) (w:=w) (len:=n) (cap:=cap) (k:=k) (k':=k') h0 (by omega)
  refine⟨.slice (some ⟨b,off,none⟩) h.toNat h.toNat,.value ?_,.clip (.sl c (Nat.le_refl _) (by omega) (fun i hi=>hsz i (by omega)) (fun i j p hi hp=>hc i j p (by omega) hp) (fun i j p hi hp=>hr i j p (by omega) hp))⟩
  have had:(if h.toNat=0 then some (⟨b,off,none⟩:Addr)else(some (⟨b,off,none⟩:Addr)).map (·.add (0 * sz)))=some ⟨b,off,none⟩:=by
   split
   ·rfl
   ·rw[Option.map_some,dzg];simp
  simp only[execOp,ho,Instr.sliceAt,Instr.slice,Sem.run_bind,run_underlying hu,Result.andThen_ok,hv,Option.map_none,Option.map_some,hhi,hmx,hbb,cz2 hs,Sem.run_pure,Nat.sub_zero]
  simp only[Option.map_some]at had
  rw[had]
theorem Azm {F:Cells}{w:World}{ρ:Env}{Mine:Nat->Prop}{M:Mem}(hm:MemOk F w ρ Mine M)(g:Good F w Mine)(fr:Fresh id M){t ty e:TypeId}{i:TypeInfo}{z:Value}{sz by_ k n:Nat}{f h:Nat->PVal}
 (ht:P.underlying t=some (.slice e)) (hi:P.info? e=some i) (hz:i.zero=some z) (hsz:i.size=sz) (hby:i.bytes=by_) (hzs:z.cells.size=sz)
 (A:Addr) (olds:List Value) (hlo:olds.length=n * sz) (holds:∀ (j:Nat) (u:Value),olds[j]?=some u->w.cell? (A.add j)=some u)
 (q7:∀i,i<n->(f i).cells.length=sz) (q8:∀ (i j:Nat) (p:PVal),i<n->(f i).cells[j]?=some p->∃u,olds[i * sz+j]?=some u/\u.oneCell'=true/\PRel F w p u)
 (xv:Value) (news:List Value) (hsrc:Mzw F w sz k h xv news) (hb:(n+k) * by_≤140737488355328) (hk:n+k≤maxLen) (hk0:0<k):
 ∃v w' F' ρ',(Builtin.append_ #[t,t] ty #[.slice (some A) n n,xv]).run P w=.ok v w'/\Step Mine F w F' w'/\czm id ρ ρ'/\ARel F' w' ρ' (.vec id) v/\
  MemOk F' w' ρ' Mine ([(id,.vec sz (n+k) (appF n f h) 0 e)]++M):=by
 obtain⟨hl,hx,hone,hg,hel⟩:=hsrc
 rcases hx with⟨rfl,h0⟩|⟨ad,cx,rfl,hcells⟩
 ·omega
 ·have hmax:n+k≤9223372036854775807:=by simpa[maxLen]using hk
  have hr:=run_append_grow (P:=P) w t ty e i z ht hi hz A n n olds (by rw[hsz];exact hlo) holds ad k cx news (by rw[hsz];exact hl) hcells (by omega) (by omega) (growslice_fits (by omega) (by rw[hby];exact hb))
  have hge:=grownCap_ge w (n+k) n e
  have hcm:=grownCap_le_maxLen w (n+k) n e hk
  have st:Step Mine F w F (w.drew.alloc (.cells (olds.toArray++news.toArray++Builtin.zeroCells z.cells (grownCap w (n+k) n e- (n+k))) e)):=by
   have s1:=Step.draw g
   have s2:=Step.alloc (s1.good g) (.cells (olds.toArray++news.toArray++Builtin.zeroCells z.cells (grownCap w (n+k) n e- (n+k))) e) (fun _=>False)
   have s3:=s1.trans s2
   exact⟨fun _ _ h=>h,s3.cell,fun _ _ h=>.inl h,fun b o h=>by have:=g.lt b o h;simp;omega,s3.keep⟩
  have hres:=wzu (id:=id) (ρ:=ρ) g (n:=n) (k:=k) (f:=f) (h:=h) (olds:=olds) (news:=news) (z:=z) (e:=e) (cap:=grownCap w (n+k) n e) 0 (Nat.zero_le _) hzs hlo hl hge hcm q7 hg q8
   (fun i j p hi hp=>by obtain⟨u,u1,u2⟩:=hel i j p hi hp;exact⟨u,u1,hone u (List.mem_of_getElem? u1),u2⟩)
  have hv:(ρ.setVec id (some (w.heap.size,n+k,grownCap w (n+k) n e))).vec id=some (w.heap.size,n+k,grownCap w (n+k) n e):=if_pos rfl
  have hmem:=hm.newVec fr st (some (w.heap.size,n+k,grownCap w (n+k) n e)) [] sz (n+k) 0 (appF n f h) e hres (fun b' hb'=>by
   simp at hb';subst hb'
   exact⟨g.mine _ (Nat.le_refl _),by simp,fun q r' hq _ hbq=>absurd (hm.mine q r' _ hq hbq).2 (by omega)⟩) (fun j r b' hj _ hbj=>⟨heap_alloc_old w.drew _ (hm.mine j r b' hj hbj).2,fun _ h=>h⟩)
  exact⟨_,_,F,ρ.setVec id (some (w.heap.size,n+k,grownCap w (n+k) n e)),hr,st,cz4 ρ id _,.vec hv,by simpa using hmem⟩
theorem Kzm {F:Cells}{w:World}{ρ:Env}{Mine:Nat->Prop}{M:Mem}(hm:MemOk F w ρ Mine M)(g:Good F w Mine)(fr:Fresh id M){t ty e:TypeId}{i:TypeInfo}{z:Value}{sz by_ k n:Nat}{f h:Nat->PVal}
 (ht:P.underlying t=some (.slice e)) (hi:P.info? e=some i) (hz:i.zero=some z) (hsz:i.size=sz) (hby:i.bytes=by_) (hzs:z.cells.size=sz) (hs0:0<sz)
 {sv:Value} (hsv:ARel F w ρ (.clip (.lst sz n f)) sv)
 (xv:Value) (news:List Value) (hsrc:Mzw F w sz k h xv news) (hb:(n+k) * by_≤140737488355328) (hk:n+k≤maxLen) (hk0:0<k):
 ∃v w' F' ρ',(Builtin.append_ #[t,t] ty #[sv,xv]).run P w=.ok v w'/\Step Mine F w F' w'/\czm id ρ ρ'/\ARel F' w' ρ' (.vec id) v/\
  MemOk F' w' ρ' Mine ([(id,.vec sz (n+k) (appF n f h) 0 e)]++M):=by
 cases hsv with
 |@clip _ a n' hp=>
  rcases hp.lst_inv with⟨hv,hn0⟩|⟨ad,cap,hv,hn0,hcm⟩|⟨b,off,cap,c,hv,hnc,hcm,hsz',hc,hr⟩
  ·subst hn0
   rw[hv]
   have happ:appF 0 f h=h:=by funext i;simp[appF]
   simp only[Nat.zero_add,happ]at hb hk⊢
   simpa using append_nil (P:=P) (ty:=ty) hm g fr ht hi hz hsz hby hzs [] xv news hsrc hb hk
  ·subst hn0
   rw[hv]
   simp only[Value.slice.injEq]at hv
   obtain⟨-,h1,h2⟩:=hv
   obtain rfl:cap=0:=by omega
   exact Azm hm g fr ht hi hz hsz hby hzs ad [] (by simp) (by simp) (fun i hi=>by omega) (fun i j p hi hp=>by omega) xv news hsrc hb hk hk0
  ·rw[hv]
   simp only[Value.slice.injEq]at hv
   obtain⟨-,h1,h2⟩:=hv
   obtain rfl:cap=n:=by omega
   have hget:∀q,((List.range (cap * sz)).map c)[q]?=if q<cap * sz then some (c q)else none:=by
    intro q
    by_cases h:q<cap * sz
    ·simp[h]
    ·simp[h]
   refine Azm hm g fr ht hi hz hsz hby hzs ⟨b,off,none⟩ ((List.range (cap * sz)).map c) (by simp) (fun j u hu=>?_) hsz' (fun i j p hi hp=>?_) xv news hsrc hb hk hk0
   ·rw[hget]at hu
    split at hu
    ·rename_i hlt
     cases hu
     have hi':j / sz<cap:=Nat.div_lt_of_lt_mul (by rw[Nat.mul_comm];exact hlt)
     have hj':j % sz<sz:=Nat.mod_lt _ hs0
     have hp':(f (j / sz)).cells[j % sz]?=some ((f (j / sz)).cells[j % sz]'(by rw[hsz' _ hi'];exact hj')):=by simp[hsz' _ hi',hj']
     have h3:=(hc _ _ _ hi' hp').2.1
     rw[show j / sz * sz+j % sz=j by rw[Nat.mul_comm];exact Nat.div_add_mod j sz]at h3
     rw[dzg];exact h3
    ·cases hu
   ·have hj:j<sz:=by have:=(List.getElem?_eq_some_iff.1 hp).1;rw[hsz' i hi]at this;exact this
    exact⟨_,by rw[hget,if_pos (jzu hi hj)],(hc i j p hi hp).2.2,hr i j p hi hp⟩
theorem Sz0 {t:TypeId}{x:Operand}{lo hi mx:Option Operand}{out:Out}(ho:o.op=.slice t x lo hi mx)
 (h:Gzi P t (env x) (lo.map env) (hi.map env) (mx.map env)=some out) (hob:holds out.obl):Sound1 P o env m id out:=by
 unfold Gzi at h
 split at h
 ·rename_i sz n f k1 hh k2 h' hx hlo hhi hmx
  split at h
  ·rename_i e hu
   split at h
   ·rename_i hs
    cases h
    obtain⟨h0,h1,rfl⟩:=hob
    simp only[Option.map_eq_none_iff]at hlo
    subst hlo
    rw[Option.map_eq_some_iff]at hhi hmx
    obtain⟨y,rfl,hy⟩:=hhi
    obtain⟨y',rfl,hy'⟩:=hmx
    refine Sound1.still fun F w ρ Mine M a hm hrd ha=>?_
    have ax:=ha x (by simp[ho,Op.operands])
    have ay:=ha y (by simp[ho,Op.operands])
    have ay':=ha y' (by simp[ho,Op.operands])
    rw[hx]at ax
    rw[hy]at ay
    rw[hy']at ay'
    exact Nzl ho hu hs ax.pure_inv ay.pure_inv.int_inv ay'.pure_inv.int_inv h0 h1
   ·cases h
  ·cases h
 ·cases h
theorem Pzj {s x:Operand}{ts:Array TypeId}{out:Out}(ho:o.op=.call {callee:=.builtin .append,args:=#[s,x],argTypes:=ts})
 (hts:∀t,ts[0]?=some t->ts[1]?=some t->ts=#[t,t]) (h:Bz4 P ts id (env s) (env x) m=some out) (hob:holds out.obl):Sound1 P o env m id out:=by
 have hop:s∈o.op.operands/\x∈o.op.operands:=by simp[ho,Op.operands,Call.operands]
 unfold Bz4 at h
 split at h
 ·rename_i szc n f t t' hsv ht0 ht1
  split at h
  ·rename_i htt;subst htt
   obtain rfl:=hts t ht0 ht1
   split at h
   ·rename_i e hu
    split at h
    ·rename_i sz by_ z hs hby hz
     split at h
     ·rename_i hc
      simp only[Bool.and_eq_true,decide_eq_true_eq]at hc
      obtain⟨hzl,rfl⟩:=hc
      obtain⟨i,zv,hi,hzv,hzz⟩:=hz3 hz
      obtain⟨i',hi',hsz⟩:=ez2 hs
      rw[hi]at hi';cases hi'
      obtain⟨i',hi',hbb⟩:=jzt hby
      rw[hi]at hi';cases hi'
      have hzs:zv.cells.size=sz+1:=by rw[←hzl,←hzz];simp
      split at h
      ·rename_i k gg is hsrc
       cases h
       obtain⟨hb,hk,hk0⟩:=hob
       intro F w ρ Mine M a hm g fr hrd hfe ha
       obtain⟨news,hsr⟩:=Az8 hm (Nat.succ_pos _) hsrc hrd (ha x hop.2)
       have hsv':=ha _ hop.1
       rw[hsv]at hsv'
       obtain⟨v,w',F',ρ',h1,h2,h3,h4,h5⟩:=Kzm (P:=P) (ty:=o.type) hm g fr hu hi hzv hsz hbb hzs (Nat.succ_pos _) hsv' (a.eval x) news hsr hb hk hk0
       exact⟨v,w',F',ρ',tz9 ho h1,h2,h3,h4,h5⟩
      ·cases h
     ·cases h
    ·cases h
   ·cases h
  ·cases h
 ·cases h
variable {P:Program} {o:Oper} {env:Operand->AVal} {m:Mem} {id:Nat}
theorem Rzz {t:TypeId}{x:Operand}{lo hi mx:Option Operand}{out:Out}(ho:o.op=.slice t x lo hi mx)
 (h:Gzh P t (env x) (lo.map env) (hi.map env) (mx.map env)=some out):Sound1 P o env m id out:=by
 unfold Gzh at h
 split at h
 ·rename_i i hx hlo hhi hmx
  simp only[Option.map_eq_none_iff]at hlo hhi hmx
  subst hlo;subst hhi;subst hmx
  split at h
  ·rename_i n e hu
   split at h
   ·rename_i hs
    cases h
    refine Sound1.still fun F w ρ Mine M a _ _ ha=>?_
    have ax:=ha x (by simp[ho,Op.operands])
    rw[hx]at ax
    generalize hv:a.eval x=v at ax
    cases ax with
    |ptr=>
     refine⟨.slice (some ⟨ρ.blk i,0,none⟩) n n,.value ?_,.bsl⟩
     simp only[execOp,ho,Instr.sliceAt,Instr.sliceBounds,Instr.sureAddr,Sem.run_bind,run_underlying hu,Result.andThen_ok,hv,Option.map_none,cz2 hs,Sem.run_pure,Nat.sub_zero,Nat.zero_mul,dzg,Nat.add_zero,ite_self]
   ·cases h
  ·cases h
 ·cases h
theorem tzo {k:Nat}{f:Nat->PVal}:∀ {cs cs':List AVal} {j0:Nat},pzt k f j0 cs=some cs'->cs'.length=cs.length/\
 ∀j,j<cs.length->∃kd a b,cs[j]?=some (.pure (.int kd b))/\f (j0+j)=.int kd a/\cs'[j]?=some (.pure (.int kd (if j0+j<k then a else b)))
 |[],cs',j0,h=>by
  simp only[pzt]at h;cases h
  exact⟨rfl,fun j hj=>by simp at hj⟩
 |c::l,cs',j0,h=>by
  unfold pzt at h
  split at h
  ·rename_i h1;cases h1
  ·rename_i kd b l' h1
   cases h1
   split at h
   ·rename_i kd' a r hf hr
    split at h
    ·rename_i hk;subst hk
     cases h
     obtain⟨i1,i2⟩:=tzo hr
     refine⟨by simp[i1],fun j hj=>?_⟩
     cases j with
     |zero=>exact⟨kd',a,b,rfl,hf,rfl⟩
     |succ j=>
      obtain⟨kd2,a2,b2,q1,q2,q3⟩:=i2 j (by simpa using hj)
      exact⟨kd2,a2,b2,by simpa using q1,by rw[show ∀q:Nat,q+(j+1)=q+1+j from fun q=>by omega];exact q2,by rw[show ∀q:Nat,q+(j+1)=q+1+j from fun q=>by omega];simpa using q3⟩
    ·cases h
   ·cases h
  ·cases h
theorem Uz4 {d s:Operand}{ts:Array TypeId}{out:Out}(ho:o.op=.call {callee:=.builtin .copy,args:=#[d,s],argTypes:=ts})(hts:ts.size=2)
 (h:Kzw P ts (env d) (env s) m=some out):Sound1 P o env m id out:=by
 have hop:d∈o.op.operands/\s∈o.op.operands:=by simp[ho,Op.operands,Call.operands]
 unfold Kzw at h
 split at h
 ·rename_i i n k f t hd hs ht
  split at h
  ·rename_i cs e hi hu
   split at h
   ·rename_i cs' hcc
    split at h
    ·rename_i hc
     simp only[Bool.and_eq_true,decide_eq_true_eq]at hc
     obtain⟨hn,hsz⟩:=hc
     cases h
     obtain⟨c1,c2⟩:=tzo hcc
     rw[List.length_take,Nat.min_eq_left hn]at c1 c2
     have c2:∀j,j<n->∃kd a b,cs[j]?=some (.pure (.int kd b))/\f (0+j)=.int kd a/\cs'[j]?=some (.pure (.int kd (if 0+j<k then a else b))):=fun j hj=>by
      obtain⟨kd,a,b,q1,q2,q3⟩:=c2 j hj
      exact⟨kd,a,b,by rw[List.getElem?_take_of_lt hj]at q1;exact q1,q2,q3⟩
     obtain⟨t2,rfl⟩:∃t2,ts=#[t,t2]:=by
      refine⟨ts[1]'(by omega),Array.ext (by simpa using hts) fun q hq _=>?_⟩
      have hq2:q<2:=by omega
      match q,hq2 with
      |0,_=>simpa[Array.getElem?_eq_getElem (show 0<ts.size by omega)]using ht
      |1,_=>simp
     intro F w ρ Mine M a hm g fr hrd hfe ha
     have hM:=(hrd i (by simp)).trans hi
     obtain⟨c,e',hb,hl,hnF,hrel⟩:=Azo hm hM
     have hmine:=hm.mine i _ _ hM (.inl rfl)
     have ad:=ha d hop.1
     have as:=ha s hop.2
     rw[hd]at ad
     rw[hs]at as
     have as:=as.pure_inv
     obtain⟨inf,hinf,hisz⟩:=ez2 hsz
     have hs1:(P.info? e).map (·.size)=some 1:=by rw[hinf];simp[hisz]
     obtain⟨vs,hvl,hv1,hvr,hrun⟩:∃vs:List Value,vs.length=Nat.min k n/\(∀v∈vs,v.oneCell'=true)/\(∀j kd x,j<Nat.min k n->f j=.int kd x->vs[j]?=some (.int kd x))/\
      (Builtin.copy_ #[t,t2] o.type #[a.eval d,a.eval s]).run P w=.ok (goInt vs.length) (w.setRow (ρ.blk i) (c.toList.take 0++vs++c.toList.drop (0+vs.length)).toArray):=by
      generalize hv:a.eval d=v at ad
      cases ad with
      |bsl=>
       rcases as.lst_inv with⟨hv2,hn0⟩|⟨adr,cap,hv2,hn0,hcm⟩|⟨b,off,cap,cc,hv2,hnc,hcm,hsz',hcl,hr⟩
       ·subst hn0
        refine⟨[],by simp[Nat.min_def],by simp,fun j kd x hj=>by simp[Nat.min_def]at hj,?_⟩
        rw[hv2,run_copy_nil P w t t2 o.type e _ n n hu (by rw[hs1];rfl)]
        have:(c.toList.take 0++([]:List Value)++c.toList.drop (0+([]:List Value).length)).toArray=c:=by simp
        rw[this,setRow_self w _ c e' (0,0) hb];rfl
       ·subst hn0
        have hz:Nat.min 0 n=0:=by simp[Nat.min_def]
        refine⟨[],by rw[hz];rfl,by simp,fun j kd x hj=>by rw[hz]at hj;omega,?_⟩
        rw[hv2]
        exact run_copy_row (P:=P) w t t2 o.type e (ρ.blk i) 0 n n adr 0 cap c e' [] hu hs1 hb (by rw[hz];rfl) (fun j v h=>by simp at h) (by simp) (by simp)
       ·have hmin:Nat.min k n≤k:=Nat.min_le_left _ _
        have hmin2:Nat.min k n≤n:=Nat.min_le_right _ _
        have cell:∀j,j<Nat.min k n->∃kd x,f j=.int kd x/\w.cell? ⟨b,off+j,none⟩=some (.int kd x):=by
         intro j hj
         obtain⟨kd,x,b',q1,q2,q3⟩:=c2 j (by omega)
         rw[Nat.zero_add]at q2
         have hp:(f j).cells[0]?=some (f j):=by rw[q2];rfl
         have h1:=(hcl j 0 _ (by omega) hp).2.1
         have h2:=hr j 0 _ (by omega) hp
         rw[q2]at h2
         have h3:=h2.int_inv
         simp only[Nat.mul_one,Nat.add_zero]at h1 h3
         exact⟨kd,x,q2,by rw[h1,h3]⟩
        refine⟨(List.range (Nat.min k n)).map cc,by simp,?_,?_,?_⟩
        ·intro v hv
         obtain⟨j,hj,rfl⟩:=List.mem_map.1 hv
         have hj:=List.mem_range.1 hj
         obtain⟨kd,x,b',q1,q2,q3⟩:=c2 j (by omega)
         rw[Nat.zero_add]at q2
         have hp:(f j).cells[0]?=some (f j):=by rw[q2];rfl
         have:=(hcl j 0 _ (by omega) hp).2.2
         simpa using this
        ·intro j kd x hj hf
         have hp:(f j).cells[0]?=some (f j):=by rw[hf];rfl
         have h2:=hr j 0 _ (by omega) hp
         rw[hf]at h2
         have h3:=h2.int_inv
         simp only[Nat.mul_one,Nat.add_zero]at h3
         simp[hj,h3]
        ·rw[hv2]
         refine run_copy_row (P:=P) w t t2 o.type e (ρ.blk i) 0 n n ⟨b,off,none⟩ k cap c e' _ hu hs1 hb (by simp) (fun j v h=>?_) (by simp;omega) ?_
         ·obtain⟨hj,rfl⟩:j<Nat.min k n/\v=cc j:=by
           rw[List.getElem?_map]at h
           by_cases hj:j<Nat.min k n
           ·simp[hj]at h;exact⟨hj,h.symm⟩
           ·simp[hj]at h
          obtain⟨kd,x,b',q1,q2,q3⟩:=c2 j (by omega)
          rw[Nat.zero_add]at q2
          have hp:(f j).cells[0]?=some (f j):=by rw[q2];rfl
          have h1:=(hcl j 0 _ (by omega) hp).2.1
          simp only[Nat.mul_one,Nat.add_zero]at h1
          rw[dzg];exact h1
         ·intro v hv
          obtain⟨j,hj,rfl⟩:=List.mem_map.1 hv
          have hj:=List.mem_range.1 hj
          obtain⟨kd,x,b',q1,q2,q3⟩:=c2 j (by omega)
          rw[Nat.zero_add]at q2
          have hp:(f j).cells[0]?=some (f j):=by rw[q2];rfl
          have:=(hcl j 0 _ (by omega) hp).2.2
          simpa using this
     have hvn:vs.length≤c.toList.length:=by
      have:Nat.min k n≤n:=Nat.min_le_right k n
      simp;omega
     have hran:Ran P o a w (goInt vs.length) (w.setRow (ρ.blk i) (c.toList.take 0++vs++c.toList.drop (0+vs.length)).toArray):=by
      refine .value ?_
      simp only[execOp,ho,resolve,Sem.run_bind,Sem.run_pure,Result.andThen_ok,invoke,builtin,List.map_toArray,List.map_cons,List.map_nil,hrun]
     have st:Step Mine F w F (w.setRow (ρ.blk i) (c.toList.take 0++vs++c.toList.drop (0+vs.length)).toArray):=
      Step.write g hb hmine.1 (fun o h=>absurd h (hnF o))
     refine⟨_,_,F,ρ,hran,st,fun _ _=>⟨rfl,rfl⟩,by rw[hvl];exact .pure .int,?_⟩
     refine MemOk.step hm st (fun _=>True) (fun _ _=>⟨rfl,rfl⟩) [(i,_)] (fun j r h hn=>⟨trivial,fun k hk=>absurd trivial hk,fun b hbj=>⟨?_,fun _ h=>h⟩⟩) (fun j r h=>?_) (fun j j' r r' b h h' _ _=>?_)
     ·refine setRow_other w _ b _ (fun e=>?_)
      subst e
      have:=hm.disj i j _ r _ hM h (.inl rfl) hbj
      subst this
      simp[Mem.get]at hn
     ·simp only[Mem.get]at h
      split at h
      ·rename_i e1;subst e1;cases h
       refine⟨⟨_,e',setRow_heap w _ c _ e' _ hb,by simp at hvn⊢;omega,hnF,fun j b v hb' hv=>?_⟩,fun b hbb=>⟨?_,?_,fun k r' hk hn hbk=>?_⟩⟩
       ·by_cases hjl:j<n
        rotate_left
        ·have hj2:cs[j]?=some b:=by
          rw[List.getElem?_append_right (by omega),List.getElem?_drop,c1,Nat.add_sub_cancel' (by omega)]at hb'
          exact hb'
         have hvl2:vs.length≤n:=by rw[hvl];exact Nat.min_le_right k n
         rw[List.getElem?_toArray,ezc _ _ _ _ (by omega),if_neg (by omega)]at hv
         have:=hrel j _ v hj2 (by simpa using hv)
         have st':=st
         simp only[Nat.zero_add]at st'⊢
         exact⟨this.1.mono' st'.sub st'.cell,this.2⟩
        obtain⟨kd,x,y,q1,q2,q3⟩:=c2 j hjl
        rw[List.getElem?_append_left (by omega),q3]at hb'
        cases hb'
        rw[List.getElem?_toArray,ezc _ _ _ _ (by omega)]at hv
        simp only[Nat.zero_add]at q2 hv⊢
        by_cases hjk:j<vs.length
        ·rw[if_pos (by omega),Nat.sub_zero]at hv
         have hjk':j<k:=by have:Nat.min k n≤k:=Nat.min_le_left k n;omega
         rw[hvr j kd x (by omega) q2]at hv
         cases hv
         rw[if_pos hjk']
         exact⟨.pure .int,rfl⟩
        ·rw[if_neg (by omega)]at hv
         have hjk':¬j<k:=fun hh=>hjk (by rw[hvl];exact Nat.lt_min.2 ⟨hh,by omega⟩)
         rw[if_neg hjk']
         have:=hrel j _ v q1 (by simpa using hv)
         have st':=st
         simp only[Nat.zero_add]at st'
         exact⟨this.1.mono' st'.sub st'.cell,this.2⟩
       ·cases hbb.resolve_right (fun h=>h);exact hmine.1
       ·cases hbb.resolve_right (fun h=>h);simpa using hmine.2
       ·cases hbb.resolve_right (fun h=>h)
        have:=hm.disj i k _ r' _ hM hk (.inl rfl) hbk
        subst this
        simp[Mem.get]at hn
      ·cases h
     ·simp only[Mem.get]at h h'
      split at h
      ·split at h'
       ·rename_i e1 e2;exact e1.symm.trans e2
       ·cases h'
      ·cases h
    ·cases h
   ·cases h
  ·cases h
 ·cases h
theorem Vzf {x:Operand}{ts:Array TypeId}{out:Out}(ho:o.op=.call {callee:=.builtin .len,args:=#[x],argTypes:=ts})(h:Oz4 P ts (env x)=some out):Sound1 P o env m id out:=by
 have hop:x∈o.op.operands:=by simp[ho,Op.operands,Call.operands]
 unfold Oz4 at h
 split at h
 ·rename_i i sz lo n t hx ht
  split at h
  ·rename_i e hu
   cases h
   refine Sound1.still fun F w ρ Mine M a _ _ ha=>⟨.int .i64 n,qzm ho ?_,.pure .int⟩
   have h1:=hx▸ha x hop
   generalize a.eval x=u at h1⊢
   cases h1 with
   |view=>simp[Builtin.len_,ht,run_underlying hu,goInt]
   |viewN hh hn=>subst hn;simp[Builtin.len_,ht,run_underlying hu,goInt]
  ·cases h
 ·cases h
theorem Kz5 {t:TypeId}{x i:Operand}{out:Out}(ho:o.op=.indexAddr t x i)(h:pzz P t (env x) (env i)=some out)(hob:holds out.obl):Sound1 P o env m id out:=by
 unfold pzz at h
 split at h
 ·rename_i k sz lo n ik iv hx hi
  split at h
  ·rename_i e hu
   split at h
   ·rename_i hs
    cases h
    obtain⟨h0,hn⟩:=hob
    refine Sound1.still fun F w ρ Mine M a _ _ ha=>?_
    have hiv:a.eval i=.int ik iv:=(hi▸ha i (by simp[ho,Op.operands])).pure_inv.int_inv
    have h1:=ha x (by simp[ho,Op.operands])
    rw[hx]at h1
    generalize hu':a.eval x=u at h1
    cases h1 with
    |viewN hh hn'=>omega
    |@view _ _ _ _ b n0 cap ad hh hle had=>
     have had:=had (.inl (by omega))
     subst had
     refine⟨.pointer (some ⟨b,(lo+iv.toNat) * sz+0,none⟩),.value ?_,.eptr hh⟩
     simp only[execOp,ho,Instr.indexAt,Sem.run_bind,hiv,hu',asIntOf,Sem.run_pure,Result.andThen_ok,run_underlying hu]
     simp[h0,hn,cz2 hs,dzg,Nat.add_mul]
   ·cases h
  ·cases h
 ·cases h
theorem Pzo {t:TypeId}{x:Operand}{lo hi mx:Option Operand}{out:Out}(ho:o.op=.slice t x lo hi mx)
 (h:Bz8 P t (env x) (lo.map env) (hi.map env) (mx.map env) m=some out) (hob:holds out.obl):Sound1 P o env m id out:=by
 unfold Bz8 at h
 split at h
 ·rename_i k sz of n hmx hx
  have hmx':mx=none:=by simpa using hmx
  subst hmx'
  have hop:x∈o.op.operands:=by simp[ho,Op.operands]
  have hlo:∀y,lo=some y->y∈o.op.operands:=fun y hy=>by simp[ho,Op.operands,hy]
  have hhi:∀y,hi=some y->y∈o.op.operands:=fun y hy=>by simp[ho,Op.operands,hy]
  split at h
  ·rename_i e sz2 n2 f2 k2 e2 l hh hu hmo hl hh'
   split at h
   ·rename_i hs
    cases h
    obtain⟨h0,h1,h2⟩:=hob
    refine Sound1.still fun F w ρ Mine M a hm hrd ha=>?_
    have hb1:=fzz (F:=F) (w:=w) (ρ:=ρ) (a:=a) hl (fun y hy=>ha y (hlo y hy))
    have hb2:=fzz (F:=F) (w:=w) (ρ:=ρ) (a:=a) hh' (fun y hy=>ha y (hhi y hy))
    have hb1':(lo.map a.eval=none/\l=0)\/∃k,lo.map a.eval=some (.int k l):=hb1.imp (fun h=>⟨by simp[h.1],by simpa using h.2⟩) (fun h=>h)
    have hb2':(hi.map a.eval=none/\hh=n)\/∃k,hi.map a.eval=some (.int k hh):=hb2.imp (fun h=>⟨by simp[h.1],h.2⟩) (fun h=>h)
    have hM:=(hrd k (by simp)).trans hmo
    obtain⟨_,hok⟩:=hm.ok k _ hM
    have hx1:=hx▸ha x hop
    generalize hv:a.eval x=u at hx1
    cases hx1 with
    |viewN hnone hn0=>
     subst hn0
     obtain rfl:l=0:=by omega
     obtain rfl:hh=0:=by omega
     refine⟨.slice none 0 0,.value ?_,.viewN hnone (by simp)⟩
     have hbb:=fzf (P:=P) (w:=w) (isS:=true) (len:=0) (cap:=0) (lo:=lo.map a.eval) (hi:=hi.map a.eval) hb1' (by simpa using hb2') (Int.le_refl _) (Int.le_refl _) (by omega)
     simp only[execOp,ho,Instr.sliceAt,Instr.slice,Sem.run_bind,run_underlying hu,Result.andThen_ok,hv,hbb,Option.map_none,cz2 hs,Sem.run_pure]
     simp
    |@view _ _ _ _ b n0 cap ad q1 hle had=>
     rcases hok with⟨hnone,hn0⟩|⟨b',cap',c,q1',q2,q3,q4,q5,q6,q7,q8⟩
     ·rw[q1]at hnone;cases hnone
     ·rw[q1]at q1'
      cases q1'
      have hbb:=fzf (P:=P) (w:=w) (isS:=true) (len:=n) (cap:=cap-of) (lo:=lo.map a.eval) (hi:=hi.map a.eval) hb1' hb2' h0 h1 (by omega)
      have hrun:∀ad',(if cap-of=l.toNat then some ad else(some ad).map (·.add (l.toNat * sz)))=some ad'->Ran P o a w (.slice (some ad') (hh.toNat-l.toNat) (cap- (of+l.toNat))) w:=by
       intro ad' had'
       refine .value ?_
       rw[←Nat.sub_sub]
       simp only[execOp,ho,Instr.sliceAt,Instr.slice,Sem.run_bind,run_underlying hu,Result.andThen_ok,hv,hbb,Option.map_none,cz2 hs,Sem.run_pure,had']
      by_cases hcl:cap-of=l.toNat
      ·refine⟨_,hrun ad (by rw[if_pos hcl]),.view q1 (by omega) (fun h=>?_)⟩
       rcases h with h|h
       ·omega
       ·have:=had (.inr (by omega))
        rw[this,show of=0 by omega,show l.toNat=0 by omega]
      ·by_cases hlt:of+l.toNat<n2\/of+l.toNat=0
       ·have hh3:=had (by omega)
        subst hh3
        exact⟨_,hrun _ (by rw[if_neg hcl,Option.map_some,dzg]),.view q1 (by omega) (fun _=>by rw[Nat.add_mul])⟩
       ·exact⟨_,hrun (ad.add (l.toNat * sz)) (by rw[if_neg hcl,Option.map_some]),.view q1 (by omega) (fun h=>absurd h hlt)⟩
   ·cases h
  ·cases h
 ·cases h
variable {P:Program} {o:Oper} {env:Operand->AVal} {m:Mem} {id:Nat}
theorem MemOk.dat {F:Cells}{w:World}{ρ:Env}{Mine:Nat->Prop}{M:Mem}{old sz n:Nat}{f:Nat->PVal}(h:MemOk F w ρ Mine M)(hp:PRel F w (.lst sz n f) (ez4 (ρ.vec old))):MemOk F w ρ Mine ((old,.dat sz n f)::M):=by
 have no:∀b,¬Owns w ρ old (.dat sz n f) b:=fun b hb=>by simp[Owns,hzm,bzc]at hb
 refine⟨fun i r hg=>?_,fun i r b hg hb=>?_,fun i i' r r' b hg hg' hb hb'=>?_⟩
 ·by_cases e:old=i
  ·subst e;simp[Mem.get]at hg;subst hg;exact hp
  ·simp[Mem.get,e]at hg;exact h.ok i r hg
 ·by_cases e:old=i
  ·subst e;simp[Mem.get]at hg;subst hg;exact absurd hb (no b)
  ·simp[Mem.get,e]at hg;exact h.mine i r b hg hb
 ·by_cases e:old=i
  ·subst e;simp[Mem.get]at hg;subst hg;exact absurd hb (no b)
  ·by_cases e':old=i'
   ·subst e';simp[Mem.get]at hg';subst hg';exact absurd hb' (no b)
   ·simp[Mem.get,e]at hg;simp[Mem.get,e']at hg';exact h.disj i i' r r' b hg hg' hb hb'
theorem MemOk.ext {F:Cells}{w:World}{ρ:Env}{Mine:Nat->Prop}{M M':Mem}(h:MemOk F w ρ Mine M)(he:∀i,M'.get i=M.get i):MemOk F w ρ Mine M':=
 ⟨fun i r hg=>h.ok i r (by rw[←he];exact hg),fun i r b hg=>h.mine i r b (by rw[←he];exact hg),fun i i' r r' b hg hg'=>h.disj i i' r r' b (by rw[←he];exact hg) (by rw[←he];exact hg')⟩
theorem Nzk {F:Cells}{w:World}{ρ:Env}{k:Nat}:ARel F w ρ (.vec k) (ez4 (ρ.vec k)):=by
 cases h:ρ.vec k with
 |none=>exact .vnil h
 |some x=>obtain⟨b,n,cap⟩:=x;exact .vec h
theorem Pzk {s x:Operand}{ts:Array TypeId}{out:Out}(ho:o.op=.call {callee:=.builtin .append,args:=#[s,x],argTypes:=ts})
 (hts:∀t,ts[0]?=some t->ts[1]?=some t->ts=#[t,t]) (h:Bz5 P ts id s (env s) (env x) m=some out) (hob:holds out.obl):Sound1 P o env m id out:=by
 unfold Bz5 at h
 split at h
 ·rename_i old hs
  split at h
  ·rename_i sz n f sh e hm0
   split at h
   ·rename_i out0 h0
    split at h
    ·rename_i x0 l0 hwr
     split at h
     ·cases h
     ·rename_i hxo
      cases h
      have key:=Mzq (P:=P) (id:=id) (env:=env) (m:=bz6 m [old]++m) ho hts h0 hob
      have hsh:bz6 m [old]=[(old,Res.vec sz n f n e)]:=by simp[bz6,hm0]
      intro F w ρ Mine M a hm g fr hrd hfe ha
      have hMo:=(hrd old (by simp)).trans hm0
      obtain⟨st,hm1⟩:=iz4 (m:=m) hm g (is:=[old]) (fun i hi=>by simp at hi;subst hi;exact hrd i (by simp))
      have hp:=fze (m:=m) hm g (a:=.vec old) (v:=ez4 (ρ.vec old)) (p:=.lst sz n f) (is:=[old]) (js:=[old]) (by simp[kzb,Ezu,hm0]) (fun _ h=>h) (fun i hi=>by simp at hi;subst hi;exact hrd i (by simp)) Nzk
      have fr1:Fresh id (bz6 m [old]++M):=by
       rw[hsh]
       refine⟨fun i hi=>?_,fun i q r hi hq=>?_⟩
       ·rw[Mem.get_append]
        by_cases e1:old=i
        ·subst e1;rw[fr.none old hi]at hMo;cases hMo
        ·simp[Mem.get,e1,fr.none i hi]
       ·rw[Mem.get_append]at hq
        by_cases e1:old=q
        ·subst e1;simp[Mem.get]at hq;subst hq;rfl
        ·simp[Mem.get,e1]at hq;exact fr.has i q r hi hq
      obtain⟨v,w',F',ρ',k1,k2,k3,k4,k5⟩:=key (czu F w ρ m [old]) w ρ Mine _ a hm1 (st.good g) fr1 (fun i hi=>by
       rw[Mem.get_append,Mem.get_append,hrd i (by simp[hi])]) hfe (fun z hz=>(ha z hz).mono' st.sub st.cell)
      have hno:¬Own id old:=fun hi=>by rw[fr.none old hi]at hMo;cases hMo
      refine⟨v,w',F',ρ',k1,st.trans k2,k3,k4,?_⟩
      have hd:=k5.dat (old:=old) (sz:=sz) (n:=n) (f:=f) (by rw[(k3 old hno).2];exact hp.mono k2.sub k2.cell)
      refine hd.ext fun i=>?_
      have e9:out0.wr++(bz6 m [old]++M)=x0::(l0++(bz6 m [old]++M)):=by rw[hwr];rfl
      rw[e9]
      show Mem.get (x0::(old,Res.dat sz n f)::(l0++bz6 m [old]++M)) i=Mem.get ((old,Res.dat sz n f)::x0::(l0++(bz6 m [old]++M))) i
      obtain⟨x1,x2⟩:=x0
      simp only[Mem.get,List.append_assoc]
      by_cases q1:x1=i
      ·have q2:¬old=i:=fun q=>hxo (q1.trans q.symm)
       simp[q1,q2]
      ·simp[q1]
    ·cases h
   ·cases h
  ·cases h
 ·cases h
theorem Sz1 {t:TypeId}{x:Operand}{lo hi mx:Option Operand}{out:Out}(ho:o.op=.slice t x lo hi mx)
 (h:Gzj P t (env x) (lo.map env) (hi.map env) (mx.map env) m=some out) (hob:holds out.obl):Sound1 P o env m id out:=by
 unfold Gzj at h
 split at h
 ·rename_i old hx
  split at h
  ·rename_i sz n f hm0
   split at h
   ·rename_i out0 h0
    cases h
    unfold tzs at h0
    split at h0
    ·cases h0
    ·rename_i hmx
     have hmx':mx=none:=by simpa using hmx
     subst hmx'
     have hop:x∈o.op.operands:=by simp[ho,Op.operands]
     have hlo:∀y,lo=some y->y∈o.op.operands:=fun y hy=>by simp[ho,Op.operands,hy]
     have hhi:∀y,hi=some y->y∈o.op.operands:=fun y hy=>by simp[ho,Op.operands,hy]
     split at h0
     ·rename_i e hu
      split at h0
      ·rename_i sz' n' f' is hx'
       simp only[kzb,Ezu,AVal.toP,Option.some.injEq,Prod.mk.injEq,PVal.lst.injEq]at hx'
       obtain⟨⟨rfl,rfl,rfl⟩,rfl⟩:=hx'
       split at h0
       ·rename_i l hh hl hh'
        split at h0
        ·rename_i hs
         cases h0
         obtain⟨h0,h1,h2⟩:=hob
         intro F w ρ Mine M a hm g fr hrd hown ha
         have hb1:=fzz (F:=F) (w:=w) (ρ:=ρ) (a:=a) hl (fun y hy=>ha y (hlo y hy))
         have hb2:=fzz (F:=F) (w:=w) (ρ:=ρ) (a:=a) hh' (fun y hy=>ha y (hhi y hy))
         have hb1':(lo.map a.eval=none/\l=0)\/∃k,lo.map a.eval=some (.int k l):=hb1.imp (fun h=>⟨by simp[h.1],by simpa using h.2⟩) (fun h=>h)
         have hb2':(hi.map a.eval=none/\hh=n)\/∃k,hi.map a.eval=some (.int k hh):=hb2.imp (fun h=>⟨by simp[h.1],h.2⟩) (fun h=>h)
         have hMo:=(hrd old (by simp)).trans hm0
         have hp:PRel F w (.lst sz n f) (ez4 (ρ.vec old)):=hm.ok old _ hMo
         have hv:a.eval x=ez4 (ρ.vec old):=by
          have:=ha x hop
          rw[hx]at this
          generalize a.eval x=y at this⊢
          cases this with
          |vnil h=>rw[h];rfl
          |vec h=>rw[h];rfl
         rw[←hv]at hp
         obtain⟨v,hr,hv⟩:=Dz2 (ρ:=ρ) ho hu hs hp hb1' hb2' h0 h1 h2
         exact⟨v,w,F,ρ,hr,Step.refl g,fun _ _=>⟨rfl,rfl⟩,hv,by simpa[bz6]using hm⟩
        ·cases h0
       ·cases h0
      ·cases h0
     ·cases h0
   ·cases h
  ·cases h
 ·cases h
variable {P:Program} {o:Oper} {env:Operand->AVal} {m:Mem} {id:Nat}
theorem Rzm (w:World)(op:BinOp)(t:TypeId)(x y:Operand)(p q:Option Addr):(eqGuard op t x y (.pointer p) (.pointer q)).run P w=.ok () w:=by
 unfold eqGuard
 cases op<;>simp
theorem Wz7 {op:BinOp}{t t':TypeId}{x y:Operand}{out:Out}(ho:o.op=.binOp op t x y t')(h:Tzg P op t (env x) y=some out):Sound1 P o env m id out:=by
 unfold Tzg at h
 split at h
 ·rename_i e hu
  have hp:P.underlying t=some (.pointer (P.pointee t)):=by simp[Program.pointee,hu]
  have hop:x∈o.op.operands:=by simp[ho,Op.operands]
  split at h
  all_goals first
   |(cases h;done)
   |(rename_i hx
     cases h
     refine Sound1.still fun F w ρ Mine M a _ _ ha=>?_
     have ax:=ha x hop
     rw[hx]at ax
     generalize hv:a.eval x=v at ax
     cases ax
     refine⟨_,.value (by rw[execOp,ho];simp only[hv,show a.eval (.const (.pointer none))=.pointer none from rfl,Sem.run_bind,Rzm,run_eql_pointer_nil _ _ _ hp,run_neq_pointer_nil _ _ _ hp,Result.andThen_ok,Sem.run_pure];rfl),?_⟩
     first|exact .tt|exact .ff)
 ·cases h
theorem Qzz {k:IntKind}:∀ (ps:List PVal) (l:List Int),xzr k ps=some l->∀j,j<l.length->ps[j]?=some (.int k (l.getD j 0)):=by
 intro ps
 induction ps with
 |nil=>intro l h j hj;simp[xzr]at h;subst h;simp at hj
 |cons p ps ih=>
  intro l h j hj
  cases p<;>simp only[xzr]at h<;>try cases h
  split at h
  ·rename_i hk;subst hk
   split at h
   ·rename_i r hr
    cases h
    cases j with
    |zero=>simp
    |succ j=>simpa using ih r hr j (by simpa using hj)
   ·cases h
  ·cases h
theorem Kz3 {t:TypeId}{x i:Operand}{out:Out}(ho:o.op=.indexAddr t x i)(h:pzx P t (env x) (env i)=some out)(hob:holds out.obl):Sound1 P o env m id out:=by
 unfold pzx at h
 split at h
 ·rename_i cs ik iv hx hi
  split at h
  ·rename_i len e hu
   split at h
   ·split at h
    ·rename_i k l hl
     cases h
     obtain⟨h0,hn⟩:=hob
     unfold Mze at hl
     split at hl
     ·rename_i k' hk hs1
      split at hl
      ·rename_i l' hl'
       split at hl
       ·rename_i hlen
        cases hl
        refine Sound1.still fun F w ρ Mine M a _ _ ha=>?_
        have hiv:=(hi▸ha i (by simp[ho,Op.operands])).pure_inv.int_inv
        have h1:=ha x (by simp[ho,Op.operands])
        rw[hx]at h1
        generalize hu':a.eval x=u at h1
        cases h1 with
        |@ref _ b off hp=>
         obtain⟨c,hc⟩:=hp
         have hg:=Qzz cs l hl' iv.toNat (by omega)
         refine⟨.pointer (some ⟨b,off+iv.toNat,none⟩),.value ?_,.ref ⟨fun j=>c (iv.toNat+j),fun j q hq=>?_⟩⟩
         ·simp only[execOp,ho,Instr.indexAt,Sem.run_bind,hiv,hu',asIntOf,Sem.run_pure,Result.andThen_ok,run_underlying hu,Instr.sureAddr]
          simp[h0,hn,cz2 hs1,dzg]
         ·cases j with
          |zero=>
           simp only[PVal.cells,List.getElem?_cons_zero,Option.some.injEq]at hq
           subst hq
           exact hc iv.toNat _ hg
          |succ j=>simp[PVal.cells]at hq
       ·cases hl
      ·cases hl
     ·cases hl
    ·cases h
   ·cases h
  ·cases h
 ·cases h
theorem Sz2 {t:TypeId}{x:Operand}{lo hi mx:Option Operand}{out:Out}(ho:o.op=.slice t x lo hi mx)
 (h:Gzk P t (env x) (lo.map env) (hi.map env) (mx.map env) m=some out) (hob:holds out.obl):Sound1 P o env m id out:=by
 unfold Gzk at h
 split at h
 ·rename_i i ik hh hx hlo hhi hmx
  simp only[Option.map_eq_none_iff]at hlo hmx
  subst hlo;subst hmx
  obtain⟨y,rfl,hy⟩:=Option.map_eq_some_iff.1 hhi
  split at h
  ·rename_i n e cs hu hcs
   split at h
   ·rename_i ps hps
    split at h
    ·rename_i hc
     simp only[Bool.and_eq_true,decide_eq_true_eq]at hc
     obtain⟨⟨⟨hs,hn⟩,hn60⟩,hsc⟩:=hc
     cases h
     obtain⟨h0,h1⟩:=hob
     intro F w ρ Mine M a hm g fr hrd hfe ha
     have hM:=(hrd i (by simp)).trans hcs
     obtain⟨c,e',hb,hl,hnF,hrel⟩:=Azo hm hM
     obtain⟨p1,p2⟩:=gzu hps
     have hmine:=hm.mine i _ _ hM (.inl rfl)
     have hyv:=(hy▸ha y (by simp[ho,Op.operands])).pure_inv.int_inv
     have ax:=ha x (by simp[ho,Op.operands])
     rw[hx]at ax
     have hxv:a.eval x=.pointer (some ⟨ρ.blk i,0,none⟩):=by generalize a.eval x=v at ax;cases ax;rfl
     have st:Step Mine F w (fun b o=>F b o\/b=ρ.blk i) w:=⟨fun _ _ h=>.inl h,fun _ _ _=>rfl,fun b o h=>h.elim .inl (fun (e:b=ρ.blk i)=>.inr (e▸hmine.1)),fun b o h=>h.elim (g.lt b o) (fun (e:b=ρ.blk i)=>e▸hmine.2),Keep.refl _ _⟩
     have hlen:hh.toNat≤n:=by omega
     have hps1:∀j p,j<hh.toNat->(lget ps j).cells[0]?=some p->ps[j]?=some p/\p.scalar=true:=by
      intro j p hj hp
      have hjl:j<ps.length:=by omega
      have e1:lget ps j=ps[j]:=by simp[lget,hjl]
      have hsj:ps[j].scalar=true:=List.all_eq_true.1 hsc _ (List.getElem_mem hjl)
      rw[e1]at hp
      have:ps[j].cells=[ps[j]]:=by cases hq:ps[j]<;>first|rfl|(rw[hq]at hsj;cases hsj)
      rw[this]at hp
      simp at hp;subst hp
      exact⟨List.getElem?_eq_getElem hjl,hsj⟩
     have hone:∀j,j<hh.toNat->(lget ps j).cells.length=1:=by
      intro j hj
      have hjl:j<ps.length:=by omega
      have e1:lget ps j=ps[j]:=by simp[lget,hjl]
      have hsj:ps[j].scalar=true:=List.all_eq_true.1 hsc _ (List.getElem_mem hjl)
      rw[e1]
      cases hq:ps[j]<;>first|rfl|(rw[hq]at hsj;cases hsj)
     have hcell:∀j q p,j<hh.toNat->(lget ps j).cells[q]?=some p->q=0/\∃v,c[j]?=some v/\v.oneCell'=true/\PRel F w p v:=by
      intro j q p hj hp
      have hq0:q=0:=by have:=(List.getElem?_eq_some_iff.1 hp).1;rw[hone j hj]at this;omega
      subst hq0
      obtain⟨r1,r2⟩:=hps1 j p hj hp
      obtain⟨b,b1,b2⟩:=p2 j p r1
      have hjc:j<c.size:=by rw[hl,hn];omega
      have hv:=hrel j b c[j] b1 (Array.getElem?_eq_getElem hjc)
      exact⟨rfl,c[j],Array.getElem?_eq_getElem hjc,hv.2,hv.1.toP b2⟩
     refine⟨.slice (some ⟨ρ.blk i,0,none⟩) hh.toNat n,w,fun b o=>F b o\/b=ρ.blk i,ρ,.inl ?_,st,fun _ _=>⟨rfl,rfl⟩,.pure (.sl (fun q=>c.getD q undef) hlen (by unfold maxLen;omega) hone (fun j q p hj hp=>?_) (fun j q p hj hp=>?_)),?_⟩
     ·simp only[execOp,ho,Instr.sliceAt,Instr.sliceBounds,Instr.sliceBound,Instr.sureAddr,h0,h1,and_self,if_true,Sem.run_bind,run_underlying hu,Result.andThen_ok,hxv,hyv,asIntOf,Option.map_none,Option.map_some,cz2 hs,Sem.run_pure]
      simp[h0,h1,dzg]
     ·obtain⟨rfl,v,v1,v2,v3⟩:=hcell j q p hj hp
      have hjc:=(Array.getElem?_eq_some_iff.1 v1).1
      refine⟨.inr rfl,?_,?_⟩
      ·have:=cell_of_row w (ρ.blk i) (0+(j * 1+0)) c e' _ hb
       simpa[v1,hjc]using this
      ·simpa[Array.getD,hjc,(Array.getElem?_eq_some_iff.1 v1).2]using v2
     ·obtain⟨rfl,v,v1,v2,v3⟩:=hcell j q p hj hp
      have hjc:=(Array.getElem?_eq_some_iff.1 v1).1
      have:=v3.mono (F':=fun b o=>F b o\/b=ρ.blk i) (w':=w) (fun _ _ h=>.inl h) (fun _ _ _=>rfl)
      simpa[Array.getD,hjc,(Array.getElem?_eq_some_iff.1 v1).2]using this
     ·refine hm.step st (fun _=>True) (fun _ _=>⟨rfl,rfl⟩) [(i,.gone)] (fun j r hj hw=>⟨trivial,fun _ h=>absurd trivial h,fun b hbb=>⟨rfl,fun q hq=>?_⟩⟩) (fun j r hj=>?_) (fun j j' r r' b hj hj' hbb _=>?_)
      ·rcases hq with hq|rfl
       ·exact hq
       ·have:=hm.disj j i r _ _ hj hM hbb (.inl rfl)
        subst this
        simp[Mem.get]at hw
      ·simp only[Mem.get]at hj
       split at hj
       ·cases hj;exact⟨trivial,fun b hbb=>by simp[Owns,hzm,bzc]at hbb⟩
       ·cases hj
      ·simp only[Mem.get]at hj
       split at hj
       ·cases hj;simp[Owns,hzm,bzc]at hbb
       ·cases hj
    ·cases h
   ·cases h
  ·cases h
 ·cases h
variable {P:Program} {o:Oper} {env:Operand->AVal} {m:Mem} {id:Nat}
theorem Kzg {n:Int}(h0: -9223372036854775808≤n)(h1:n≤9223372036854775807):IntKind.i64.wrap n=n:=by
 simp only[IntKind.wrap,IntKind.bits,IntKind.signed,Bool.true_and,ge_iff_le,decide_eq_true_eq]
 split<;>omega
theorem Ez8 {F:Cells}{w:World}{ρ:Env}{Mine:Nat->Prop}{M:Mem}(hm:MemOk F w ρ Mine M)(g:Good F w Mine)(fr:Fresh id M){t e:TypeId}{sz by_:Nat}{z:List Value}{ps:List PVal}{p:PVal}{l c:Int}
 (hu:P.underlying t=some (.slice e)) (hs:bzi P e=some sz) (hby:ozs P e=some by_) (hz:gzt P e=some z) (hzl:z.length=sz) (hps:allP (z.map dzq)=some ps) (hsc:ps.all (·.scalar)=true)
 (hpc:p.cells=ps) (h0:0≤l) (h1:l≤c) (h2:c≤9223372036854775807) (h3:c * by_≤140737488355328):
 ∃v w' F' ρ',(Instr.makeSlice t (.int .i64 l) (.int .i64 c)).run P w=.ok v w'/\Step Mine F w F' w'/\czm id ρ ρ'/\ARel F' w' ρ' (.vec id) v/\MemOk F' w' ρ' Mine ([(id,.vec sz l.toNat (fun _=>p) 0 e)]++M):=by
 obtain⟨i,zv,hi,hzv,hzz⟩:=hz3 hz
 obtain⟨i',hi',hsz⟩:=ez2 hs
 rw[hi]at hi';cases hi'
 obtain⟨i',hi',hbb⟩:=jzt hby
 rw[hi]at hi';cases hi'
 have hzs:zv.cells.size=sz:=by rw[←hzl,←hzz];simp
 have hwl:=Kzg (n:=l) (by omega) (by omega)
 have hwc:=Kzg (n:=c) (by omega) (by omega)
 have hbc:¬ (281474976710656<(by_:Int) * c):=by rw[Int.mul_comm];omega
 obtain⟨A,hA⟩:∃A:Array Value,A=(Array.range (c.toNat * sz)).map (fun x=>zv.cells[x % zv.cells.size]!):=⟨_,rfl⟩
 have hrun:(Instr.makeSlice t (.int .i64 l) (.int .i64 c)).run P w=.ok (.slice (some ⟨w.heap.size,0,none⟩) l.toNat c.toNat) (w.alloc (.cells A e)):=by
  have hnl:¬l<0:=by omega
  have hcl:¬l>c:=by omega
  have hc0:¬c<0:=by omega
  have hb48:¬ (by_:Int) * c>2 ^ 48:=by simpa using hbc
  simp only[Instr.makeSlice,Sem.run_bind,run_underlying hu,Result.andThen_ok,asInt,asIntOf,Sem.run_pure,typeInfo,run_program,hi,hwl,hwc,hbb,cz2 hs,
   hc0,hnl,hcl,hb48,decide_false,Bool.or_false,Bool.false_eq_true,if_false,run_askRoom]
  by_cases hn:c.toNat * sz=0
  ·rw[if_pos hn]
   have hA0:A=#[]:=by rw[hA];simp[hn]
   have e0:(Array.range 0:Array Nat)=#[]:=by decide
   simp only[hn,newRow,Sem.run_bind,run_newObj,Sem.run_pure,Result.andThen_ok,hA0,e0,List.map_toArray,List.map_nil]
   rfl
  ·rw[if_neg hn]
   simp[newRow,zeroValue,typeInfo,hi,hzv,hA]
 have hsize:A.size=c.toNat * sz:=by rw[hA];simp
 have hel:∀ (q j:Nat) (x:PVal),q<c.toNat->ps[j]?=some x->∃v,A[q * sz+j]?=some v/\v.oneCell'=true/\PRel F (w.alloc (.cells A e)) x v:=by
  intro q j x hq hx
  obtain⟨hl1,hl2⟩:=gzu hps
  have hj:j<sz:=by have:=(List.getElem?_eq_some_iff.1 hx).1;simp at hl1;omega
  obtain⟨aa,ha1,ha2⟩:=hl2 j x hx
  simp only[List.getElem?_map,Option.map_eq_some_iff]at ha1
  obtain⟨v,hv,rfl⟩:=ha1
  have hr:=(eza (F:=F) (w:=w.alloc (.cells A e)) (ρ:=ρ) v).toP ha2
  refine⟨v,?_,hr.one (List.all_eq_true.1 hsc x (List.mem_of_getElem? hx)),hr⟩
  have hlt:=jzu hq hj
  have hmod:(q * sz+j) % sz=j:=by rw[Nat.mul_comm,Nat.mul_add_mod];exact Nat.mod_eq_of_lt hj
  have hzj:zv.cells[j]?=some v:=by rw[←hzz]at hv;simpa using hv
  rw[hA]
  rw[Array.getElem?_map,Array.getElem?_range]
  simp only[hlt,if_true,Option.map_some,hzs,hmod]
  simp[getElem!_def,hzj]
 have st:Step Mine F w F (w.alloc (.cells A e)):=by
  have s:=Step.alloc g (.cells A e) (fun _=>False)
  exact⟨fun _ _ h=>h,s.cell,fun _ _ h=>.inl h,fun b o h=>by have:=g.lt b o h;simp;omega,s.keep⟩
 have hv:(ρ.setVec id (some (w.heap.size,l.toNat,c.toNat))).vec id=some (w.heap.size,l.toNat,c.toNat):=if_pos rfl
 have hpl:ps.length=sz:=by have:=(gzu hps).1;simp at this;omega
 have hmem:=hm.newVec fr st (some (w.heap.size,l.toNat,c.toNat)) [] sz l.toNat 0 (fun _=>p) e
  ⟨Nat.zero_le _,.inr ⟨w.heap.size,c.toNat,A,hv,heap_alloc_new w _,by omega,by simp only[maxLen];omega,hsize,fun o hF=>absurd (g.lt _ _ hF) (by omega),fun _ _=>by rw[hpc];exact hpl,fun q j x hq hx=>hel q j x (by omega) (by rw[←hpc];exact hx)⟩⟩
  (fun b hb=>by
   simp at hb;subst hb
   exact⟨g.mine _ (Nat.le_refl _),by simp,fun q r' hq _ hbq=>absurd (hm.mine q r' _ hq hbq).2 (by omega)⟩)
  (fun j r b hj _ hbj=>⟨heap_alloc_old w _ (hm.mine j r b hj hbj).2,fun _ h=>h⟩)
 exact⟨_,_,F,_,hrun,st,cz4 ρ id _,.vec hv,by simpa using hmem⟩
theorem Czl {t:TypeId}{x y:Operand}{out:Out}(ho:o.op=.makeSlice t x y)(h:nzu P t id (env x) (env y)=some out)(hob:holds out.obl):Sound1 P o env m id out:=by
 unfold nzu at h
 split at h
 ·rename_i l c hx hy
  split at h
  ·rename_i e hu
   split at h
   ·rename_i sz by_ z hs hby hz
    split at h
    ·rename_i hzl
     split at h
     ·rename_i ps hps
      split at h
      ·rename_i hsc
       have fin:∀ (p:PVal),p.cells=ps->(0≤l/\l≤c/\c≤9223372036854775807/\c * by_≤140737488355328)->
        Sound1 P o env m id ⟨.vec id,[],[(id,.vec (sz+1) l.toNat (fun _=>p) 0 e)],some (0≤l/\l≤c/\c≤9223372036854775807/\c * by_≤140737488355328)⟩:=by
        intro p hp hb F w ρ Mine M a hm g fr _ _ ha
        obtain⟨v,w',F',ρ',h1,h2,h3,h4,h5⟩:=Ez8 (P:=P) hm g fr hu hs hby hz hzl hps hsc hp hb.1 hb.2.1 hb.2.2.1 hb.2.2.2
        have e1:=(hx▸ha x (by simp[ho,Op.operands])).pure_inv.int_inv
        have e2:=(hy▸ha y (by simp[ho,Op.operands])).pure_inv.int_inv
        exact⟨v,w',F',ρ',.value (by simp only[execOp,ho,Sem.run_bind,e1,e2,h1,Result.andThen_ok,Sem.run_pure]),h2,h3,h4,h5⟩
       split at h
       ·cases h;exact fin (.agg ps) rfl hob
       ·split at h
        ·rename_i p
         cases h
         exact fin p (PVal.cells_scalar (by simpa using hsc)) hob
        ·cases h
       ·cases h
      ·cases h
     ·cases h
    ·cases h
   ·cases h
  ·cases h
 ·cases h
theorem Hz5 {w:World}{t e:TypeId}{sz by_:Nat}{z:List Value}{l c:Int}
 (hu:P.underlying t=some (.slice e)) (hs:bzi P e=some sz) (hby:ozs P e=some by_) (hz:gzt P e=some z) (hzl:z.length=sz) (h0:0≤l) (h1:l≤c) (h2:c≤9223372036854775807) (h3:c * by_≤140737488355328):
 ∃A:Array Value,(Instr.makeSlice t (.int .i64 l) (.int .i64 c)).run P w=.ok (.slice (some ⟨w.heap.size,0,none⟩) l.toNat c.toNat) (w.alloc (.cells A e))/\A.size=c.toNat * sz/\
  ∀ (q j:Nat) (v:Value),q<c.toNat->z[j]?=some v->A[q * sz+j]?=some v:=by
 obtain⟨i,zv,hi,hzv,hzz⟩:=hz3 hz
 obtain⟨i',hi',hsz⟩:=ez2 hs
 rw[hi]at hi';cases hi'
 obtain⟨i',hi',hbb⟩:=jzt hby
 rw[hi]at hi';cases hi'
 have hzs:zv.cells.size=sz:=by rw[←hzl,←hzz];simp
 have hwl:=Kzg (n:=l) (by omega) (by omega)
 have hwc:=Kzg (n:=c) (by omega) (by omega)
 have hbc:¬ (281474976710656<(by_:Int) * c):=by rw[Int.mul_comm];omega
 obtain⟨A,hA⟩:∃A:Array Value,A=(Array.range (c.toNat * sz)).map (fun x=>zv.cells[x % zv.cells.size]!):=⟨_,rfl⟩
 refine⟨A,?_,by rw[hA];simp,fun q j v hq hv=>?_⟩
 ·have hnl:¬l<0:=by omega
  have hcl:¬l>c:=by omega
  have hc0:¬c<0:=by omega
  have hb48:¬ (by_:Int) * c>2 ^ 48:=by simpa using hbc
  simp only[Instr.makeSlice,Sem.run_bind,run_underlying hu,Result.andThen_ok,asInt,asIntOf,Sem.run_pure,typeInfo,run_program,hi,hwl,hwc,hbb,cz2 hs,
   hc0,hnl,hcl,hb48,decide_false,Bool.or_false,Bool.false_eq_true,if_false,run_askRoom]
  by_cases hn:c.toNat * sz=0
  ·rw[if_pos hn]
   have hA0:A=#[]:=by rw[hA];simp[hn]
   have e0:(Array.range 0:Array Nat)=#[]:=by decide
   simp only[hn,newRow,Sem.run_bind,run_newObj,Sem.run_pure,Result.andThen_ok,hA0,e0,List.map_toArray,List.map_nil]
   rfl
  ·rw[if_neg hn]
   simp[newRow,zeroValue,typeInfo,hi,hzv,hA]
 ·have hj:j<sz:=by have:=(List.getElem?_eq_some_iff.1 hv).1;omega
  have hlt:=jzu hq hj
  have hmod:(q * sz+j) % sz=j:=by rw[Nat.mul_comm,Nat.mul_add_mod];exact Nat.mod_eq_of_lt hj
  have hzj:zv.cells[j]?=some v:=by rw[←hzz]at hv;simpa using hv
  rw[hA]
  rw[Array.getElem?_map,Array.getElem?_range]
  simp only[hlt,if_true,Option.map_some,hzs,hmod]
  simp[getElem!_def,hzj]
theorem Kz7 {t:TypeId}{x y:Operand}{out:Out}(ho:o.op=.makeSlice t x y)(h:qz1 P t id (env x) (env y)=some out)(hob:holds out.obl):Sound1 P o env m id out:=by
 unfold qz1 at h
 split at h
 ·rename_i l c hx hy
  split at h
  ·rename_i e hu
   split at h
   ·rename_i by_ e' hs hby hz hu'
    split at h
    ·rename_i sz hs'
     cases h
     obtain⟨h0,h1,h2,h3⟩:=hob
     intro F w ρ Mine M a hm g fr _ _ ha
     have e1:=(hx▸ha x (by simp[ho,Op.operands])).pure_inv.int_inv
     have e2:=(hy▸ha y (by simp[ho,Op.operands])).pure_inv.int_inv
     obtain⟨A,hrun,hA,hget⟩:=Hz5 (P:=P) (w:=w) hu hs hby hz rfl h0 h1 h2 h3
     have hnil:∀q,q<c.toNat->A[q]?=some (.slice none 0 0):=fun q hq=>by
      have:=hget q 0 _ hq rfl
      simpa using this
     have st:Step Mine F w F (w.alloc (.cells A e)):=by
      have s:=Step.alloc g (.cells A e) (fun _=>False)
      exact⟨fun _ _ h=>h,s.cell,fun _ _ h=>.inl h,fun b o h=>by have:=g.lt b o h;simp;omega,s.keep⟩
     have hv:(ρ.setVec id (some (w.heap.size,l.toNat,c.toNat))).vec id=some (w.heap.size,l.toNat,c.toNat):=if_pos rfl
     have hno:∀q b,¬Inn A l.toNat none q b:=by
      intro q b ⟨r1,_,n',cap',r3⟩
      rw[hnil q (by omega)]at r3
      simp at r3
     have hget1:∀k r,Mem.get [(id,Res.vecT sz l.toNat (fun _=>.lst sz 0 fun _=>.unk) e e' none)] k=some r->k=id/\r=.vecT sz l.toNat (fun _=>.lst sz 0 fun _=>.unk) e e' none:=by
      intro k r hk
      simp only[Mem.get]at hk
      split at hk
      ·rename_i e1;subst e1;cases hk;exact⟨rfl,rfl⟩
      ·cases hk
     refine⟨_,_,F,ρ.setVec id (some (w.heap.size,l.toNat,c.toNat)),.value (by simp only[execOp,ho,Sem.run_bind,e1,e2,hrun,Result.andThen_ok,Sem.run_pure]),st,cz4 ρ id _,.vec hv,MemOk.step hm st (fun i=>¬Own id i) (cz4 ρ id _) _ (fun j r h _=>?_) (fun j r h=>?_) (fun j j' r r' b h h' _ _=>?_)⟩
     ·obtain⟨q1,q2,q3⟩:=Jzi hm fr (.cells A e) (fun _=>False) j r h
      exact⟨q1,q2,fun b hb=>⟨(q3 b hb).1,fun _ h=>h⟩⟩
     ·obtain⟨rfl,rfl⟩:=hget1 j r h
      refine⟨⟨w.heap.size,c.toNat,A,hv,heap_alloc_new w _,by omega,by simp only[maxLen];omega,by omega,fun o hF=>absurd (g.lt _ _ hF) (by omega),fun q hq=>⟨_,hnil q (by omega),rfl,.inr ⟨none,0,fun _=>.unk,rfl,rfl,Nat.le_refl _,.inl ⟨rfl,rfl⟩⟩⟩,fun q q' b h=>absurd h (hno q b),fun q h=>hno q _ h⟩,fun b hb=>?_⟩
      rcases hb with hb|⟨b0,n0,cap,c0,e0,q,r1,r2,r3⟩
      ·simp only[bzc,hv,Option.map_some,Option.some.injEq]at hb
       subst hb
       exact⟨g.mine _ (Nat.le_refl _),by simp,fun q r' hq _ hbq=>absurd (hm.mine q r' _ hq hbq).2 (by omega)⟩
      ·rw[hv]at r1;cases r1
       rw[heap_alloc_new w _]at r2;cases r2
       exact absurd r3 (hno q b)
     ·obtain⟨rfl,rfl⟩:=hget1 j r h
      obtain⟨rfl,rfl⟩:=hget1 j' r' h'
      rfl
    ·cases h
   ·cases h
  ·cases h
 ·cases h
theorem Fzl {mx:Bool}{f:Int->Int->Int}(hf:f=if mx then(fun a b=>max a b)else(fun a b=>min a b)){k:IntKind}{F:Cells}{w:World}{ρ:Env}:∀ (l:List AVal) (vs:List Value) (a r:Int),Fzk f k a l=some r->l.length=vs.length->(∀ (j:Nat) (x:AVal) (v:Value),l[j]?=some x->vs[j]?=some v->ARel F w ρ x v)->
 (vs.foldlM (if mx then Builtin.max2 else Builtin.min2) (.int k a)).run P w=.ok (.int k r) w
 |[],[],a,r,h,_,_=>by simp[Fzk]at h;subst h;rfl
 |[],_::_,_,_,_,hl,_=>by simp at hl
 |_::_,[],_,_,_,hl,_=>by simp at hl
 |x::l,v::vs,a,r,h,hl,hr=>by
  have hx:=hr 0 x v (by simp) (by simp)
  obtain⟨b,rfl,h2⟩:∃b,x=.pure (.int k b)/\Fzk f k (f a b) l=some r:=by
   match x,h with
   | .pure (.int k' b),h=>
     simp only[Fzk]at h
     split at h
     ·rename_i hk;subst hk;exact⟨b,rfl,h⟩
     ·cases h
  have hv:=hx.pure_inv.int_inv
  subst hv
  have ih:=Fzl hf l vs _ r h2 (by simpa using hl) (fun j x v h1 h2=>hr (j+1) x v (by simpa using h1) (by simpa using h2))
  cases mx with
  |true=>
   simp only[if_true]at ih hf⊢
   subst hf
   simp only[List.foldlM_cons,Builtin.max2,Sem.run_bind,Sem.run_pure,Result.andThen_ok]
   rw[show(if b>a then b else a)=max a b by omega];exact ih
  |false=>
   simp only[Bool.false_eq_true,if_false]at ih hf⊢
   subst hf
   simp only[List.foldlM_cons,Builtin.min2,Sem.run_bind,Sem.run_pure,Result.andThen_ok]
   rw[show(if b<a then b else a)=min a b by omega];exact ih
theorem Mzr {b:Builtin}{mx:Bool}{ff:Int->Int->Int}(hff:ff=if mx then(fun a b=>max a b)else(fun a b=>min a b)){xs:Array Operand}{ts:Array TypeId}{p:PVal}(hb:b=if mx then .max else .min)(ho:o.op=.call {callee:=.builtin b,args:=xs,argTypes:=ts})
 (h:Az3 ff (xs.toList.map env)=some p):Sound1 P o env m id (.v (.pure p)):=by
 unfold Az3 at h
 split at h
 ·rename_i k a' l hl
  split at h
  ·rename_i r hr
   cases h
   refine Sound1.still fun F w ρ Mine M a _ _ ha=>?_
   obtain⟨x,ys,hxs⟩:∃x ys,xs.toList=x::ys:=by
    cases hh:xs.toList with
    |nil=>rw[hh]at hl;simp at hl
    |cons x ys=>exact⟨x,ys,rfl⟩
   rw[hxs,List.map_cons]at hl
   simp only[List.cons.injEq]at hl
   obtain⟨hx,rfl⟩:=hl
   have hmem:∀z∈xs.toList,z∈o.op.operands:=fun z hz=>by simp[ho,Op.operands,Call.operands];simpa using hz
   have e1:=(hx▸ha x (hmem x (by rw[hxs];simp))).pure_inv.int_inv
   have hf:=Fzl (P:=P) hff (F:=F) (w:=w) (ρ:=ρ) (ys.map env) (ys.map a.eval) a' r hr (by simp) (fun j u v hu hv=>by
    simp only[List.getElem?_map,Option.map_eq_some_iff]at hu hv
    obtain⟨z,hz,rfl⟩:=hu
    obtain⟨z',hz',rfl⟩:=hv
    rw[hz]at hz';cases hz'
    exact ha z (hmem z (by rw[hxs];exact List.mem_cons_of_mem _ (List.mem_of_getElem? hz))))
   have hargs:(xs.map a.eval).toList=a.eval x::ys.map a.eval:=by simp[hxs]
   refine⟨.int k r,.value ?_,.pure .int⟩
   cases mx with
   |true=>
    simp only[if_true]at hb hf
    subst hb
    simp only[execOp,ho,resolve,Sem.run_bind,Sem.run_pure,Result.andThen_ok,invoke,builtin,Builtin.max_,hargs,e1,hf]
   |false=>
    simp only[Bool.false_eq_true,if_false]at hb hf
    subst hb
    simp only[execOp,ho,resolve,Sem.run_bind,Sem.run_pure,Result.andThen_ok,invoke,builtin,Builtin.min_,hargs,e1,hf]
  ·cases h
 ·cases h
theorem hz6 {out:Out}(h:evOp P o.op id env m=some out)(hob:holds out.obl):Sound1 P o env m id out:=by
 generalize hop:o.op=op at h
 cases op<;>simp only[evOp]at h
 all_goals try(cases h;done)
 case move x=>cases h;exact Vzh hop
 case assign x=>
  split at h
  ·rename_i hn
   have:x=.const (.slice none 0 0):=by
    unfold Uzz at hn
    split at hn
    ·rfl
    ·cases hn
   subst this
   cases h;exact Wz9 hop
  ·cases h;exact Rzv hop
 case pick c x y=>
  split at h
  ·rename_i hc;cases h;exact Szz (b:=true) hop hc
  ·rename_i hc;cases h;exact Szz (b:=false) hop hc
  ·cases h
 case alloc t=>
  split at h
  ·rename_i z hz
   split at h
   ·rename_i hc
    simp only[Bool.and_eq_true,decide_eq_true_eq]at hc
    cases h;exact Uz2 hop hz hc.1 hc.2
   ·cases h
  ·cases h
 case box t x=>
  split at h
  ·rename_i hc;cases h;exact Wz6 hop hc
  ·cases h
 case build t ps=>exact Uz3 hop h
 case buildSlice t n ps=>
  split at h
  ·rename_i out' ho';cases h;exact yz3 hop ho'
  ·exact Hzq hop h
 case load t a=>
  split at h
  ·rename_i out' ho';cases h;exact Uz8 hop ho' hob
  ·split at h
   ·rename_i out' ho';cases h;exact Uza hop ho' hob
   ·exact Vzg hop h hob
 case store t a v=>
  split at h
  ·rename_i out' ho';cases h;exact Sz8 hop ho' hob
  ·split at h
   ·rename_i out' ho';cases h;exact Mzs hop ho' hob
   ·split at h
    ·rename_i out' ho';cases h;exact Pzp hop ho' hob
    ·split at h
     ·rename_i out' ho';cases h;exact Sz7 hop ho'
     ·split at h
      ·rename_i out' ho';cases h;exact Sz6 hop ho' hob
      ·split at h
       ·rename_i out' ho';cases h;exact Sz5 hop ho' hob
       ·exact Hzs hop h hob
 case nilCheck x=>
  split at h<;>rename_i hx<;>first|(cases h;rw[←hx];exact Nzi hop (by rw[hx];trivial))|(cases h)
 case binOp op t x y t'=>
  split at h
  ·rename_i out' ho';cases h;exact Wz7 hop ho'
  split at h
  ·rename_i p q hp hq
   split at h
   ·rename_i r ob hr;cases h;exact Wz5 hop hp hq hr hob
   ·cases h
  ·cases h
 case unOp op t x=>
  split at h
  ·rename_i hx
   split at h
   ·cases h;exact Vzi (b:=true) hop hx
   ·cases h
  ·rename_i hx
   split at h
   ·cases h;exact Vzi (b:=false) hop hx
   ·cases h
  ·rename_i p hx
   split at h
   ·rename_i r hr;cases h;exact s_un hop hx hr
   ·cases h
  ·cases h
 case convert s d x=>
  split at h
  ·rename_i p hp
   split at h
   ·rename_i r hr
    split at h
    ·rename_i hs;cases h;exact Vze hop hs hp hr
    ·cases h
   ·cases h
  ·cases h
 case makeFunc fn a b=>
  split at h
  ·cases h;exact Nzh hop
  ·cases h
 case makeSlice t l c=>exact Czl hop h hob
 case makeMap t r=>
  split at h
  ·exact Pzn hop h
  ·cases h
 case lookup t x ix ok=>exact Rzy hop h hob
 case mapUpdate t x k v=>exact Czm (.inl hop) h
 case insert t x k v=>exact Czm (.inr hop) h
 case slice t x lo hi mx=>
  split at h
  ·rename_i out' ho';cases h;exact Sz0 hop ho' hob
  ·split at h
   ·rename_i out' ho';cases h;exact Rzz hop ho'
   ·split at h
    ·rename_i out' ho';cases h;exact Sz2 hop ho' hob
    split at h
    ·rename_i out' ho';cases h;exact Pzo hop ho' hob
    ·split at h
     ·rename_i out' ho';cases h;exact Sz1 hop ho' hob
     ·exact Uzc hop h hob
 case fieldAddr s x f=>exact Uz5 hop h
 case field s x f=>exact Rzw hop h
 case indexAddr t x i=>
  split at h
  ·rename_i out' ho';cases h;exact Kz4 hop ho' hob
  ·split at h
   ·rename_i out' ho';cases h;exact Kz6 hop ho' hob
   ·split at h
    ·rename_i out' ho';cases h;exact Kz2 hop ho' hob
    ·split at h
     ·rename_i out' ho';cases h;exact Kz5 hop ho' hob
     split at h
     ·rename_i out' ho';cases h;exact Kz3 hop ho' hob
     ·exact Lzr hop h hob
 case makeInterface t x=>exact Uz6 hop h
 case typeAssert x xt a ok=>exact Rzu hop h
 case index t x i=>exact Uz7 hop h hob
 case range t x=>
  split at h
  ·rename_i s hu hx
   cases h;exact Uzb hop hu hx
  ·cases h
 case extract x i=>
  split at h
  ·rename_i cs hx
   split at h
   ·rename_i v hv;cases h;exact Pzm hop hx hv
   ·cases h
  ·cases h
 case call c=>
  split at h
  ·rename_i b hb
   obtain⟨callee,args,ts⟩:=c
   simp only at hb h
   subst hb
   unfold tzr at h
   split at h
   ·split at h
    ·rename_i x hx
     have:args=#[x]:=by rw[←Array.toArray_toList (xs:=args),hx]
     subst this
     split at h
     ·rename_i out' ho';cases h;exact Vzf hop ho'
     ·exact Wz8 hop h
    ·cases h
   ·split at h
    ·rename_i d s hx
     have:args=#[d,s]:=by rw[←Array.toArray_toList (xs:=args),hx]
     subst this
     split at h
     ·rename_i hsz;exact Uz4 hop hsz h
     ·cases h
    ·cases h
   ·split at h
    ·rename_i s x hx
     have:args=#[s,x]:=by rw[←Array.toArray_toList (xs:=args),hx]
     subst this
     split at h
     ·rename_i hsz
      have hts:∀t,ts[0]?=some t->ts[1]?=some t->ts=#[t,t]:=fun t h0 h1=>by
       refine Array.ext (by simpa using hsz) fun i hi _=>?_
       have hi2:i<2:=by omega
       match i,hi2 with
       |0,_=>simpa[Array.getElem?_eq_getElem (show 0<ts.size by omega)]using h0
       |1,_=>simpa[Array.getElem?_eq_getElem (show 1<ts.size by omega)]using h1
      split at h
      ·rename_i out' ho';cases h;exact Pzl hop hts ho' hob
      ·split at h
       ·rename_i out' ho';cases h;exact Pzj hop hts ho' hob
       ·exact Mzq hop hts h hob
     ·cases h
    ·cases h
   ·split at h
    ·rename_i p hp;cases h;exact Mzr (mx:=false) rfl rfl hop hp
    ·cases h
   ·split at h
    ·rename_i p hp;cases h;exact Mzr (mx:=true) rfl rfl hop hp
    ·cases h
   ·cases h
  ·cases h
end Go.Abs
