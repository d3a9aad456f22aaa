/-
  SoundT (a part of a claim: our own text).
-/
import Derived.Test.YtkbjjlfpbebiaaaGreatDoorYKSoundR
namespace Go.Abs
variable {P:Program} {o:Oper} {env:Operand->AVal} {m:Mem} {id:Nat}
theorem Kz4 {t:TypeId}{x i:Operand}{out:Out}(ho:o.op=.indexAddr t x i)(h:pzy P t (env x) (env i) m=some out)(hob:holds out.obl):Sound1 P o env m id out:=by
 unfold pzy at h
 split at h
 ·rename_i k ik iv hx hi
  split at h
  ·rename_i sz n f e0 e' hh hk
   split at h
   ·rename_i e hu
    split at h
    ·rename_i hs
     simp at h;subst h
     obtain⟨h0,hn⟩:=hob
     refine Sound1.still fun F w ρ Mine M a hm hrd ha=>?_
     have hiv:=(hi▸ha i (by simp[ho,Op.operands])).pure_inv.int_inv
     have h1:=ha x (by simp[ho,Op.operands])
     rw[hx]at h1
     obtain⟨b,cap,c,hv',_⟩:=hm.ok k _ ((hrd k (by simp)).trans hk)
     generalize hu':a.eval x=u at h1
     cases h1 with
     |vnil hh=>rw[hh]at hv';cases hv'
     |vec hh=>
      rw[hh]at hv';cases hv'
      refine⟨.pointer (some ⟨b,iv.toNat * 1+0,none⟩),.value ?_,.eptr hh⟩
      simp only[execOp,ho,Instr.indexAt,Sem.run_bind,hiv,hu',asIntOf,Sem.run_pure,Result.andThen_ok,run_underlying hu]
      simp[h0,hn,cz2 hs,dzg]
    ·cases h
   ·cases h
  ·cases h
 ·cases h
theorem rz7 (x:Option (Nat×Nat×Nat)):(ez4 x).oneCell'=true:=by
 cases x with
 |none=>rfl
 |some x=>obtain⟨b,n,cap⟩:=x;rfl
theorem Uz8 {t:TypeId}{x:Operand}{out:Out}(ho:o.op=.load t x)(h:Lz1 P t id (env x) m=some out)(hob:holds out.obl):Sound1 P o env m id out:=by
 unfold Lz1 at h
 split at h
 ·rename_i j i hx
  split at h
  ·rename_i sz n f e e' hj
   split at h
   ·rename_i sz' n' gg hta hfi
    split at h
    ·rename_i hsz
     subst hsz
     cases h
     intro F w ρ Mine M a hm g fr hrd hfe ha
     have hlt:i<n:=hob
     have hM:=(hrd j (by simp)).trans hj
     have hax:=ha x (by simp[ho,Op.operands])
     rw[hx]at hax
     obtain⟨b,cap,c,q1,q2,q3,q4,q5,q6,q7,q8,q9⟩:=hm.ok j _ hM
     generalize hu:a.eval x=u at hax
     cases hax with
     |eptr hvec=>
      rw[hvec]at q1;cases q1
      obtain⟨v,v1,v2,v3⟩:=q7 i hlt
      obtain⟨y,n2,g2,p1,p2,p3⟩:=v3.resolve_left (by simp)
      rw[hfi]at p1;cases p1
      have hjn:¬Own id j:=fun hj'=>by rw[fr.none j hj']at hM;cases hM
      have hidj:id≠j:=fun e=>hjn (e▸⟨Nat.le_refl _,by omega⟩)
      have hy:(ρ.setVec id y).vec id=y:=if_pos rfl
      have hyj:(ρ.setVec id y).vec j=some (b,n,cap):=(if_neg (Ne.symm hidj)).trans hvec
      have hcell:w.cell? ⟨b,i * 1+0,none⟩=some v:=by rw[cell_of_row w b _ c e _ q2];simpa using v1
      have hinn:∀q b',Inn c n (some i) q b'->Inn c n none q b'/\q≠i:=fun q b' ⟨r1,r2,r3⟩=>⟨⟨r1,by simp,r3⟩,fun e=>r2 (by rw[e])⟩
      have hold:∀b',y.map (·.1)=some b'->Inn c n none i b':=by
       intro b' hb'
       obtain⟨z,rfl,rfl⟩:=Option.map_eq_some_iff.1 hb'
       obtain⟨z1,z2,z3⟩:=z
       exact⟨hlt,by simp,z2,z3,by rw[v1,p2];rfl⟩
      have hownj:∀b',Owns w (ρ.setVec id y) j (.vecT sz' n f e e' (some i)) b'->(b'=b\/∃q,Inn c n (some i) q b')/\Owns w ρ j (.vecT sz' n f e e' none) b':=by
       intro b' hb'
       rcases hb' with hb'|⟨b0,n0,cap0,c0,e0,q,r1,r2,r3⟩
       ·simp only[bzc,hyj,Option.map_some,Option.some.injEq]at hb'
        exact⟨.inl hb'.symm,.inl (by simp[bzc,hvec,hb'])⟩
       ·rw[hyj]at r1;cases r1
        rw[q2]at r2;cases r2
        exact⟨.inr ⟨q,r3⟩,.inr ⟨b,n,cap,c,e,q,hvec,q2,(hinn q b' r3).1⟩⟩
      have hownid:∀b',Owns w (ρ.setVec id y) id (.vec sz' n' gg 0 e') b'->Inn c n none i b'/\Owns w ρ j (.vecT sz' n f e e' none) b':=by
       intro b' hb'
       rw[owns_vec,hy]at hb'
       exact⟨hold b' hb',.inr ⟨b,n,cap,c,e,i,hvec,q2,hold b' hb'⟩⟩
      have hdist:∀b',Owns w (ρ.setVec id y) j (.vecT sz' n f e e' (some i)) b'->Owns w (ρ.setVec id y) id (.vec sz' n' gg 0 e') b'->False:=by
       intro b' h1 h2
       obtain⟨h2,_⟩:=hownid b' h2
       rcases(hownj b' h1).1 with rfl|⟨q,hq⟩
       ·exact q9 i h2
       ·obtain⟨hq,hne⟩:=hinn q b' hq
        exact hne (q8 q i b' hq h2)
      have hget:∀k r,Mem.get [(j,Res.vecT sz' n f e e' (some i)),(id,.vec sz' n' gg 0 e')] k=some r->(k=j/\r=.vecT sz' n f e e' (some i))\/(k=id/\r=.vec sz' n' gg 0 e'):=by
       intro k r hk
       simp only[Mem.get]at hk
       split at hk
       ·rename_i e1;subst e1;cases hk;exact .inl ⟨rfl,rfl⟩
       ·split at hk
        ·rename_i e1;subst e1;cases hk;exact .inr ⟨rfl,rfl⟩
        ·cases hk
      have hnone:∀k,Mem.get [(j,Res.vecT sz' n f e e' (some i)),(id,.vec sz' n' gg 0 e')] k=none->k≠j:=by
       intro k hk e1
       subst e1
       simp[Mem.get]at hk
      have notin:∀b',Owns w ρ j (.vecT sz' n f e e' none) b'->∀k r',M.get k=some r'->Mem.get [(j,Res.vecT sz' n f e e' (some i)),(id,.vec sz' n' gg 0 e')] k=none->¬Owns w ρ k r' b':=by
       intro b' hb' k r' hk hn hbk
       exact hnone k hn (hm.disj j k _ r' b' hM hk hb' hbk).symm
      refine⟨v,w,F,ρ.setVec id y,.value ?_,Step.refl g,cz4 ρ id y,?_,MemOk.step hm (Step.refl g) (fun i=>¬Own id i) (cz4 ρ id y) _ (fun k r h hn=>⟨fun hk=>(by rw[fr.none k hk]at h;cases h),fun i hi=>fr.has i k r (Classical.not_not.1 hi) h,fun b hb=>⟨rfl,fun _ h=>h⟩⟩) (fun k r h=>?_) (fun k k' r r' b' h h' hb hb'=>?_)⟩
      ·have hr:=iz2 (P:=P) hta hcell
       simp only[execOp,ho,Instr.loadAt,Instr.sureAddr,hu,Sem.run_bind,Sem.run_pure,Result.andThen_ok,hr]
      ·rw[p2]
       cases hyy:y with
       |none=>rw[hyy]at hy;exact .vnil (by rw[←hyy]at hy⊢;rw[hy,hyy])
       |some z=>
        obtain⟨z1,z2,z3⟩:=z
        exact .vec (by rw[←hyy];rw[hy,hyy])
      ·rcases hget k r h with⟨rfl,rfl⟩|⟨rfl,rfl⟩
       ·refine⟨⟨b,cap,c,hyj,q2,q3,q4,q5,q6,fun q hq=>?_,fun q q' b' r1 r2=>q8 q q' b' (hinn q b' r1).1 (hinn q' b' r2).1,fun q r1=>q9 q (hinn q b r1).1⟩,fun b' hb'=>?_⟩
        ·obtain⟨u,u1,u2,u3⟩:=q7 q hq
         exact⟨u,u1,u2,.inr (u3.resolve_left (by simp))⟩
        ·obtain⟨_,h2⟩:=hownj b' hb'
         exact⟨(hm.mine _ _ _ hM h2).1,(hm.mine _ _ _ hM h2).2,notin b' h2⟩
       ·refine⟨?_,fun b' hb'=>?_⟩
        ·show VecAt F w sz' n' gg 0 e' ((ρ.setVec k y).vec k)
         rw[hy];exact p3
        ·obtain⟨_,h2⟩:=hownid b' hb'
         exact⟨(hm.mine _ _ _ hM h2).1,(hm.mine _ _ _ hM h2).2,notin b' h2⟩
      ·rcases hget k r h with⟨rfl,rfl⟩|⟨rfl,rfl⟩<;>rcases hget k' r' h' with⟨rfl,rfl⟩|⟨rfl,rfl⟩
       ·rfl
       ·exact(hdist b' hb hb').elim
       ·exact(hdist b' hb' hb).elim
       ·rfl
    ·cases h
   ·cases h
  ·cases h
 ·cases h
theorem Sz8 {t:TypeId}{x y:Operand}{out:Out}(ho:o.op=.store t x y)(h:Gzp P t (env x) (env y) m=some out)(hob:holds out.obl):Sound1 P o env m id out:=by
 unfold Gzp at h
 split at h
 ·rename_i j i k hx hy
  split at h
  ·rename_i sz n f e e' i' sz' n' gg e'' hj hk
   split at h
   ·rename_i hc
    simp only[Bool.and_eq_true,decide_eq_true_eq]at hc
    obtain⟨⟨hs,rfl⟩,rfl⟩:=hc
    cases h
    obtain⟨hlt,rfl⟩:=hob
    intro F w ρ Mine M a hm g fr hrd hfe ha
    have hM:=(hrd j (by simp)).trans hj
    have hMk:=(hrd k (by simp)).trans hk
    have hax:=ha x (by simp[ho,Op.operands])
    have hay:=ha y (by simp[ho,Op.operands])
    rw[hx]at hax
    rw[hy]at hay
    have hjk:j≠k:=fun e=>by rw[e,hMk]at hM;cases hM
    obtain⟨b,cap,c,q1,q2,q3,q4,q5,q6,q7,q8,q9⟩:=hm.ok j _ hM
    have hkok:VecAt F w sz' n' gg 0 e'' (ρ.vec k):=hm.ok k _ hMk
    generalize hu:a.eval x=u at hax
    cases hax with
    |eptr hvec=>
     rw[hvec]at q1;cases q1
     have hv:a.eval y=ez4 (ρ.vec k):=by
      generalize a.eval y=vv at hay
      cases hay with
      |vnil hh=>rw[hh];rfl
      |vec hh=>rw[hh];rfl
     have hone:=rz7 (ρ.vec k)
     have hcells:(a.eval y).cells=#[ez4 (ρ.vec k)]:=by
      rw[hv]
      cases ρ.vec k with
      |none=>rfl
      |some z=>obtain⟨z1,z2,z3⟩:=z;rfl
     have hr:=jzg (P:=P) (off:=i * 1+0) (v:=a.eval y) hs (by rw[hcells];rfl) q2 (by omega) (by rw[hcells];simpa using hone)
     rw[hcells]at hr
     have hget:∀q,((c.toList.take (i * 1+0)++(#[ez4 (ρ.vec k)]:Array Value).toList++c.toList.drop (i * 1+0+(#[ez4 (ρ.vec k)]:Array Value).toList.length)).toArray)[q]?=if q=i then some (ez4 (ρ.vec k))else c[q]?:=by
      intro q
      rw[List.getElem?_toArray,ezc _ _ _ _ (by simp;omega)]
      by_cases hq:q=i
      ·subst hq;simp
      ·rw[if_neg hq,if_neg (by simp;omega)];simp
     generalize hc':(c.toList.take (i * 1+0)++(#[ez4 (ρ.vec k)]:Array Value).toList++c.toList.drop (i * 1+0+(#[ez4 (ρ.vec k)]:Array Value).toList.length)).toArray=c' at hr hget
     have hsz:c'.size=cap:=by
      rw[←hc',List.size_toArray,dz4 _ _ _ (by simp;omega)];simpa using q5
     have hbj:Owns w ρ j (.vecT sz' n f e e'' (some i)) b:=.inl (by simp[bzc,hvec])
     have hmine:=hm.mine j _ b hM hbj
     have st:Step Mine F w F (w.setRow b c'):=Step.write g q2 hmine.1 (fun o h=>absurd h (q6 o))
     have hheap:=setRow_heap w b c c' e _ q2
     have hkb:∀b',(ρ.vec k).map (·.1)=some b'->Owns w ρ k (.vec sz' n' gg 0 e'') b':=fun b' h=>owns_vec.2 h
     have hkne:∀b',(ρ.vec k).map (·.1)=some b'->b'≠b:=fun b' h e1=>hjk (hm.disj j k _ _ b' hM hMk (e1▸hbj) (hkb b' h))
     have hin:∀q b',Inn c' n none q b'->(q=i/\(ρ.vec k).map (·.1)=some b')\/(q≠i/\Inn c n (some i) q b'):=by
      intro q b' ⟨r1,_,n2,cap2,r3⟩
      rw[hget]at r3
      by_cases hq:q=i
      ·rw[if_pos hq]at r3
       refine .inl ⟨hq,?_⟩
       cases hz:ρ.vec k with
       |none=>rw[hz]at r3;simp[ez4]at r3
       |some z=>obtain⟨z1,z2,z3⟩:=z;rw[hz]at r3;simp[ez4]at r3;simp[r3.1]
      ·rw[if_neg hq]at r3
       exact .inr ⟨hq,r1,fun h=>hq (by simpa using h.symm),n2,cap2,r3⟩
     have hinj:∀q b',Inn c n (some i) q b'->Owns w ρ j (.vecT sz' n f e e'' (some i)) b':=fun q b' h=>.inr ⟨b,n,cap,c,e,q,hvec,q2,h⟩
     have hown:∀b',Owns (w.setRow b c') ρ j (.vecT sz' n (fun q=>if q=i then .lst sz' n' gg else f q) e e'' none) b'->Owns w ρ j (.vecT sz' n f e e'' (some i)) b'\/Owns w ρ k (.vec sz' n' gg 0 e'') b':=by
      intro b' hb'
      rcases hb' with hb'|⟨b0,n0,cap0,c0,e0,q,r1,r2,r3⟩
      ·exact .inl (.inl hb')
      ·rw[hvec]at r1;cases r1
       rw[hheap]at r2;cases r2
       rcases hin q b' r3 with⟨_,h⟩|⟨_,h⟩
       ·exact .inr (hkb b' h)
       ·exact .inl (hinj q b' h)
     have hgetM:∀kk r,Mem.get [(j,Res.vecT sz' n (fun q=>if q=i then .lst sz' n' gg else f q) e e'' none),(k,.gone)] kk=some r->(kk=j/\r=.vecT sz' n (fun q=>if q=i then .lst sz' n' gg else f q) e e'' none)\/(kk=k/\r=.gone):=by
      intro kk r hk
      simp only[Mem.get]at hk
      split at hk
      ·rename_i e1;subst e1;cases hk;exact .inl ⟨rfl,rfl⟩
      ·split at hk
       ·rename_i e1;subst e1;cases hk;exact .inr ⟨rfl,rfl⟩
       ·cases hk
     have hnone:∀kk,Mem.get [(j,Res.vecT sz' n (fun q=>if q=i then .lst sz' n' gg else f q) e e'' none),(k,.gone)] kk=none->kk≠j/\kk≠k:=by
      intro kk hk
      simp only[Mem.get]at hk
      split at hk
      ·cases hk
      ·split at hk
       ·cases hk
       ·rename_i a1 a2;exact⟨fun e=>a1 e.symm,fun e=>a2 e.symm⟩
     refine⟨undef,_,F,ρ,.inr ⟨by simp only[execOp,ho,Instr.storeAt,Instr.sureAddr,hu,Sem.run_bind,Sem.run_pure,Result.andThen_ok,hr],rfl⟩,st,fun _ _=>⟨rfl,rfl⟩,.any,MemOk.step hm st (fun _=>True) (fun _ _=>⟨rfl,rfl⟩) _ (fun kk r h hn=>⟨trivial,fun q hq=>absurd trivial hq,fun b' hb'=>⟨?_,fun _ h=>h⟩⟩) (fun kk r h=>?_) (fun kk kk' r r' b' h h' hb hb'=>?_)⟩
     ·refine setRow_other w b b' _ (fun e1=>?_)
      subst e1
      exact(hnone kk hn).1 (hm.disj j kk _ r _ hM h hbj hb').symm
     ·rcases hgetM kk r h with⟨rfl,rfl⟩|⟨rfl,rfl⟩
      ·refine⟨⟨b,cap,c',hvec,hheap,q3,q4,hsz,q6,fun q hq=>?_,fun q q' b' r1 r2=>?_,fun q r1=>?_⟩,fun b' hb'=>?_⟩
       ·rw[hget]
        by_cases hqi:q=i
        ·subst hqi
         refine⟨_,if_pos rfl,hone,.inr ⟨ρ.vec k,n',gg,by simp,rfl,hkok.mono st.sub st.cell fun b' m' cap' hx'=>⟨setRow_other w b b' _ (hkne b' (by simp[hx'])),fun _ h=>h⟩⟩⟩
        ·rw[if_neg hqi]
         obtain⟨u,u1,u2,u3⟩:=q7 q hq
         obtain⟨z,n2,g2,p1,p2,p3⟩:=u3.resolve_left (fun h=>hqi (by simpa using h.symm))
         refine⟨u,u1,u2,.inr ⟨z,n2,g2,by simp[hqi,p1],p2,p3.mono st.sub st.cell fun b' m' cap' hx'=>⟨setRow_other w b b' _ (fun e1=>?_),fun _ h=>h⟩⟩⟩
         subst hx'
         exact q9 q ⟨hq,fun h=>hqi (by simpa using h.symm),m',cap',by rw[u1,p2,e1];rfl⟩
       ·rcases hin q b' r1 with⟨e1,h1⟩|⟨e1,h1⟩<;>rcases hin q' b' r2 with⟨e2,h2⟩|⟨e2,h2⟩
        ·rw[e1,e2]
        ·exact(hjk (hm.disj _ _ _ _ b' hM hMk (hinj q' b' h2) (hkb b' h1))).elim
        ·exact(hjk (hm.disj _ _ _ _ b' hM hMk (hinj q b' h1) (hkb b' h2))).elim
        ·exact q8 q q' b' h1 h2
       ·rcases hin q b r1 with⟨_,h1⟩|⟨_,h1⟩
        ·exact hkne b h1 rfl
        ·exact q9 q h1
       ·rcases hown b' hb' with h1|h1
        ·obtain⟨m1,m2⟩:=hm.mine _ _ b' hM h1
         exact⟨m1,by simpa using m2,fun q r' hq hn hbq=>(hnone q hn).1 (hm.disj _ q _ r' b' hM hq h1 hbq).symm⟩
        ·obtain⟨m1,m2⟩:=hm.mine _ _ b' hMk h1
         exact⟨m1,by simpa using m2,fun q r' hq hn hbq=>(hnone q hn).2 (hm.disj _ q _ r' b' hMk hq h1 hbq).symm⟩
      ·exact⟨trivial,fun b' hb'=>by simp[Owns,hzm,bzc]at hb'⟩
     ·rcases hgetM kk r h with⟨rfl,rfl⟩|⟨rfl,rfl⟩
      ·rcases hgetM kk' r' h' with⟨rfl,rfl⟩|⟨rfl,rfl⟩
       ·rfl
       ·simp[Owns,hzm,bzc]at hb'
      ·simp[Owns,hzm,bzc]at hb
   ·cases h
  ·cases h
 ·cases h
theorem Kz2 {t:TypeId}{x i:Operand}{out:Out}(ho:o.op=.indexAddr t x i)(h:pzw P t (env x) (env i)=some out)(hob:holds out.obl):Sound1 P o env m id out:=by
 unfold pzw at h
 split at h
 ·rename_i k n ik iv hx hi
  split at h
  ·rename_i e hu
   split at h
   ·rename_i hs
    simp at h;subst h
    obtain⟨h0,hn⟩:=hob
    refine Sound1.still fun F w ρ Mine M a hm hrd ha=>?_
    have hiv:=(hi▸ha i (by simp[ho,Op.operands])).pure_inv.int_inv
    have h1:=ha x (by simp[ho,Op.operands])
    rw[hx]at h1
    generalize hu':a.eval x=u at h1
    cases h1 with
    |bsl=>
     refine⟨.pointer (some ⟨ρ.blk k,iv.toNat,none⟩),.value ?_,.ptr⟩
     simp only[execOp,ho,Instr.indexAt,Sem.run_bind,hiv,hu',asIntOf,Sem.run_pure,Result.andThen_ok,run_underlying hu]
     simp[h0,hn,cz2 hs,dzg]
   ·cases h
  ·cases h
 ·cases h
theorem Uz6 {t:TypeId}{x:Operand}{out:Out}(ho:o.op=.makeInterface t x)(h:Kzy P t (env x)=some out):Sound1 P o env m id out:=by
 unfold Kzy at h
 split at h
 ·rename_i d hu
  split at h
  ·cases h
  ·rename_i hd
   cases h
   refine Sound1.still fun F w ρ Mine M a hm hrd ha=>⟨.iface t (a.eval x),.value ?_,.iface (ha x (by simp[ho,Op.operands]))⟩
   simp only[execOp,ho,Instr.makeInterface,Sem.run_bind,run_underlying hu,Result.andThen_ok]
   cases d<;>first|(simp only[Sem.run_pure,Result.andThen_ok];done)|skip
   exact absurd rfl hd
 ·cases h
theorem Rzu {x:Operand}{xt asserted:TypeId}{ok:Bool}{out:Out}(ho:o.op=.typeAssert x xt asserted ok)(h:Gze P (env x) asserted ok=some out):Sound1 P o env m id out:=by
 unfold Gze at h
 split at h
 ·rename_i t r d hx hu
  split at h
  ·cases h
  ·rename_i hd
   have run:∀ {a:Act} {w:World} {v u:Value},a.eval x=.iface t v->
    (if t=asserted then(pure (if ok=true then .tuple #[v,.bool true]else v):Sem Value)else(if ok=true then do pure (.tuple #[←zeroValue asserted,.bool false])else runtimePanic (.typeAssertion (some xt) (some t) asserted ""))).run P w=.ok u w->Ran P o a w u w:=by
    intro a w v u hv hr
    refine .value ?_
    simp only[execOp,ho,Instr.typeAssert,Sem.run_bind,run_underlying hu,Result.andThen_ok,hv]
    cases d<;>first|exact absurd rfl hd|(simp only[hr,Result.andThen_ok,Sem.run_pure])
   split at h
   ·rename_i he
    cases h
    refine Sound1.still fun F w ρ Mine M a hm hrd ha=>?_
    have h1:=ha x (by simp[ho,Op.operands])
    rw[hx]at h1
    generalize hu':a.eval x=u at h1
    cases h1 with
    |iface hr=>
     rename_i v
     cases ok with
     |true=>
      refine⟨.tuple #[v,.bool true],run hu' (by rw[if_pos he];rfl),.tup rfl fun j b u hb hu=>?_⟩
      match j with
      |0=>simp at hb hu;subst hb;subst hu;exact hr
      |1=>simp at hb hu;subst hb;subst hu;exact .tt
      |j+2=>simp at hb
     |false=>exact⟨v,run hu' (by rw[if_pos he];rfl),hr⟩
   ·rename_i he
    split at h
    ·rename_i hok
     split at h
     ·rename_i i hi
      split at h
      ·rename_i z hz
       cases h
       subst hok
       refine Sound1.still fun F w ρ Mine M a hm hrd ha=>?_
       have h1:=ha x (by simp[ho,Op.operands])
       rw[hx]at h1
       generalize hu':a.eval x=u at h1
       cases h1 with
       |iface hr=>
        refine⟨.tuple #[z,.bool false],run hu' ?_,.tup rfl fun j b u hb hu=>?_⟩
        ·rw[if_neg he,if_pos rfl]
         simp[zeroValue,typeInfo,hi,hz]
        ·match j with
         |0=>simp at hb hu;subst hb;subst hu;exact wzb z
         |1=>simp at hb hu;subst hb;subst hu;exact .ff
         |j+2=>simp at hb
      ·cases h
     ·cases h
    ·cases h
 ·cases h
theorem Hzq {t:TypeId}{len:Nat}{parts:Array (Nat×Operand)}{out:Out}(ho:o.op=.buildSlice t len parts)(h:nzs P t len id env parts.toList=some out):Sound1 P o env m id out:=by
 unfold nzs at h
 split at h
 ·rename_i e hu
  split at h
  ·rename_i zl l hs hzl hl
   split at h
   ·rename_i hc
    simp only[Bool.and_eq_true,decide_eq_true_eq]at hc
    obtain⟨⟨hlen,hall⟩,hbig⟩:=hc
    cases h
    intro F w ρ Mine M a hm g fr hrd hfe ha
    have hop:∀x∈parts.toList,x.2∈o.op.operands:=fun x hx=>by
     simp only[ho,Op.operands,List.mem_toArray,List.mem_map]
     exact⟨x,hx,rfl⟩
    obtain⟨e1,e2⟩:=qz8 (a:=a) parts.toList 0 l hl
    have hpl:parts.toList.length=len:=by rw[←hlen,e2];simp
    have hone:∀ (i:Nat) (b:AVal) (v:Value),l[i]?=some b->(parts.toList.map fun x=>a.eval x.2)[i]?=some v->ARel F w ρ b v/\v.oneCell'=true/\v.cells=#[v]:=by
     intro i b v hb hv
     rw[e2]at hb
     simp only[List.getElem?_map,Option.map_eq_some_iff]at hb hv
     obtain⟨x,hx,rfl⟩:=hb
     obtain⟨x',hx',rfl⟩:=hv
     rw[hx]at hx';cases hx'
     have hr:=ha x.2 (hop x (List.mem_of_getElem? hx))
     have hsc:(env x.2).scalar=true:=List.all_eq_true.1 hall _ (by rw[e2];exact List.mem_map.2 ⟨x,List.mem_of_getElem? hx,rfl⟩)
     have h1:=hr.one hsc
     exact⟨hr,h1,by generalize a.eval x.2=u at h1;cases u<;>simp_all [Value.cells,Value.oneCell']⟩
    have hin:∀v∈(parts.toList.map fun x=>a.eval x.2),v.oneCell'=true/\v.cells=#[v]:=by
     intro v hv
     obtain⟨i,hi⟩:=List.getElem?_of_mem hv
     have hlt:i<l.length:=by have:=(List.getElem?_eq_some_iff.1 hi).1;simp at this hpl;omega
     exact(hone i l[i] v (by simp[hlt]) hi).2
    obtain⟨zv,hzv,_⟩:=rz6 (P:=P) (w:=w) hzl
    obtain⟨z,hz⟩:∃z:Array Value,z=if len * 1=0 then #[]else zv.cells:=⟨_,rfl⟩
    obtain⟨A,f1,f2,f3,f4⟩:=rz3 1 (parts.toList.map fun x=>a.eval x.2) 0 ((Array.range (len * 1)).map (z[· % z.size]!)) (fun v hv=>by rw[(hin v hv).2];rfl) (by simp[hpl])
    have hA:A.size=len:=by rw[f2];simp
    obtain⟨F',ρ',st,he,hb,hm'⟩:=Jzh hm g fr e A l [] (by simp[Mem.get]) (by omega) (fun F' w' ρ' hF hw he _ j y v hy hv=>by
     have hlt:j<(parts.toList.map fun x=>a.eval x.2).length:=by have:=(List.getElem?_eq_some_iff.1 hy).1;simp at hpl⊢;omega
     have hvj:(parts.toList.map fun x=>a.eval x.2)[j]?=some (parts.toList.map fun x=>a.eval x.2)[j]:=List.getElem?_eq_getElem hlt
     obtain⟨r1,r2,r3⟩:=hone j y _ hy hvj
     have hAj:=f4 j _ hvj 0 (by omega)
     rw[r3]at hAj
     simp only[Nat.zero_add,Nat.mul_one,Nat.add_zero]at hAj
     rw[hv]at hAj
     simp at hAj
     have hAj':v=(parts.toList.map fun x=>a.eval x.2)[j]:=by simpa using hAj
     rw[hAj']
     refine⟨r1.mono (fun i=>¬Own id i) hF hw he (fun i hi=>?_),r2⟩
     rw[e2]at hy
     simp only[List.getElem?_map,Option.map_eq_some_iff]at hy
     obtain⟨x,hx,rfl⟩:=hy
     exact hfe x.2 (hop x (List.mem_of_getElem? hx)) i (Classical.not_not.1 hi))
    refine⟨.slice (some ⟨w.heap.size,0,none⟩) len len,w.alloc (.cells A e),F',ρ',.value ?_,st,he,?_,by simpa using hm'⟩
    ·simp only[execOp,ho,Instr.buildSlice,Sem.run_bind,run_underlying hu,Result.andThen_ok,cz2 hs]
     rw[if_neg (by omega)]
     have f1':Instr.fill (fun i=>some (i * 1,1)) ((Array.range (len * 1)).map (z[· % z.size]!)) (parts.toList.map fun x=>(x.1,a.eval x.2))=some A:=by rw[e1];exact f1
     by_cases h0:len * 1=0
     ·rw[if_pos h0]at hz⊢
      subst hz
      simp only[Sem.run_bind,Sem.run_pure,Result.andThen_ok,Array.toList_map]
      simp only[f1',newRow,Sem.run_bind,run_newObj,Result.andThen_ok,Sem.run_pure]
      rfl
     ·rw[if_neg h0]at hz⊢
      subst hz
      simp only[Sem.run_bind,hzv,Sem.run_pure,Result.andThen_ok,Array.toList_map]
      simp only[f1',newRow,Sem.run_bind,run_newObj,Result.andThen_ok,Sem.run_pure]
      rfl
    ·rw[←hb];exact .bsl
   ·cases h
  ·cases h
 ·cases h
theorem Kz6 {t:TypeId}{x i:Operand}{out:Out}(ho:o.op=.indexAddr t x i)(h:qz0 P t (env x) (env i) m=some out)(hob:holds out.obl):Sound1 P o env m id out:=by
 unfold qz0 at h
 split at h
 ·rename_i k ik iv hx hi
  split at h
  ·rename_i sz n f e0 hh off k' hk
   split at h
   ·rename_i e hu
    split at h
    ·rename_i hs
     simp at h;subst h
     obtain⟨h0,hn⟩:=hob
     refine Sound1.still fun F w ρ Mine M a hm hrd ha=>?_
     have hiv:=(hi▸ha i (by simp[ho,Op.operands])).pure_inv.int_inv
     have h1:=ha x (by simp[ho,Op.operands])
     rw[hx]at h1
     obtain⟨_,b,cap,c,hv',_⟩:=hm.ok k _ ((hrd k (by simp)).trans hk)
     generalize hu':a.eval x=u at h1
     cases h1 with
     |vnil hh=>rw[hh]at hv';cases hv'
     |vec hh=>
      rw[hh]at hv';cases hv'
      refine⟨.pointer (some ⟨b,iv.toNat * sz+0,none⟩),.value ?_,.eptr hh⟩
      simp only[execOp,ho,Instr.indexAt,Sem.run_bind,hiv,hu',asIntOf,Sem.run_pure,Result.andThen_ok,run_underlying hu]
      simp[h0,hn,cz2 hs,dzg]
    ·cases h
   ·cases h
  ·rename_i sz n f kk0 e0 off s' e' hs0 hk
   split at h
   ·rename_i e hu
    split at h
    ·rename_i hs
     simp at h;subst h
     obtain⟨h0,hn⟩:=hob
     refine Sound1.still fun F w ρ Mine M a hm hrd ha=>?_
     have hiv:=(hi▸ha i (by simp[ho,Op.operands])).pure_inv.int_inv
     have h1:=ha x (by simp[ho,Op.operands])
     rw[hx]at h1
     obtain⟨_,_,⟨_,h00,_⟩|⟨b,cap,c,hv',_⟩⟩:=hm.ok k _ ((hrd k (by simp)).trans hk)
     ·subst h00;omega
     generalize hu':a.eval x=u at h1
     cases h1 with
     |vnil hh=>rw[hh]at hv';cases hv'
     |vec hh=>
      rw[hh]at hv';cases hv'
      refine⟨.pointer (some ⟨b,iv.toNat * sz+0,none⟩),.value ?_,.eptr hh⟩
      simp only[execOp,ho,Instr.indexAt,Sem.run_bind,hiv,hu',asIntOf,Sem.run_pure,Result.andThen_ok,run_underlying hu]
      simp[h0,hn,cz2 hs,dzg]
    ·cases h
   ·cases h
  ·cases h
 ·cases h
theorem rz8 {F:Cells}{w:World}{ρ:Env}(k:Nat):ARel F w ρ (.vec k) (ez4 (ρ.vec k)):=by
 cases h:ρ.vec k with
 |none=>exact .vnil h
 |some z=>obtain⟨z1,z2,z3⟩:=z;exact .vec h
theorem Dz1 {F:Cells}{w:World}{ρ:Env}{k:Nat}{v:Value}(h:ARel F w ρ (.vec k) v):v=ez4 (ρ.vec k):=by
 cases h with
 |vnil hh=>rw[hh];rfl
 |vec hh=>rw[hh];rfl
theorem Uza {t:TypeId}{x:Operand}{out:Out}(ho:o.op=.load t x)(h:Lz3 P t (env x) m=some out)(hob:holds out.obl):Sound1 P o env m id out:=by
 unfold Lz3 at h
 split at h
 ·rename_i j sz i off hx
  split at h
  ·rename_i sz' n f e hh off' k hj
   split at h
   ·rename_i hc
    simp only[Bool.and_eq_true,decide_eq_true_eq]at hc
    obtain⟨⟨⟨hta,rfl⟩,rfl⟩,_⟩:=hc
    cases h
    obtain rfl:i=hh:=hob
    refine Sound1.still fun F w ρ Mine M a hm hrd ha=>?_
    have hax:=ha x (by simp[ho,Op.operands])
    rw[hx]at hax
    obtain⟨_,b,cap,c,q1,q2,q3,q4,q6,q5⟩:=hm.ok j _ ((hrd j (by simp)).trans hj)
    generalize hu:a.eval x=u at hax
    cases hax with
    |eptr hvec=>
     rw[hvec]at q1;cases q1
     have hcell:w.cell? ⟨b,i * sz+off,none⟩=some (ez4 (ρ.vec k)):=by rw[cell_of_row w b _ c e _ q2];exact q5
     have hr:=iz2 (P:=P) hta hcell
     exact⟨_,.value (by simp only[execOp,ho,Instr.loadAt,Instr.sureAddr,hu,Sem.run_bind,Sem.run_pure,Result.andThen_ok,hr]),rz8 k⟩
   ·cases h
  ·cases h
 ·cases h
theorem MemOk.setX {F:Cells}{w:World}{ρ:Env}{Mine:Nat->Prop}{M:Mem}{j sz n hh off k:Nat}{f:Nat->PVal}{e:TypeId}(hm:MemOk F w ρ Mine ([(j,.vec sz n (czx f hh off .unk) 0 e)]++M))
 (hx:∃b cap c,ρ.vec j=some (b,n,cap)/\w.heap[b]?=some (.cells c e (0,0))/\hh<n/\off<sz/\(f hh).cells.length=sz/\c[hh * sz+off]?=some (ez4 (ρ.vec k))):
 MemOk F w ρ Mine ([(j,.vecX sz n f e hh off k)]++M):=by
 have hj:Mem.get ([(j,Res.vec sz n (czx f hh off .unk) 0 e)]++M) j=some (.vec sz n (czx f hh off .unk) 0 e):=by simp[Mem.get]
 have hget:∀i r,Mem.get ([(j,Res.vecX sz n f e hh off k)]++M) i=some r->(i=j/\r=.vecX sz n f e hh off k)\/Mem.get ([(j,Res.vec sz n (czx f hh off .unk) 0 e)]++M) i=some r:=by
  intro i r h
  simp only[List.cons_append,List.nil_append,Mem.get]at h⊢
  split at h
  ·rename_i e1;cases h;exact .inl ⟨e1.symm,rfl⟩
  ·rename_i e1;rw[if_neg e1];exact .inr h
 have hown:∀i r,Mem.get ([(j,Res.vecX sz n f e hh off k)]++M) i=some r->∃r',Mem.get ([(j,Res.vec sz n (czx f hh off .unk) 0 e)]++M) i=some r'/\∀b,Owns w ρ i r b->Owns w ρ i r' b:=by
  intro i r h
  rcases hget i r h with⟨rfl,rfl⟩|h
  ·exact⟨_,hj,fun b hb=>hb⟩
  ·exact⟨r,h,fun b hb=>hb⟩
 refine⟨fun i r h=>?_,fun i r b h hb=>?_,fun i i' r r' b h h' hb hb'=>?_⟩
 ·rcases hget i r h with⟨rfl,rfl⟩|h
  ·exact⟨hm.ok _ _ hj,hx⟩
  ·exact hm.ok _ _ h
 ·obtain⟨r',q1,q2⟩:=hown i r h;exact hm.mine _ _ _ q1 (q2 b hb)
 ·obtain⟨r1,q1,q2⟩:=hown i r h
  obtain⟨r2,q3,q4⟩:=hown i' r' h'
  exact hm.disj _ _ _ _ b q1 q3 (q2 b hb) (q4 b hb')
theorem Mzs {t:TypeId}{x y:Operand}{out:Out}(ho:o.op=.store t x y)(h:tzt P t (env x) (env y) m=some out)(hob:holds out.obl):Sound1 P o env m id out:=by
 unfold tzt at h
 split at h
 ·rename_i j sz hh off k hx hy
  split at h
  ·rename_i sz' n f sh e sz2 n2 f2 sh2 e2 hj hk
   split at h
   ·rename_i hc
    simp only[Bool.and_eq_true,decide_eq_true_eq,bne_iff_ne,ne_eq]at hc
    obtain⟨⟨⟨⟨hs,rfl⟩,hoff⟩,hjk⟩,rfl⟩:=hc
    cases h
    have hlt:hh<n:=hob
    classical
    obtain⟨env',he'⟩:∃env':Operand->AVal,env'=fun z=>if z=y then .pure .unk else env z:=⟨_,rfl⟩
    have hey:env' y=.pure .unk:=by rw[he'];simp
    have hxy:x≠y:=fun e1=>by rw[e1,hy]at hx;cases hx
    have hex:env' x=.eptr j sz hh off:=by rw[he'];simp[hxy,hx]
    have hel:(f hh).cells.length=sz->(nza (f hh) ((f hh).cells.take off++[.unk]++(f hh).cells.drop (off+1))).cells=(f hh).cells.take off++[.unk]++(f hh).cells.drop (off+1):=fun _=>by
     have hnl:((f hh).cells.take off++[PVal.unk]++(f hh).cells.drop (off+1)).length=(f hh).cells.length:=by
      have:=dz4 (f hh).cells [PVal.unk] off (by simpa using hoff)
      simpa using this
     refine jze hnl.symm (fun hsc=>?_)
     have h1:=PVal.cells_scalar hsc
     rw[h1]at hoff⊢
     obtain rfl:off=0:=by simp at hoff;omega
     simp[PVal.scalar]
    have key:=Dz3 (P:=P) (id:=id) (env:=env') (m:=m) (ob:=none) (i:=j) (sz:=sz) (k:=hh) (off:=off) (s:=1) (n:=n) (sh:=0) (f:=f) (e:=e) (ps:=[.unk]) (el:=nza (f hh) ((f hh).cells.take off++[.unk]++(f hh).cells.drop (off+1)))
     ho hs (by rw[hey];rfl) hex hj (by rw[hey];rfl) (by simp[PVal.scalar]) (fun _=>hoff) hel hlt (Nat.zero_le _)
    intro F w ρ Mine M a hm g fr hrd hfe ha
    have hay:=hy▸ha y (by simp[ho,Op.operands])
    have hax:=hx▸ha x (by simp[ho,Op.operands])
    have hv:=Dz1 hay
    have hone:(a.eval y).oneCell'=true:=by rw[hv];exact rz7 _
    have hM:=(hrd j (by simp)).trans hj
    have hMk:=(hrd k (by simp)).trans hk
    obtain⟨v,w',F',ρ',k1,k2,k3,k4,k5⟩:=key F w ρ Mine M a hm g fr (fun i hi=>hrd i (by simp at hi;simp[hi])) (fun z hz i hi=>by
     rw[he']
     by_cases e1:z=y
     ·simp[e1,AVal.has]
     ·simp only[if_neg e1];exact hfe z hz i hi) (fun z hz=>by
     rw[he']
     by_cases e1:z=y
     ·subst e1;simp only[if_true];exact .pure (.unk hone)
     ·simp only[if_neg e1];exact ha z hz)
    have nown:∀q r,M.get q=some r->¬Own id q:=fun q r hq ho=>by rw[fr.none q ho]at hq;cases hq
    have hvj:ρ'.vec j=ρ.vec j:=(k3 j (nown j _ hM)).2
    have hvk:ρ'.vec k=ρ.vec k:=(k3 k (nown k _ hMk)).2
    obtain⟨_,hok⟩:=hm.ok j _ hM
    rcases hok with⟨_,hn0⟩|⟨b,cap,c,q1,q2,q3,q4,q5,q6,q7,q8⟩
    ·omega
    ·generalize hu:a.eval x=u at hax
     cases hax with
     |eptr hvec=>
      rw[hvec]at q1;cases q1
      have hcells:(a.eval y).cells=#[a.eval y]:=by generalize a.eval y=z at hone;cases z<;>simp_all [Value.cells,Value.oneCell']
      have hfl:=q7 hh hlt
      have hle:hh * sz+off<c.size:=by rw[q5];exact Nat.lt_of_lt_of_le (jzu hlt (by omega)) (Nat.mul_le_mul_right _ q3)
      have hr:=jzg (P:=P) (off:=hh * sz+off) (v:=a.eval y) hs (by rw[hcells];rfl) q2 (by omega) (by rw[hcells];simpa using hone)
      have hrun:(execOp a.eval o).run P w=.ok .skip (w.setRow b (c.toList.take (hh * sz+off)++(a.eval y).cells.toList++c.toList.drop (hh * sz+off+(a.eval y).cells.toList.length)).toArray):=by
       simp only[execOp,ho,Instr.storeAt,Instr.sureAddr,hu,Sem.run_bind,Sem.run_pure,Result.andThen_ok,hr]
      have hw:w'=w.setRow b (c.toList.take (hh * sz+off)++(a.eval y).cells.toList++c.toList.drop (hh * sz+off+(a.eval y).cells.toList.length)).toArray:=by
       rcases k1 with k1|⟨k1,_⟩
       ·rw[hrun]at k1;cases k1
       ·rw[hrun]at k1;cases k1;rfl
      refine⟨v,w',F',ρ',k1,k2,k3,k4,MemOk.setX k5 ⟨b,cap,_,by rw[hvj];exact hvec,by rw[hw];exact setRow_heap w b c _ e _ q2,hlt,by omega,hfl,?_⟩⟩
      rw[hvk,hcells,List.getElem?_toArray,ezc _ _ _ _ (by simp;omega)]
      rw[if_pos (by simp)]
      simp[hv]
   ·cases h
  ·cases h
 ·cases h
theorem MemOk.closeX {F:Cells}{w:World}{ρ:Env}{Mine:Nat->Prop}{M:Mem}(hm:MemOk F w ρ Mine M)(g:Good F w Mine){j sz n hh off k sz' n' sh':Nat}{f gg:Nat->PVal}{e e':TypeId}
 (hj:M.get j=some (.vecX sz n f e hh off k)) (hk:M.get k=some (.vec sz' n' gg sh' e')):
 ∃F',Step Mine F w F' w/\MemOk F' w ρ Mine ((j,.vec sz n (czx f hh off (.lst sz' n' gg)) 0 e)::((k,.vec sz' n' gg n' e')::M)):=by
 have hjk:j≠k:=fun e1=>by rw[e1,hk]at hj;cases hj
 obtain⟨st,hm1⟩:=iz4 (m:=M) hm g (is:=[k]) (fun _ _=>rfl)
 have hsh:bz6 M [k]=[(k,.vec sz' n' gg n' e')]:=by simp[bz6,hk]
 rw[hsh]at hm1
 refine⟨_,st,?_⟩
 have hp:=fze (m:=M) hm g (a:=.vec k) (p:=.lst sz' n' gg) (is:=[k]) (js:=[k]) (by simp[kzb,Ezu,hk]) (fun _ h=>h) (fun _ _=>rfl) (rz8 k)
 have hj1:Mem.get ([(k,Res.vec sz' n' gg n' e')]++M) j=some (.vecX sz n f e hh off k):=by simp[Mem.get,Ne.symm hjk,hj]
 obtain⟨h0,b,cap,c,q1,q2,q3,q4,q6,q5⟩:=hm1.ok j _ hj1
 have hget:∀i r,Mem.get ((j,Res.vec sz n (czx f hh off (.lst sz' n' gg)) 0 e)::((k,.vec sz' n' gg n' e')::M)) i=some r->(i=j/\r=.vec sz n (czx f hh off (.lst sz' n' gg)) 0 e)\/Mem.get ([(k,Res.vec sz' n' gg n' e')]++M) i=some r:=by
  intro i r h
  rw[Mem.get]at h
  split at h
  ·rename_i e1;cases h;exact .inl ⟨e1.symm,rfl⟩
  ·exact .inr h
 have hown:∀i r,Mem.get ((j,Res.vec sz n (czx f hh off (.lst sz' n' gg)) 0 e)::((k,.vec sz' n' gg n' e')::M)) i=some r->∃r',Mem.get ([(k,Res.vec sz' n' gg n' e')]++M) i=some r'/\∀b,Owns w ρ i r b->Owns w ρ i r' b:=by
  intro i r h
  rcases hget i r h with⟨rfl,rfl⟩|h
  ·exact⟨_,hj1,fun b hb=>hb⟩
  ·exact⟨r,h,fun b hb=>hb⟩
 have hcells:∀p:PVal,p.scalar=true->(nza (f hh) ((f hh).cells.take off++[p]++(f hh).cells.drop (off+1))).cells=(f hh).cells.take off++[p]++(f hh).cells.drop (off+1):=fun p hps=>by
  have hnl:((f hh).cells.take off++[p]++(f hh).cells.drop (off+1)).length=(f hh).cells.length:=by
   have:=dz4 (f hh).cells [p] off (by simp;omega)
   simpa using this
  refine jze hnl.symm (fun hsc=>?_)
  have h1:=PVal.cells_scalar hsc
  rw[h1]at q6⊢
  obtain rfl:off=0:=by simp at q6;omega
  simp[hps]
 refine⟨fun i r h=>?_,fun i r b h hb=>?_,fun i i' r r' b h h' hb hb'=>?_⟩
 ·rcases hget i r h with⟨rfl,rfl⟩|h
  ·obtain⟨_,h0⟩:=h0
   refine⟨Nat.zero_le _,.inr ?_⟩
   rcases h0 with⟨hn,_⟩|⟨b',cap',c',r1,r2,r3,r4,r5,r6,r7,r8⟩
   ·rw[hn]at q1;cases q1
   ·rw[r1]at q1;cases q1
    rw[r2]at q2;cases q2
    refine⟨_,_,_,r1,r2,r3,r4,r5,r6,fun q hq=>?_,fun q jj p hq hpj=>?_⟩
    ·have:=r7 q hq
     simp only[czx]at this⊢
     by_cases e1:q=hh
     ·rw[if_pos e1]at this⊢
      rw[hcells _ rfl]at this⊢
      simpa using this
     ·rw[if_neg e1]at this⊢;exact this
    ·by_cases e1:q=hh
     ·subst e1
      simp only[czx,if_true,hcells _ (show(PVal.lst sz' n' gg).scalar=true from rfl)]at hpj
      have hog:=ezc (f q).cells [PVal.lst sz' n' gg] off jj (by simp;omega)
      simp only[List.length_singleton]at hog
      rw[hog]at hpj
      by_cases hin:off≤jj/\jj<off+1
      ·rw[if_pos hin]at hpj
       obtain rfl:jj=off:=by omega
       simp at hpj;subst hpj
       exact⟨_,q5,rz7 _,hp⟩
      ·rw[if_neg hin]at hpj
       refine r8 q jj p hq ?_
       simp only[czx,if_true,hcells _ (show PVal.unk.scalar=true from rfl)]
       have hog:=ezc (f q).cells [PVal.unk] off jj (by simp;omega)
       simp only[List.length_singleton]at hog
       rw[hog,if_neg hin];exact hpj
     ·refine r8 q jj p hq ?_
      simp only[czx,if_neg e1]at hpj⊢;exact hpj
  ·exact hm1.ok _ _ h
 ·obtain⟨r',q1,q2⟩:=hown i r h;exact hm1.mine _ _ _ q1 (q2 b hb)
 ·obtain⟨r1,q1,q2⟩:=hown i r h
  obtain⟨r2,q3,q4⟩:=hown i' r' h'
  exact hm1.disj _ _ _ _ b q1 q3 (q2 b hb) (q4 b hb')
theorem Sz7 {t:TypeId}{x y:Operand}{out:Out}(ho:o.op=.store t x y)(h:Gzo P t (env x) (env y) m=some out):Sound1 P o env m id out:=by
 unfold Gzo at h
 split at h
 ·rename_i j off k hx hy
  split at h
  ·rename_i cs sz n f sh e hj hk
   split at h
   ·rename_i hcell
    split at h
    ·rename_i hc
     simp only[Bool.and_eq_true,decide_eq_true_eq,bne_iff_ne,ne_eq]at hc
     obtain⟨⟨hs,_⟩,hjk⟩:=hc
     cases h
     have hoff:off+1≤cs.length:=(List.getElem?_eq_some_iff.1 hcell).1
     classical
     obtain⟨env',he'⟩:∃env':Operand->AVal,env'=fun z=>if z=y then .pure (.lst sz n f)else env z:=⟨_,rfl⟩
     have hey:env' y=.pure (.lst sz n f):=by rw[he'];simp
     have hxy:x≠y:=fun e1=>by rw[e1,hy]at hx;cases hx
     have hex:env' x=.ptr j off:=by rw[he'];simp[hxy,hx]
     have hsh:bz6 m [k]=[(k,.vec sz n f n e)]:=by simp[bz6,hk]
     have hj':Mem.get ([(k,Res.vec sz n f n e)]++m) j=some (.box cs):=by simp[Mem.get,Ne.symm hjk,hj]
     have hev:szt P t (env' x) (env' y) ([(k,Res.vec sz n f n e)]++m)=some ⟨.any,[j],[(j,.box (cs.take off++[.pure (.lst sz n f)]++cs.drop (off+1)))],none⟩:=by
      rw[hex,hey]
      unfold szt
      simp only[hs,AVal.cells,List.length_singleton,if_true,hj']
      simp[AVal.scalar,hoff]
     have key:=Hzs (P:=P) (id:=id) (env:=env') (m:=[(k,Res.vec sz n f n e)]++m) ho hev trivial
     intro F w ρ Mine M a hm g fr hrd hfe ha
     have hMk:=(hrd k (by simp)).trans hk
     have hMj:=(hrd j (by simp)).trans hj
     obtain⟨st,hm1⟩:=iz4 (m:=m) hm g (is:=[k]) (fun i hi=>by simp at hi;subst hi;exact hrd i (by simp))
     rw[hsh]at hm1
     have hp:=fze (m:=m) hm g (a:=.vec k) (p:=.lst sz n f) (is:=[k]) (js:=[k]) (by simp[kzb,Ezu,hk]) (fun _ h=>h) (fun i hi=>by simp at hi;subst hi;exact hrd i (by simp)) (hy▸ha y (by simp[ho,Op.operands]))
     have fr1:Fresh id ([(k,Res.vec sz n f n e)]++M):=by
      refine⟨fun i hi=>?_,fun i q r hi hq=>?_⟩
      ·rw[Mem.get_append]
       by_cases e1:k=i
       ·subst e1;rw[fr.none k hi]at hMk;cases hMk
       ·simp[Mem.get,e1,fr.none i hi]
      ·rw[Mem.get_append]at hq
       by_cases e1:k=q
       ·subst e1;simp[Mem.get]at hq;subst hq;rfl
       ·simp[Mem.get,e1]at hq;exact fr.has i q r hi hq
     obtain⟨v,w',F',ρ',k1,k2,k3,k4,k5⟩:=key (czu F w ρ m [k]) w ρ Mine _ a hm1 (st.good g) fr1 (fun i hi=>by
      simp at hi;subst hi
      simp[Mem.get,Ne.symm hjk,hMj,hj]) (fun z hz i hi=>by
      rw[he']
      by_cases e1:z=y
      ·simp[e1,AVal.has]
      ·simp only[if_neg e1];exact hfe z hz i hi) (fun z hz=>by
      rw[he']
      by_cases e1:z=y
      ·simp only[if_pos e1];rw[e1];exact .pure hp
      ·simp only[if_neg e1];exact(ha z hz).mono' st.sub st.cell)
     exact⟨v,w',F',ρ',k1,st.trans k2,k3,k4,by simpa using k5⟩
    ·cases h
   ·cases h
  ·cases h
 ·cases h
theorem Mzl {m:Mem}:∀ {vs ds:List AVal},(purC m vs ds).length=vs.length/\∀ (j:Nat) (b:AVal),(purC m vs ds)[j]?=some b->
 ∃a,vs[j]?=some a/\(b=a\/∃p is,kzb m a=some (p,is)/\(∀i∈is,i∈purI m vs ds)/\b=.pure p)
 |[],ds=>by cases ds<;>simp[purC]
 |a::l,[]=>⟨rfl,fun j b h=>⟨b,h,.inl rfl⟩⟩
 |a::l,d::ds=>by
  obtain⟨h1,h2⟩:=Mzl (m:=m) (vs:=l) (ds:=ds)
  refine⟨by simp[purC,h1],fun j b h=>?_⟩
  cases j with
  |zero=>
   simp only[purC,List.getElem?_cons_zero,Option.some.injEq]at h
   refine⟨a,by simp,?_⟩
   subst h
   have hin:∀i∈(pur1 m a d).2,i∈purI m (a::l) (d::ds):=fun i hi=>by simp only[purI];exact List.mem_append_left _ hi
   generalize hq:pur1 m a d=q at hin⊢
   unfold pur1 at hq
   split at hq
   ·split at hq
    ·rename_i p is hp
     subst hq
     exact .inr ⟨p,is,hp,hin,rfl⟩
    ·subst hq;exact .inl rfl
   ·subst hq;exact .inl rfl
  |succ j=>
   simp only[purC,List.getElem?_cons_succ]at h⊢
   obtain⟨a',q1,q2⟩:=h2 j b h
   exact⟨a',q1,q2.imp (fun h=>h) fun ⟨p,is,r2,r3,r4⟩=>⟨p,is,r2,fun i hi=>by simp only[purI];exact List.mem_append_right _ (r3 i hi),r4⟩⟩
theorem Sz6 {t:TypeId}{x y:Operand}{out:Out}(ho:o.op=.store t x y)(h:Gzn P t (env x) (env y) m=some out)(hob:holds out.obl):Sound1 P o env m id out:=by
 classical
 unfold Gzn at h
 split at h
 ·rename_i j off vs hx hy
  split at h
  ·rename_i cs hj
   split at h
   ·cases h
   ·split at h
    ·rename_i out0 hs
     cases h
     generalize hids:purI m vs (cs.drop off)=ids at *
     obtain⟨env',he'⟩:∃env':Operand->AVal,env'=fun z=>if z=y then .agg (purC m vs (cs.drop off))else env z:=⟨_,rfl⟩
     have hey:env' y=.agg (purC m vs (cs.drop off)):=by rw[he'];simp
     have hxy:x≠y:=fun e1=>by rw[e1,hy]at hx;cases hx
     have hex:env' x=.ptr j off:=by rw[he'];simp[hxy,hx]
     have key:=Hzs (P:=P) (id:=id) (env:=env') (m:=bz6 m ids++m) (out:=out0) ho (by rw[hex,hey];exact hs) hob
     intro F w ρ Mine M a hm g fr hrd hfe ha
     obtain⟨hlen,hget⟩:=Mzl (m:=m) (vs:=vs) (ds:=cs.drop off)
     rw[hids]at hget
     have hrd1:∀i∈ids,M.get i=m.get i:=fun i hi=>hrd i (List.mem_append_left _ hi)
     obtain⟨st,hm1⟩:=iz4 (m:=m) hm g (is:=ids) hrd1
     have fr1:Fresh id (bz6 m ids++M):=by
      refine⟨fun i hi=>?_,fun i j r hi hj=>?_⟩
      ·rw[Mem.get_append]
       cases hg:(bz6 m ids).get i with
       |none=>simpa using fr.none i hi
       |some r=>
        obtain⟨q1,r0,q2,_⟩:=dzb hg
        have:=fr.none i hi
        rw[hrd1 i q1,q2]at this;cases this
      ·rw[Mem.get_append]at hj
       cases hg:(bz6 m ids).get j with
       |none=>rw[hg]at hj;exact fr.has i j r hi (by simpa using hj)
       |some r'=>
        rw[hg]at hj
        simp at hj;subst hj
        obtain⟨q1,r0,q2,q3⟩:=dzb hg
        exact tze q3 i
     obtain⟨v,w',F',ρ',k1,k2,k3,k4,k5⟩:=key (czu F w ρ m ids) w ρ Mine (bz6 m ids++M) a hm1 (st.good g) fr1 (fun i hi=>by
      rw[Mem.get_append,Mem.get_append,hrd i (List.mem_append_right _ hi)]) (fun z hz i hi=>by
      rw[he']
      by_cases e1:z=y
      ·simp only[if_pos e1,AVal.has]
       have h0:=hfe z hz i hi
       rw[e1,hy]at h0
       simp only[AVal.has]at h0
       have all:∀ (l:List AVal),(∀ (j:Nat) (b:AVal),l[j]?=some b->b.has i=false)->AVal.hasL i l=false:=by
        intro l
        induction l with
        |nil=>intro _;rfl
        |cons b l ih=>intro h;simp only[AVal.hasL,Bool.or_eq_false_iff];exact⟨h 0 b (by simp),ih fun j c hc=>h (j+1) c (by simpa using hc)⟩
       refine all _ fun j' b hb=>?_
       obtain⟨a',q1,q2⟩:=hget j' b hb
       rcases q2 with rfl|⟨_,_,_,_,rfl⟩
       ·exact kzh h0 q1
       ·rfl
      ·simp only[if_neg e1];exact hfe z hz i hi) (fun z hz=>by
      rw[he']
      by_cases e1:z=y
      ·simp only[if_pos e1]
       have h0:=ha z hz
       rw[e1,hy]at h0
       rw[e1]
       generalize a.eval y=u at h0
       cases h0 with
       |agg hl hr=>
        refine .agg (by omega) fun j' b v hb hv=>?_
        obtain⟨a',q1,q2⟩:=hget j' b hb
        have h3:=hr j' a' v q1 hv
        rcases q2 with rfl|⟨p,is,hp,hin,rfl⟩
        ·exact h3.mono' st.sub st.cell
        ·exact .pure (fze hm g hp hin (fun i hi=>hrd1 i (hin i hi)) h3)
      ·simp only[if_neg e1];exact(ha z hz).mono' st.sub st.cell)
     exact⟨v,w',F',ρ',k1,st.trans k2,k3,k4,by simpa[List.append_assoc]using k5⟩
    ·cases h
  ·cases h
 ·cases h
theorem tzh {F:Cells}{w:World}{ρ:Env}:∀ (l:List Value),(mzy l).length=l.length/\∀ (j:Nat) (a:AVal) (v:Value),(mzy l)[j]?=some a->l[j]?=some v->ARel F w ρ a v
 |[]=>by simp[mzy]
 |x::l=>by
  have ih:=tzh (F:=F) (w:=w) (ρ:=ρ) l
  have key:∀ (hd:AVal),ARel F w ρ hd x->(hd::mzy l).length=(x::l).length/\∀ (j:Nat) (a:AVal) (v:Value),(hd::mzy l)[j]?=some a->(x::l)[j]?=some v->ARel F w ρ a v:=by
   intro hd hhd
   refine⟨by simp[ih.1],fun j a v ha hv=>?_⟩
   cases j with
   |zero=>simp at ha hv;subst ha;subst hv;exact hhd
   |succ j=>exact ih.2 j a v (by simpa using ha) (by simpa using hv)
  unfold mzy
  split
  ·rename_i e;cases e
  ·rename_i e;cases e;exact key _ (.pure .nil)
  ·rename_i e;cases e;exact key _ (eza _)
theorem Rzt {e:TypeId}{out:Out}(ho:o.op=.alloc e)(h:Gzd P e id=some out):Sound1 P o env m id out:=by
 unfold Gzd at h
 split at h
 ·rename_i z hz
  split at h
  ·rename_i h1
   cases h
   intro F w ρ Mine M a hm g fr _ hfe ha
   obtain⟨v,hv,hvz⟩:=rz6 (P:=P) (w:=w) hz
   have hsz:v.cells.size=z.length:=by rw[←hvz];simp
   obtain⟨F',ρ',st,he,hb,hm'⟩:=Jzh hm g fr e v.cells (mzy z) []
    (fun i r h=>by simp[Mem.get]at h)
    (by rw[hsz];exact(tzh (F:=F) (w:=w) (ρ:=ρ) z).1)
    (fun F' w' ρ' hF hw he hvn j y u hy hu=>by
     have hu':z[j]?=some u:=by rw[←hvz];simpa using hu
     exact⟨(tzh (F:=F') (w:=w') (ρ:=ρ') z).2 j y u hy hu',List.all_eq_true.1 h1 u (List.mem_of_getElem? hu')⟩)
   refine⟨.pointer (some ⟨w.heap.size,0,none⟩),w.alloc (.cells v.cells e),F',ρ',.value ?_,st,he,?_,by simpa using hm'⟩
   ·simp[execOp,ho,Instr.alloc,newVar,newRow,hv]
   ·rw[←hb];exact .ptr
  ·cases h
 ·cases h
end Go.Abs
