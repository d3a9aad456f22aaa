/-
  SoundT (a part of a claim: our own text).
-/
import Derived.Test.YtfodaccgmcljoaaGreatYDSoundR
namespace Go.Abs
variable {P:Program} {o:Oper} {env:Operand->AVal} {m:Mem} {id:Nat}
theorem Rza {t:TypeId}{x i:Operand}{out:Out}(ho:o.op=.indexAddr t x i)(h:wzm P t (env x) (env i) m=some out)(hob:holds out.obl):Sound1 P o env m id out:=by
 unfold wzm at h
 split at h
 ·rename_i k ik iv hx hi
  split at h
  ·rename_i sz n f e0 e' hh hk
   split at h
   ·rename_i e hu
    split at h
    ·rename_i hs
     simp at h;subst h
     obtain⟨h0,hn⟩:=hob
     refine Sound1.still fun F w ρ Mine M a hm hrd ha=>?_
     have hiv:=(hi▸ha i (by simp[ho,Op.operands])).pure_inv.int_inv
     have h1:=ha x (by simp[ho,Op.operands])
     rw[hx]at h1
     obtain⟨b,cap,c,hv',_⟩:=hm.ok k _ ((hrd k (by simp)).trans hk)
     generalize hu':a.eval x=u at h1
     cases h1 with
     |vnil hh=>rw[hh]at hv';cases hv'
     |vec hh=>
      rw[hh]at hv';cases hv'
      refine⟨.pointer (some ⟨b,iv.toNat * 1+0,none⟩),.value ?_,.eptr hh⟩
      simp only[execOp,ho,Instr.indexAt,Sem.run_bind,hiv,hu',asIntOf,Sem.run_pure,Result.andThen_ok,run_underlying hu]
      simp[h0,hn,ez3 hs,hzw]
    ·cases h
   ·cases h
  ·cases h
 ·cases h
theorem Wz2 (x:Option (Nat×Nat×Nat)):(wz6 x).oneCell'=true:=by
 cases x with
 |none=>rfl
 |some x=>obtain⟨b,n,cap⟩:=x;rfl
theorem az4q {t:TypeId}{x:Operand}{out:Out}(ho:o.op=.load t x)(h:Sz9 P t id (env x) m=some out)(hob:holds out.obl):Sound1 P o env m id out:=by
 unfold Sz9 at h
 split at h
 ·rename_i j i hx
  split at h
  ·rename_i sz n f e e' hj
   split at h
   ·rename_i sz' n' gg hta hfi
    split at h
    ·rename_i hsz
     subst hsz
     cases h
     intro F w ρ Mine M a hm g fr hrd hfe ha
     have hlt:i<n:=hob
     have hM:=(hrd j (by simp)).trans hj
     have hax:=ha x (by simp[ho,Op.operands])
     rw[hx]at hax
     obtain⟨b,cap,c,q1,q2,q3,q4,q5,q6,q7,q8,q9⟩:=hm.ok j _ hM
     generalize hu:a.eval x=u at hax
     cases hax with
     |eptr hvec=>
      rw[hvec]at q1;cases q1
      obtain⟨v,v1,v2,v3⟩:=q7 i hlt
      obtain⟨y,n2,g2,p1,p2,p3⟩:=v3.resolve_left (by simp)
      rw[hfi]at p1;cases p1
      have hjn:¬Own id j:=fun hj'=>by rw[fr.none j hj']at hM;cases hM
      have hidj:id≠j:=fun e=>hjn (e▸⟨Nat.le_refl _,by omega⟩)
      have hy:(ρ.setVec id y).vec id=y:=if_pos rfl
      have hyj:(ρ.setVec id y).vec j=some (b,n,cap):=(if_neg (Ne.symm hidj)).trans hvec
      have hcell:w.cell? ⟨b,i * 1+0,none⟩=some v:=by rw[cell_of_row w b _ c e _ q2];simpa using v1
      have hinn:∀q b',Inn c n (some i) q b'->Inn c n none q b'/\q≠i:=fun q b' ⟨r1,r2,r3⟩=>⟨⟨r1,by simp,r3⟩,fun e=>r2 (by rw[e])⟩
      have hold:∀b',y.map (·.1)=some b'->Inn c n none i b':=by
       intro b' hb'
       obtain⟨z,rfl,rfl⟩:=Option.map_eq_some_iff.1 hb'
       obtain⟨z1,z2,z3⟩:=z
       exact⟨hlt,by simp,z2,z3,by rw[v1,p2];rfl⟩
      have hownj:∀b',Owns w (ρ.setVec id y) j (.vecT sz' n f e e' (some i)) b'->(b'=b\/∃q,Inn c n (some i) q b')/\Owns w ρ j (.vecT sz' n f e e' none) b':=by
       intro b' hb'
       rcases hb' with hb'|⟨b0,n0,cap0,c0,e0,q,r1,r2,r3⟩
       ·simp only[bzu,hyj,Option.map_some,Option.some.injEq]at hb'
        exact⟨.inl hb'.symm,.inl (by simp[bzu,hvec,hb'])⟩
       ·rw[hyj]at r1;cases r1
        rw[q2]at r2;cases r2
        exact⟨.inr ⟨q,r3⟩,.inr ⟨b,n,cap,c,e,q,hvec,q2,(hinn q b' r3).1⟩⟩
      have hownid:∀b',Owns w (ρ.setVec id y) id (.vec sz' n' gg 0 e') b'->Inn c n none i b'/\Owns w ρ j (.vecT sz' n f e e' none) b':=by
       intro b' hb'
       rw[owns_vec,hy]at hb'
       exact⟨hold b' hb',.inr ⟨b,n,cap,c,e,i,hvec,q2,hold b' hb'⟩⟩
      have hdist:∀b',Owns w (ρ.setVec id y) j (.vecT sz' n f e e' (some i)) b'->Owns w (ρ.setVec id y) id (.vec sz' n' gg 0 e') b'->False:=by
       intro b' h1 h2
       obtain⟨h2,_⟩:=hownid b' h2
       rcases(hownj b' h1).1 with rfl|⟨q,hq⟩
       ·exact q9 i h2
       ·obtain⟨hq,hne⟩:=hinn q b' hq
        exact hne (q8 q i b' hq h2)
      have hget:∀k r,Mem.get [(j,Res.vecT sz' n f e e' (some i)),(id,.vec sz' n' gg 0 e')] k=some r->(k=j/\r=.vecT sz' n f e e' (some i))\/(k=id/\r=.vec sz' n' gg 0 e'):=by
       intro k r hk
       simp only[Mem.get]at hk
       split at hk
       ·rename_i e1;subst e1;cases hk;exact .inl ⟨rfl,rfl⟩
       ·split at hk
        ·rename_i e1;subst e1;cases hk;exact .inr ⟨rfl,rfl⟩
        ·cases hk
      have hnone:∀k,Mem.get [(j,Res.vecT sz' n f e e' (some i)),(id,.vec sz' n' gg 0 e')] k=none->k≠j:=by
       intro k hk e1
       subst e1
       simp[Mem.get]at hk
      have notin:∀b',Owns w ρ j (.vecT sz' n f e e' none) b'->∀k r',M.get k=some r'->Mem.get [(j,Res.vecT sz' n f e e' (some i)),(id,.vec sz' n' gg 0 e')] k=none->¬Owns w ρ k r' b':=by
       intro b' hb' k r' hk hn hbk
       exact hnone k hn (hm.disj j k _ r' b' hM hk hb' hbk).symm
      refine⟨v,w,F,ρ.setVec id y,.value ?_,Step.refl g,cz7 ρ id y,?_,MemOk.step hm (Step.refl g) (fun i=>¬Own id i) (cz7 ρ id y) _ (fun k r h hn=>⟨fun hk=>(by rw[fr.none k hk]at h;cases h),fun i hi=>fr.has i k r (Classical.not_not.1 hi) h,fun b hb=>⟨rfl,fun _ h=>h⟩⟩) (fun k r h=>?_) (fun k k' r r' b' h h' hb hb'=>?_)⟩
      ·have hr:=pzj (P:=P) hta hcell
       simp only[execOp,ho,Instr.loadAt,Instr.sureAddr,hu,Sem.run_bind,Sem.run_pure,Result.andThen_ok,hr]
      ·rw[p2]
       cases hyy:y with
       |none=>rw[hyy]at hy;exact .vnil (by rw[←hyy]at hy⊢;rw[hy,hyy])
       |some z=>
        obtain⟨z1,z2,z3⟩:=z
        exact .vec (by rw[←hyy];rw[hy,hyy])
      ·rcases hget k r h with⟨rfl,rfl⟩|⟨rfl,rfl⟩
       ·refine⟨⟨b,cap,c,hyj,q2,q3,q4,q5,q6,fun q hq=>?_,fun q q' b' r1 r2=>q8 q q' b' (hinn q b' r1).1 (hinn q' b' r2).1,fun q r1=>q9 q (hinn q b r1).1⟩,fun b' hb'=>?_⟩
        ·obtain⟨u,u1,u2,u3⟩:=q7 q hq
         exact⟨u,u1,u2,.inr (u3.resolve_left (by simp))⟩
        ·obtain⟨_,h2⟩:=hownj b' hb'
         exact⟨(hm.mine _ _ _ hM h2).1,(hm.mine _ _ _ hM h2).2,notin b' h2⟩
       ·refine⟨?_,fun b' hb'=>?_⟩
        ·show VecAt F w sz' n' gg 0 e' ((ρ.setVec k y).vec k)
         rw[hy];exact p3
        ·obtain⟨_,h2⟩:=hownid b' hb'
         exact⟨(hm.mine _ _ _ hM h2).1,(hm.mine _ _ _ hM h2).2,notin b' h2⟩
      ·rcases hget k r h with⟨rfl,rfl⟩|⟨rfl,rfl⟩<;>rcases hget k' r' h' with⟨rfl,rfl⟩|⟨rfl,rfl⟩
       ·rfl
       ·exact(hdist b' hb hb').elim
       ·exact(hdist b' hb' hb).elim
       ·rfl
    ·cases h
   ·cases h
  ·cases h
 ·cases h
theorem az1h {t:TypeId}{x y:Operand}{out:Out}(ho:o.op=.store t x y)(h:Mzp P t (env x) (env y) m=some out)(hob:holds out.obl):Sound1 P o env m id out:=by
 unfold Mzp at h
 split at h
 ·rename_i j i k hx hy
  split at h
  ·rename_i sz n f e e' i' sz' n' gg e'' hj hk
   split at h
   ·rename_i hc
    simp only[Bool.and_eq_true,decide_eq_true_eq]at hc
    obtain⟨⟨hs,rfl⟩,rfl⟩:=hc
    cases h
    obtain⟨hlt,rfl⟩:=hob
    intro F w ρ Mine M a hm g fr hrd hfe ha
    have hM:=(hrd j (by simp)).trans hj
    have hMk:=(hrd k (by simp)).trans hk
    have hax:=ha x (by simp[ho,Op.operands])
    have hay:=ha y (by simp[ho,Op.operands])
    rw[hx]at hax
    rw[hy]at hay
    have hjk:j≠k:=fun e=>by rw[e,hMk]at hM;cases hM
    obtain⟨b,cap,c,q1,q2,q3,q4,q5,q6,q7,q8,q9⟩:=hm.ok j _ hM
    have hkok:VecAt F w sz' n' gg 0 e'' (ρ.vec k):=hm.ok k _ hMk
    generalize hu:a.eval x=u at hax
    cases hax with
    |eptr hvec=>
     rw[hvec]at q1;cases q1
     have hv:a.eval y=wz6 (ρ.vec k):=by
      generalize a.eval y=vv at hay
      cases hay with
      |vnil hh=>rw[hh];rfl
      |vec hh=>rw[hh];rfl
     have hone:=Wz2 (ρ.vec k)
     have hcells:(a.eval y).cells=#[wz6 (ρ.vec k)]:=by
      rw[hv]
      cases ρ.vec k with
      |none=>rfl
      |some z=>obtain⟨z1,z2,z3⟩:=z;rfl
     have hr:=yzj (P:=P) (off:=i * 1+0) (v:=a.eval y) hs (by rw[hcells];rfl) q2 (by omega) (by rw[hcells];simpa using hone)
     rw[hcells]at hr
     have hget:∀q,((c.toList.take (i * 1+0)++(#[wz6 (ρ.vec k)]:Array Value).toList++c.toList.drop (i * 1+0+(#[wz6 (ρ.vec k)]:Array Value).toList.length)).toArray)[q]?=if q=i then some (wz6 (ρ.vec k))else c[q]?:=by
      intro q
      rw[List.getElem?_toArray,qzd _ _ _ _ (by simp;omega)]
      by_cases hq:q=i
      ·subst hq;simp
      ·rw[if_neg hq,if_neg (by simp;omega)];simp
     generalize hc':(c.toList.take (i * 1+0)++(#[wz6 (ρ.vec k)]:Array Value).toList++c.toList.drop (i * 1+0+(#[wz6 (ρ.vec k)]:Array Value).toList.length)).toArray=c' at hr hget
     have hsz:c'.size=cap:=by
      rw[←hc',List.size_toArray,hz5 _ _ _ (by simp;omega)];simpa using q5
     have hbj:Owns w ρ j (.vecT sz' n f e e'' (some i)) b:=.inl (by simp[bzu,hvec])
     have hmine:=hm.mine j _ b hM hbj
     have st:Step Mine F w F (w.setRow b c'):=Step.write g q2 hmine.1 (fun o h=>absurd h (q6 o))
     have hheap:=setRow_heap w b c c' e _ q2
     have hkb:∀b',(ρ.vec k).map (·.1)=some b'->Owns w ρ k (.vec sz' n' gg 0 e'') b':=fun b' h=>owns_vec.2 h
     have hkne:∀b',(ρ.vec k).map (·.1)=some b'->b'≠b:=fun b' h e1=>hjk (hm.disj j k _ _ b' hM hMk (e1▸hbj) (hkb b' h))
     have hin:∀q b',Inn c' n none q b'->(q=i/\(ρ.vec k).map (·.1)=some b')\/(q≠i/\Inn c n (some i) q b'):=by
      intro q b' ⟨r1,_,n2,cap2,r3⟩
      rw[hget]at r3
      by_cases hq:q=i
      ·rw[if_pos hq]at r3
       refine .inl ⟨hq,?_⟩
       cases hz:ρ.vec k with
       |none=>rw[hz]at r3;simp[wz6]at r3
       |some z=>obtain⟨z1,z2,z3⟩:=z;rw[hz]at r3;simp[wz6]at r3;simp[r3.1]
      ·rw[if_neg hq]at r3
       exact .inr ⟨hq,r1,fun h=>hq (by simpa using h.symm),n2,cap2,r3⟩
     have hinj:∀q b',Inn c n (some i) q b'->Owns w ρ j (.vecT sz' n f e e'' (some i)) b':=fun q b' h=>.inr ⟨b,n,cap,c,e,q,hvec,q2,h⟩
     have hown:∀b',Owns (w.setRow b c') ρ j (.vecT sz' n (fun q=>if q=i then .lst sz' n' gg else f q) e e'' none) b'->Owns w ρ j (.vecT sz' n f e e'' (some i)) b'\/Owns w ρ k (.vec sz' n' gg 0 e'') b':=by
      intro b' hb'
      rcases hb' with hb'|⟨b0,n0,cap0,c0,e0,q,r1,r2,r3⟩
      ·exact .inl (.inl hb')
      ·rw[hvec]at r1;cases r1
       rw[hheap]at r2;cases r2
       rcases hin q b' r3 with⟨_,h⟩|⟨_,h⟩
       ·exact .inr (hkb b' h)
       ·exact .inl (hinj q b' h)
     have hgetM:∀kk r,Mem.get [(j,Res.vecT sz' n (fun q=>if q=i then .lst sz' n' gg else f q) e e'' none),(k,.gone)] kk=some r->(kk=j/\r=.vecT sz' n (fun q=>if q=i then .lst sz' n' gg else f q) e e'' none)\/(kk=k/\r=.gone):=by
      intro kk r hk
      simp only[Mem.get]at hk
      split at hk
      ·rename_i e1;subst e1;cases hk;exact .inl ⟨rfl,rfl⟩
      ·split at hk
       ·rename_i e1;subst e1;cases hk;exact .inr ⟨rfl,rfl⟩
       ·cases hk
     have hnone:∀kk,Mem.get [(j,Res.vecT sz' n (fun q=>if q=i then .lst sz' n' gg else f q) e e'' none),(k,.gone)] kk=none->kk≠j/\kk≠k:=by
      intro kk hk
      simp only[Mem.get]at hk
      split at hk
      ·cases hk
      ·split at hk
       ·cases hk
       ·rename_i a1 a2;exact⟨fun e=>a1 e.symm,fun e=>a2 e.symm⟩
     refine⟨undef,_,F,ρ,.inr ⟨by simp only[execOp,ho,Instr.storeAt,Instr.sureAddr,hu,Sem.run_bind,Sem.run_pure,Result.andThen_ok,hr],rfl⟩,st,fun _ _=>⟨rfl,rfl⟩,.any,MemOk.step hm st (fun _=>True) (fun _ _=>⟨rfl,rfl⟩) _ (fun kk r h hn=>⟨trivial,fun q hq=>absurd trivial hq,fun b' hb'=>⟨?_,fun _ h=>h⟩⟩) (fun kk r h=>?_) (fun kk kk' r r' b' h h' hb hb'=>?_)⟩
     ·refine setRow_other w b b' _ (fun e1=>?_)
      subst e1
      exact(hnone kk hn).1 (hm.disj j kk _ r _ hM h hbj hb').symm
     ·rcases hgetM kk r h with⟨rfl,rfl⟩|⟨rfl,rfl⟩
      ·refine⟨⟨b,cap,c',hvec,hheap,q3,q4,hsz,q6,fun q hq=>?_,fun q q' b' r1 r2=>?_,fun q r1=>?_⟩,fun b' hb'=>?_⟩
       ·rw[hget]
        by_cases hqi:q=i
        ·subst hqi
         refine⟨_,if_pos rfl,hone,.inr ⟨ρ.vec k,n',gg,by simp,rfl,hkok.mono st.sub st.cell fun b' m' cap' hx'=>⟨setRow_other w b b' _ (hkne b' (by simp[hx'])),fun _ h=>h⟩⟩⟩
        ·rw[if_neg hqi]
         obtain⟨u,u1,u2,u3⟩:=q7 q hq
         obtain⟨z,n2,g2,p1,p2,p3⟩:=u3.resolve_left (fun h=>hqi (by simpa using h.symm))
         refine⟨u,u1,u2,.inr ⟨z,n2,g2,by simp[hqi,p1],p2,p3.mono st.sub st.cell fun b' m' cap' hx'=>⟨setRow_other w b b' _ (fun e1=>?_),fun _ h=>h⟩⟩⟩
         subst hx'
         exact q9 q ⟨hq,fun h=>hqi (by simpa using h.symm),m',cap',by rw[u1,p2,e1];rfl⟩
       ·rcases hin q b' r1 with⟨e1,h1⟩|⟨e1,h1⟩<;>rcases hin q' b' r2 with⟨e2,h2⟩|⟨e2,h2⟩
        ·rw[e1,e2]
        ·exact(hjk (hm.disj _ _ _ _ b' hM hMk (hinj q' b' h2) (hkb b' h1))).elim
        ·exact(hjk (hm.disj _ _ _ _ b' hM hMk (hinj q b' h1) (hkb b' h2))).elim
        ·exact q8 q q' b' h1 h2
       ·rcases hin q b r1 with⟨_,h1⟩|⟨_,h1⟩
        ·exact hkne b h1 rfl
        ·exact q9 q h1
       ·rcases hown b' hb' with h1|h1
        ·obtain⟨m1,m2⟩:=hm.mine _ _ b' hM h1
         exact⟨m1,by simpa using m2,fun q r' hq hn hbq=>(hnone q hn).1 (hm.disj _ q _ r' b' hM hq h1 hbq).symm⟩
        ·obtain⟨m1,m2⟩:=hm.mine _ _ b' hMk h1
         exact⟨m1,by simpa using m2,fun q r' hq hn hbq=>(hnone q hn).2 (hm.disj _ q _ r' b' hMk hq h1 hbq).symm⟩
      ·exact⟨trivial,fun b' hb'=>by simp[Owns,pzy,bzu]at hb'⟩
     ·rcases hgetM kk r h with⟨rfl,rfl⟩|⟨rfl,rfl⟩
      ·rcases hgetM kk' r' h' with⟨rfl,rfl⟩|⟨rfl,rfl⟩
       ·rfl
       ·simp[Owns,pzy,bzu]at hb'
      ·simp[Owns,pzy,bzu]at hb
   ·cases h
  ·cases h
 ·cases h
theorem Rz9 {t:TypeId}{x i:Operand}{out:Out}(ho:o.op=.indexAddr t x i)(h:Fzj P t (env x) (env i)=some out)(hob:holds out.obl):Sound1 P o env m id out:=by cases (show none=some _ from h)
theorem az4o {t:TypeId}{x:Operand}{out:Out}(ho:o.op=.makeInterface t x)(h:Sz7 P t (env x)=some out):Sound1 P o env m id out:=by
 unfold Sz7 at h
 split at h
 ·rename_i d hu
  split at h
  ·cases h
  ·rename_i hd
   cases h
   refine Sound1.still fun F w ρ Mine M a hm hrd ha=>⟨.iface t (a.eval x),.value ?_,.iface (ha x (by simp[ho,Op.operands]))⟩
   simp only[execOp,ho,Instr.makeInterface,Sem.run_bind,run_underlying hu,Result.andThen_ok]
   cases d<;>first|(simp only[Sem.run_pure,Result.andThen_ok];done)|skip
   exact absurd rfl hd
 ·cases h
theorem az16 {x:Operand}{xt asserted:TypeId}{ok:Bool}{out:Out}(ho:o.op=.typeAssert x xt asserted ok)(h:Mzi P (env x) asserted ok=some out):Sound1 P o env m id out:=by
 unfold Mzi at h
 split at h
 ·rename_i t r d hx hu
  split at h
  ·cases h
  ·rename_i hd
   have run:∀ {a:Act} {w:World} {v u:Value},a.eval x=.iface t v->
    (if t=asserted then(pure (if ok=true then .tuple #[v,.bool true]else v):Sem Value)else(if ok=true then do pure (.tuple #[←zeroValue asserted,.bool false])else runtimePanic (.typeAssertion (some xt) (some t) asserted ""))).run P w=.ok u w->Ran P o a w u w:=by
    intro a w v u hv hr
    refine .value ?_
    simp only[execOp,ho,Instr.typeAssert,Sem.run_bind,run_underlying hu,Result.andThen_ok,hv]
    cases d<;>first|exact absurd rfl hd|(simp only[hr,Result.andThen_ok,Sem.run_pure])
   split at h
   ·rename_i he
    cases h
    refine Sound1.still fun F w ρ Mine M a hm hrd ha=>?_
    have h1:=ha x (by simp[ho,Op.operands])
    rw[hx]at h1
    generalize hu':a.eval x=u at h1
    cases h1 with
    |iface hr=>
     rename_i v
     cases ok with
     |true=>
      refine⟨.tuple #[v,.bool true],run hu' (by rw[if_pos he];rfl),.tup rfl fun j b u hb hu=>?_⟩
      match j with
      |0=>simp at hb hu;subst hb;subst hu;exact hr
      |1=>simp at hb hu;subst hb;subst hu;exact .tt
      |j+2=>simp at hb
     |false=>exact⟨v,run hu' (by rw[if_pos he];rfl),hr⟩
   ·rename_i he
    split at h
    ·rename_i hok
     split at h
     ·rename_i i hi
      split at h
      ·rename_i z hz
       cases h
       subst hok
       refine Sound1.still fun F w ρ Mine M a hm hrd ha=>?_
       have h1:=ha x (by simp[ho,Op.operands])
       rw[hx]at h1
       generalize hu':a.eval x=u at h1
       cases h1 with
       |iface hr=>
        refine⟨.tuple #[z,.bool false],run hu' ?_,.tup rfl fun j b u hb hu=>?_⟩
        ·rw[if_neg he,if_pos rfl]
         simp[zeroValue,typeInfo,hi,hz]
        ·match j with
         |0=>simp at hb hu;subst hb;subst hu;exact Ez7 z
         |1=>simp at hb hu;subst hb;subst hu;exact .ff
         |j+2=>simp at hb
      ·cases h
     ·cases h
    ·cases h
 ·cases h
theorem Oz8 {t:TypeId}{len:Nat}{parts:Array (Nat×Operand)}{out:Out}(ho:o.op=.buildSlice t len parts)(h:Cz1 P t len id env parts.toList=some out):Sound1 P o env m id out:=by cases (show none=some _ from h)
theorem Rzc {t:TypeId}{x i:Operand}{out:Out}(ho:o.op=.indexAddr t x i)(h:Fzk P t (env x) (env i) m=some out)(hob:holds out.obl):Sound1 P o env m id out:=by cases (show none=some _ from h)
theorem az4r {t:TypeId}{x:Operand}{out:Out}(ho:o.op=.load t x)(h:Xzb P t (env x) m=some out)(hob:holds out.obl):Sound1 P o env m id out:=by cases (show none=some _ from h)
theorem az1i {t:TypeId}{x y:Operand}{out:Out}(ho:o.op=.store t x y)(h:Uza P t (env x) (env y) m=some out)(hob:holds out.obl):Sound1 P o env m id out:=by cases (show none=some _ from h)
theorem az1g {t:TypeId}{x y:Operand}{out:Out}(ho:o.op=.store t x y)(h:Mzo P t (env x) (env y) m=some out):Sound1 P o env m id out:=by
 unfold Mzo at h
 split at h
 ·rename_i j off k hx hy
  split at h
  ·rename_i cs sz n f sh e hj hk
   split at h
   ·rename_i hcell
    split at h
    ·rename_i hc
     simp only[Bool.and_eq_true,decide_eq_true_eq,bne_iff_ne,ne_eq]at hc
     obtain⟨⟨hs,_⟩,hjk⟩:=hc
     cases h
     have hoff:off+1≤cs.length:=(List.getElem?_eq_some_iff.1 hcell).1
     classical
     obtain⟨env',he'⟩:∃env':Operand->AVal,env'=fun z=>if z=y then .pure (.lst sz n f)else env z:=⟨_,rfl⟩
     have hey:env' y=.pure (.lst sz n f):=by rw[he'];simp
     have hxy:x≠y:=fun e1=>by rw[e1,hy]at hx;cases hx
     have hex:env' x=.ptr j off:=by rw[he'];simp[hxy,hx]
     have hsh:bzt m [k]=[(k,.vec sz n f n e)]:=by simp[bzt,hk]
     have hj':Mem.get ([(k,Res.vec sz n f n e)]++m) j=some (.box cs):=by simp[Mem.get,Ne.symm hjk,hj]
     have hev:Azu P t (env' x) (env' y) ([(k,Res.vec sz n f n e)]++m)=some ⟨.any,[j],[(j,.box (cs.take off++[.pure (.lst sz n f)]++cs.drop (off+1)))],none⟩:=by
      rw[hex,hey]
      unfold Azu
      simp only[hs,AVal.cells,List.length_singleton,if_true,hj']
      simp[AVal.scalar,hoff]
     have key:=Oza (P:=P) (id:=id) (env:=env') (m:=[(k,Res.vec sz n f n e)]++m) ho hev trivial
     intro F w ρ Mine M a hm g fr hrd hfe ha
     have hMk:=(hrd k (by simp)).trans hk
     have hMj:=(hrd j (by simp)).trans hj
     obtain⟨st,hm1⟩:=vze (m:=m) hm g (is:=[k]) (fun i hi=>by simp at hi;subst hi;exact hrd i (by simp))
     rw[hsh]at hm1
     have hp:=lz5 (m:=m) hm g (a:=.vec k) (p:=.lst sz n f) (is:=[k]) (js:=[k]) (by simp[xze,Yzo,hk]) (fun _ h=>h) (fun i hi=>by simp at hi;subst hi;exact hrd i (by simp)) (hy▸ha y (by simp[ho,Op.operands]))
     have fr1:Fresh id ([(k,Res.vec sz n f n e)]++M):=by
      refine⟨fun i hi=>?_,fun i q r hi hq=>?_⟩
      ·rw[Mem.get_append]
       by_cases e1:k=i
       ·subst e1;rw[fr.none k hi]at hMk;cases hMk
       ·simp[Mem.get,e1,fr.none i hi]
      ·rw[Mem.get_append]at hq
       by_cases e1:k=q
       ·subst e1;simp[Mem.get]at hq;subst hq;rfl
       ·simp[Mem.get,e1]at hq;exact fr.has i q r hi hq
     obtain⟨v,w',F',ρ',k1,k2,k3,k4,k5⟩:=key (dzy F w ρ m [k]) w ρ Mine _ a hm1 (st.good g) fr1 (fun i hi=>by
      simp at hi;subst hi
      simp[Mem.get,Ne.symm hjk,hMj,hj]) (fun z hz i hi=>by
      rw[he']
      by_cases e1:z=y
      ·simp[e1,AVal.has]
      ·simp only[if_neg e1];exact hfe z hz i hi) (fun z hz=>by
      rw[he']
      by_cases e1:z=y
      ·simp only[if_pos e1];rw[e1];exact .pure hp
      ·simp only[if_neg e1];exact(ha z hz).mono' st.sub st.cell)
     exact⟨v,w',F',ρ',k1,st.trans k2,k3,k4,by simpa using k5⟩
    ·cases h
   ·cases h
  ·cases h
 ·cases h
theorem Uzx {m:Mem}:∀ {vs ds:List AVal},(purC m vs ds).length=vs.length/\∀ (j:Nat) (b:AVal),(purC m vs ds)[j]?=some b->
 ∃a,vs[j]?=some a/\(b=a\/∃p is,xze m a=some (p,is)/\(∀i∈is,i∈purI m vs ds)/\b=.pure p)
 |[],ds=>by cases ds<;>simp[purC]
 |a::l,[]=>⟨rfl,fun j b h=>⟨b,h,.inl rfl⟩⟩
 |a::l,d::ds=>by
  obtain⟨h1,h2⟩:=Uzx (m:=m) (vs:=l) (ds:=ds)
  refine⟨by simp[purC,h1],fun j b h=>?_⟩
  cases j with
  |zero=>
   simp only[purC,List.getElem?_cons_zero,Option.some.injEq]at h
   refine⟨a,by simp,?_⟩
   subst h
   have hin:∀i∈(pur1 m a d).2,i∈purI m (a::l) (d::ds):=fun i hi=>by simp only[purI];exact List.mem_append_left _ hi
   generalize hq:pur1 m a d=q at hin⊢
   unfold pur1 at hq
   split at hq
   ·split at hq
    ·rename_i p is hp
     subst hq
     exact .inr ⟨p,is,hp,hin,rfl⟩
    ·subst hq;exact .inl rfl
   ·subst hq;exact .inl rfl
  |succ j=>
   simp only[purC,List.getElem?_cons_succ]at h⊢
   obtain⟨a',q1,q2⟩:=h2 j b h
   exact⟨a',q1,q2.imp (fun h=>h) fun ⟨p,is,r2,r3,r4⟩=>⟨p,is,r2,fun i hi=>by simp only[purI];exact List.mem_append_right _ (r3 i hi),r4⟩⟩
theorem az1f {t:TypeId}{x y:Operand}{out:Out}(ho:o.op=.store t x y)(h:Mzn P t (env x) (env y) m=some out)(hob:holds out.obl):Sound1 P o env m id out:=by
 classical
 unfold Mzn at h
 split at h
 ·rename_i j off vs hx hy
  split at h
  ·rename_i cs hj
   split at h
   ·cases h
   ·split at h
    ·rename_i out0 hs
     cases h
     generalize hids:purI m vs (cs.drop off)=ids at *
     obtain⟨env',he'⟩:∃env':Operand->AVal,env'=fun z=>if z=y then .agg (purC m vs (cs.drop off))else env z:=⟨_,rfl⟩
     have hey:env' y=.agg (purC m vs (cs.drop off)):=by rw[he'];simp
     have hxy:x≠y:=fun e1=>by rw[e1,hy]at hx;cases hx
     have hex:env' x=.ptr j off:=by rw[he'];simp[hxy,hx]
     have key:=Oza (P:=P) (id:=id) (env:=env') (m:=bzt m ids++m) (out:=out0) ho (by rw[hex,hey];exact hs) hob
     intro F w ρ Mine M a hm g fr hrd hfe ha
     obtain⟨hlen,hget⟩:=Uzx (m:=m) (vs:=vs) (ds:=cs.drop off)
     rw[hids]at hget
     have hrd1:∀i∈ids,M.get i=m.get i:=fun i hi=>hrd i (List.mem_append_left _ hi)
     obtain⟨st,hm1⟩:=vze (m:=m) hm g (is:=ids) hrd1
     have fr1:Fresh id (bzt m ids++M):=by
      refine⟨fun i hi=>?_,fun i j r hi hj=>?_⟩
      ·rw[Mem.get_append]
       cases hg:(bzt m ids).get i with
       |none=>simpa using fr.none i hi
       |some r=>
        obtain⟨q1,r0,q2,_⟩:=dzx hg
        have:=fr.none i hi
        rw[hrd1 i q1,q2]at this;cases this
      ·rw[Mem.get_append]at hj
       cases hg:(bzt m ids).get j with
       |none=>rw[hg]at hj;exact fr.has i j r hi (by simpa using hj)
       |some r'=>
        rw[hg]at hj
        simp at hj;subst hj
        obtain⟨q1,r0,q2,q3⟩:=dzx hg
        exact Bzo q3 i
     obtain⟨v,w',F',ρ',k1,k2,k3,k4,k5⟩:=key (dzy F w ρ m ids) w ρ Mine (bzt m ids++M) a hm1 (st.good g) fr1 (fun i hi=>by
      rw[Mem.get_append,Mem.get_append,hrd i (List.mem_append_right _ hi)]) (fun z hz i hi=>by
      rw[he']
      by_cases e1:z=y
      ·simp only[if_pos e1,AVal.has]
       have h0:=hfe z hz i hi
       rw[e1,hy]at h0
       simp only[AVal.has]at h0
       have all:∀ (l:List AVal),(∀ (j:Nat) (b:AVal),l[j]?=some b->b.has i=false)->AVal.hasL i l=false:=by
        intro l
        induction l with
        |nil=>intro _;rfl
        |cons b l ih=>intro h;simp only[AVal.hasL,Bool.or_eq_false_iff];exact⟨h 0 b (by simp),ih fun j c hc=>h (j+1) c (by simpa using hc)⟩
       refine all _ fun j' b hb=>?_
       obtain⟨a',q1,q2⟩:=hget j' b hb
       rcases q2 with rfl|⟨_,_,_,_,rfl⟩
       ·exact nzu h0 q1
       ·rfl
      ·simp only[if_neg e1];exact hfe z hz i hi) (fun z hz=>by
      rw[he']
      by_cases e1:z=y
      ·simp only[if_pos e1]
       have h0:=ha z hz
       rw[e1,hy]at h0
       rw[e1]
       generalize a.eval y=u at h0
       cases h0 with
       |agg hl hr=>
        refine .agg (by omega) fun j' b v hb hv=>?_
        obtain⟨a',q1,q2⟩:=hget j' b hb
        have h3:=hr j' a' v q1 hv
        rcases q2 with rfl|⟨p,is,hp,hin,rfl⟩
        ·exact h3.mono' st.sub st.cell
        ·exact .pure (lz5 hm g hp hin (fun i hi=>hrd1 i (hin i hi)) h3)
      ·simp only[if_neg e1];exact(ha z hz).mono' st.sub st.cell)
     exact⟨v,w',F',ρ',k1,st.trans k2,k3,k4,by simpa[List.append_assoc]using k5⟩
    ·cases h
  ·cases h
 ·cases h
theorem Bzq {F:Cells}{w:World}{ρ:Env}:∀ (l:List Value),(szu l).length=l.length/\∀ (j:Nat) (a:AVal) (v:Value),(szu l)[j]?=some a->l[j]?=some v->ARel F w ρ a v
 |[]=>by simp[szu]
 |x::l=>by
  have ih:=Bzq (F:=F) (w:=w) (ρ:=ρ) l
  have key:∀ (hd:AVal),ARel F w ρ hd x->(hd::szu l).length=(x::l).length/\∀ (j:Nat) (a:AVal) (v:Value),(hd::szu l)[j]?=some a->(x::l)[j]?=some v->ARel F w ρ a v:=by
   intro hd hhd
   refine⟨by simp[ih.1],fun j a v ha hv=>?_⟩
   cases j with
   |zero=>simp at ha hv;subst ha;subst hv;exact hhd
   |succ j=>exact ih.2 j a v (by simpa using ha) (by simpa using hv)
  unfold szu
  split
  ·rename_i e;cases e
  ·rename_i e;cases e;exact key _ (.pure .nil)
  ·rename_i e;cases e;exact key _ (jz7 _)
theorem az14 {e:TypeId}{out:Out}(ho:o.op=.alloc e)(h:Mzg P e id=some out):Sound1 P o env m id out:=by
 unfold Mzg at h
 split at h
 ·rename_i z hz
  split at h
  ·rename_i h1
   cases h
   intro F w ρ Mine M a hm g fr _ hfe ha
   obtain⟨v,hv,hvz⟩:=Oz7 (P:=P) (w:=w) hz
   have hsz:v.cells.size=z.length:=by rw[←hvz];simp
   obtain⟨F',ρ',st,he,hb,hm'⟩:=Yzc hm g fr e v.cells (szu z) []
    (fun i r h=>by simp[Mem.get]at h)
    (by rw[hsz];exact(Bzq (F:=F) (w:=w) (ρ:=ρ) z).1)
    (fun F' w' ρ' hF hw he hvn j y u hy hu=>by
     have hu':z[j]?=some u:=by rw[←hvz];simpa using hu
     exact⟨(Bzq (F:=F') (w:=w') (ρ:=ρ') z).2 j y u hy hu',List.all_eq_true.1 h1 u (List.mem_of_getElem? hu')⟩)
   refine⟨.pointer (some ⟨w.heap.size,0,none⟩),w.alloc (.cells v.cells e),F',ρ',.value ?_,st,he,?_,by simpa using hm'⟩
   ·simp[execOp,ho,Instr.alloc,newVar,newRow,hv]
   ·rw[←hb];exact .ptr
  ·cases h
 ·cases h
end Go.Abs
