/-
  SoundQ (a part of a claim: our own text).
-/
import Derived.Test.YtkbjjlfpbebiaaaGreatDoorYKSoundH
namespace Go.Abs
variable {P:Program} {o:Oper} {env:Operand->AVal} {m:Mem} {id:Nat}
theorem yz3 {t:TypeId}{len:Nat}{parts:Array (Nat×Operand)}{out:Out}(ho:o.op=.buildSlice t len parts)(h:jzc P t len id env m parts.toList=some out):Sound1 P o env m id out:=by
 unfold jzc at h
 split at h
 ·rename_i e hu
  split at h
  ·rename_i s l hs hl
   split at h
   ·rename_i ps is hps
    split at h
    ·rename_i hc
     simp only[Bool.and_eq_true,decide_eq_true_eq,List.all_eq_true,beq_iff_eq]at hc
     obtain⟨⟨⟨⟨hlen,hall⟩,hs1⟩,hbig⟩,hzz⟩:=hc
     obtain⟨zl,hzl⟩:=Option.isSome_iff_exists.1 hzz
     cases h
     intro F w ρ Mine M a hm g fr hrd hfe ha
     have hop:∀x∈parts.toList,x.2∈o.op.operands:=fun x hx=>by
      simp only[ho,Op.operands,List.mem_toArray,List.mem_map]
      exact⟨x,hx,rfl⟩
     obtain⟨e1,e2⟩:=qz8 (a:=a) parts.toList 0 l hl
     obtain⟨st1,hm1⟩:=iz4 (m:=m) hm g hrd
     obtain⟨hll,hrel⟩:=uzx (js:=is) hm g hps (fun _ h=>h) hrd
     have hpl:parts.toList.length=len:=by rw[←hlen,←hll,e2];simp
     have hval:∀ (i:Nat) (p:PVal),ps[i]?=some p->∃v,(parts.toList.map fun x=>a.eval x.2)[i]?=some v/\PRel (czu F w ρ m is) w p v:=by
      intro i p hp
      obtain⟨b,hb,hr⟩:=hrel i p hp
      rw[e2]at hb
      simp only[List.getElem?_map,Option.map_eq_some_iff]at hb
      obtain⟨x,hx,rfl⟩:=hb
      exact⟨a.eval x.2,by simp[hx],hr _ (ha x.2 (hop x (List.mem_of_getElem? hx)))⟩
     have hcell:∀ (i:Nat) (p:PVal) (v:Value),ps[i]?=some p->(parts.toList.map fun x=>a.eval x.2)[i]?=some v->
      v.cells.size=s/\p.cells.length=s/\∀ (j:Nat) (q:PVal) (u:Value),p.cells[j]?=some q->v.cells[j]?=some u->PRel (czu F w ρ m is) w q u/\u.oneCell'=true:=by
      intro i p v hp hv
      obtain⟨v',hv',hr⟩:=hval i p hp
      rw[hv]at hv';cases hv'
      obtain⟨q1,q2⟩:=hall p (List.mem_of_getElem? hp)
      obtain⟨q3,q4⟩:=hr.cells (List.all_eq_true.2 q2)
      exact⟨by rw[←q3,q1],q1,q4⟩
     obtain⟨zv,hzv,_⟩:=rz6 (P:=P) (w:=w) hzl
     obtain⟨z,hz⟩:∃z:Array Value,z=if len * s=0 then #[]else zv.cells:=⟨_,rfl⟩
     obtain⟨A,f1,f2,f3,f4⟩:=rz3 s (parts.toList.map fun x=>a.eval x.2) 0 ((Array.range (len * s)).map (z[· % z.size]!)) (fun v hv=>by
      obtain⟨i,hi⟩:=List.getElem?_of_mem hv
      have hlt:i<ps.length:=by
       have:=(List.getElem?_eq_some_iff.1 hi).1
       simp at this hpl;omega
      exact(hcell i ps[i] v (by simp[hlt]) hi).1) (by simp[hpl])
     have key:∀ (i j:Nat) (q:PVal),i<len->(lget ps i).cells[j]?=some q->∃p v u,ps[i]?=some p/\p.cells[j]?=some q/\(parts.toList.map fun x=>a.eval x.2)[i]?=some v/\v.cells[j]?=some u/\
      A[i * s+j]?=some u/\(PRel (czu F w ρ m is) w q u/\u.oneCell'=true):=by
      intro i j q hi hq
      have hlt:i<ps.length:=by omega
      have hp:ps[i]?=some ps[i]:=by simp[hlt]
      rw[show lget ps i=ps[i] by simp[lget,hlt]]at hq
      obtain⟨v,hv,_⟩:=hval i _ hp
      obtain⟨c1,c2,c3⟩:=hcell i _ v hp hv
      have hj:j<s:=by have:=(List.getElem?_eq_some_iff.1 hq).1;omega
      have hu:v.cells[j]?=some (v.cells[j]'(by omega)):=by simp[c1,hj]
      have hA:=f4 i v hv j hj
      rw[Nat.zero_add,hu]at hA
      exact⟨_,v,_,hp,hq,hv,hu,hA,c3 j q _ hq hu⟩
     have fr1:Fresh id (bz6 m is++M):=by
      refine⟨fun i hi=>?_,fun i j r hi hj=>?_⟩
      ·rw[Mem.get_append]
       cases hg:(bz6 m is).get i with
       |none=>simpa using fr.none i hi
       |some r=>
        obtain⟨q1,r0,q2,_⟩:=dzb hg
        have:=fr.none i hi
        rw[hrd i q1,q2]at this;cases this
      ·rw[Mem.get_append]at hj
       cases hg:(bz6 m is).get j with
       |none=>rw[hg]at hj;exact fr.has i j r hi (by simpa using hj)
       |some r'=>
        rw[hg]at hj
        simp at hj;subst hj
        obtain⟨q1,r0,q2,q3⟩:=dzb hg
        exact tze q3 i
     have g1:=st1.good g
     have st2:Step Mine (czu F w ρ m is) w (czu F w ρ m is) (w.alloc (.cells A e)):=by
      have s:=Step.alloc g1 (.cells A e) (fun _=>False)
      exact⟨fun _ _ h=>h,s.cell,fun _ _ h=>.inl h,fun b o h=>by have:=g1.lt b o h;simp;omega,s.keep⟩
     have hv:(ρ.setVec id (some (w.heap.size,len,len))).vec id=some (w.heap.size,len,len):=if_pos rfl
     have hAs:A.size=len * s:=by rw[f2];simp
     have hmem:=hm1.newVec fr1 st2 (some (w.heap.size,len,len)) [] s len 0 (lget ps) e
      ⟨Nat.zero_le _,.inr ⟨w.heap.size,len,A,hv,heap_alloc_new w _,Nat.le_refl _,by simp only[maxLen];have:=Nat.le_mul_of_pos_right len hs1;omega,hAs,fun o hF=>absurd (g1.lt _ _ hF) (by omega),fun i hi=>by
       have hlt:i<ps.length:=by omega
       simp only[lget,List.getD_eq_getElem?_getD,List.getElem?_eq_getElem hlt,Option.getD_some]
       exact(hall _ (List.getElem_mem hlt)).1,fun i j q hi hq=>by
       obtain⟨p,v,u,q1,q2,q3,q4,q5,q6⟩:=key i j q hi hq
       exact⟨u,q5,q6.2,q6.1.mono (fun _ _ h=>h) (fun b o h=>World.cell?_alloc_lt _ _ _ (g1.lt b o h))⟩⟩⟩
      (fun b hb=>by
       simp at hb;subst hb
       exact⟨g1.mine _ (Nat.le_refl _),by simp,fun q r' hq _ hbq=>absurd (hm1.mine q r' _ hq hbq).2 (by omega)⟩)
      (fun j r b hj _ hbj=>⟨heap_alloc_old w _ (hm1.mine j r b hj hbj).2,fun _ h=>h⟩)
     refine⟨.slice (some ⟨w.heap.size,0,none⟩) len len,w.alloc (.cells A e),_,_,.value ?_,st1.trans st2,cz4 ρ id _,.vec hv,by simpa using hmem⟩
     ·simp only[execOp,ho,Instr.buildSlice,Sem.run_bind,run_underlying hu,Result.andThen_ok,cz2 hs]
      rw[if_neg (by omega)]
      have f1':Instr.fill (fun i=>some (i * s,s)) ((Array.range (len * s)).map (z[· % z.size]!)) (parts.toList.map fun x=>(x.1,a.eval x.2))=some A:=by rw[e1];exact f1
      by_cases h0:len * s=0
      ·rw[if_pos h0]at hz⊢
       subst hz
       simp only[Sem.run_bind,Sem.run_pure,Result.andThen_ok,Array.toList_map]
       simp only[f1',newRow,Sem.run_bind,run_newObj,Result.andThen_ok,Sem.run_pure]
       rfl
      ·rw[if_neg h0]at hz⊢
       subst hz
       simp only[Sem.run_bind,hzv,Sem.run_pure,Result.andThen_ok,Array.toList_map]
       simp only[f1',newRow,Sem.run_bind,run_newObj,Result.andThen_ok,Sem.run_pure]
       rfl
    ·cases h
   ·cases h
  ·cases h
 ·cases h
end Go.Abs
