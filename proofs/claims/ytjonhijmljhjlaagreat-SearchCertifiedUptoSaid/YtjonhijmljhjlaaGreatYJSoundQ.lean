import Derived.Test.YtjonhijmljhjlaaGreatYJSoundH
open Array renaming range->jB,toList_map->jR
open Go.Result renaming andThen_ok->zL
open Go.Sem renaming run_bind->zM,run_pure->zN
open List renaming all_eq_true->ql,mem_of_getElem?->jq,getElem?_eq_some_iff->zD
namespace Go.Abs
variable {P:Program} {o:Oper} {env:Operand->AVal} {m:Mem} {id:Nat}
theorem Uzc {t:TypeId}{len:Nat}{parts:Array (Nat×Operand)}{out:Out}(ho:o.op=.buildSlice t len parts)(h:yzt P t len id env m parts.toList=some out):Sound1 P o env m id out:=by
 unfold yzt at h;split at h
 ·rename_i e hu;split at h
  ·rename_i s l hs hl;split at h
   ·rename_i ps is hps;split at h
    ·rename_i hc;simp only[Bool.and_eq_true,qf,ql,qj]at hc;obtain⟨⟨⟨⟨hlen,hall⟩,hs1⟩,hbig⟩,hzz⟩:=hc;obtain⟨zl,hzl⟩:=Option.isSome_iff_exists.1 hzz;cases h;intro F w ρ Mine M a hm g fr hrd hfe ha;have hop:∀x∈parts.toList,x.2∈o.op.operands:=λx hx=>by
      simp only[ho,Op.operands,List.mem_toArray,List.mem_map];exact⟨x,hx,rfl⟩
     obtain⟨e1,e2⟩:=zz8 (a:=a) parts.toList 0 l hl;obtain⟨st1,hm1⟩:=nzj (m:=m) hm g hrd;obtain⟨hll,hrel⟩:=Fz8 (js:=is) hm g hps (λ_ h=>h) hrd;have hpl:parts.toList.length=len:=by rw[<-hlen,<-hll,e2];simp
     have hval:∀ (i:Nat) (p:PVal),ps[i]?=some p->∃v,(parts.toList.map λx=>a.eval x.2)[i]?=some v/\PRel (ez0 F w ρ m is) w p v:=by
      intro i p hp;obtain⟨b,hb,hr⟩:=hrel i p hp;rw[e2]at hb;simp only[List.getElem?_map,Option.map_eq_some_iff]at hb;obtain⟨x,hx,rfl⟩:=hb;exact⟨a.eval x.2,by simp[hx],hr _ (ha x.2 (hop x (jq hx)))⟩
     have hcell:∀ (i:Nat) (p:PVal) (v:Value),ps[i]?=some p->(parts.toList.map λx=>a.eval x.2)[i]?=some v->
      v.cells.size=s/\p.cells.length=s/\∀ (j:Nat) (q:PVal) (u:Value),p.cells[j]?=some q->v.cells[j]?=some u->PRel (ez0 F w ρ m is) w q u/\u.oneCell'=true:=by
      intro i p v hp hv;obtain⟨v',hv',hr⟩:=hval i p hp;rw[hv]at hv';cases hv';obtain⟨q1,q2⟩:=hall p (jq hp);obtain⟨q3,q4⟩:=hr.cells (ql.2 q2);exact⟨by rw[<-q3,q1],q1,q4⟩
     obtain⟨zv,hzv,_⟩:=Kz2 (P:=P) (w:=w) hzl;obtain⟨z,hz⟩:∃z:Array Value,z=if len * s=0 then #[]else zv.cells:=⟨_,rfl⟩
     obtain⟨A,f1,f2,f3,f4⟩:=Hz1 s (parts.toList.map λx=>a.eval x.2) 0 ((jB (len * s)).map (z[· % z.size]!)) (λv hv=>by
      obtain⟨i,hi⟩:=List.getElem?_of_mem hv;have hlt:i<ps.length:=by
       have:=(zD.1 hi).1;simp at this hpl;omega
      exact(hcell i ps[i] v (by simp[hlt]) hi).1) (by simp[hpl])
     have key:∀ (i j:Nat) (q:PVal),i<len->(lget ps i).cells[j]?=some q->∃p v u,ps[i]?=some p/\p.cells[j]?=some q/\(parts.toList.map λx=>a.eval x.2)[i]?=some v/\v.cells[j]?=some u/\
      A[i * s+j]?=some u/\(PRel (ez0 F w ρ m is) w q u/\u.oneCell'=true):=by
      intro i j q hi hq;have hlt:i<ps.length:=qa
      have hp:ps[i]?=some ps[i]:=by simp[hlt]
      rw[show lget ps i=ps[i] by simp[lget,hlt]]at hq;obtain⟨v,hv,_⟩:=hval i _ hp;obtain⟨c1,c2,c3⟩:=hcell i _ v hp hv;have hj:j<s:=by have:=(zD.1 hq).1;omega
      have hu:v.cells[j]?=some (v.cells[j]'qa):=by simp[c1,hj]
      have hA:=f4 i v hv j hj;rw[Nat.zero_add,hu]at hA;exact⟨_,v,_,hp,hq,hv,hu,hA,c3 j q _ hq hu⟩
     have fr1:Fresh id (bzp m is++M):=by
      refine⟨λi hi=>?_,λi j r hi hj=>?_⟩
      ·rw[Mem.get_append];cases hg:(bzp m is).get i with
       |none=>simpa using fr.none i hi
       |some r=>
        obtain⟨q1,r0,q2,_⟩:=ezl hg;have:=fr.none i hi;rw[hrd i q1,q2]at this;cases this
      ·rw[Mem.get_append]at hj;cases hg:(bzp m is).get j with
       |none=>rw[hg]at hj;exact fr.has i j r hi (by simpa using hj)
       |some r'=>
        rw[hg]at hj;simp at hj;subst hj;obtain⟨q1,r0,q2,q3⟩:=ezl hg;exact Ez6 q3 i
     have g1:=st1.good g;have st2:Step Mine (ez0 F w ρ m is) w (ez0 F w ρ m is) (w.alloc (.cells A e)):=by
      have s:=Step.alloc g1 (.cells A e) (λ_=>False);exact⟨λ_ _ h=>h,s.cell,λ_ _ h=>.inl h,λb o h=>by have:=g1.lt b o h;simp;omega,s.keep⟩
     have hv:(ρ.setVec id (some (w.heap.size,len,len))).vec id=some (w.heap.size,len,len):=qc rfl;have hAs:A.size=len * s:=by rw[f2];simp
     have hmem:=hm1.newVec fr1 st2 (some (w.heap.size,len,len)) [] s len 0 (lget ps) e
      ⟨Nat.zero_le _,.inr ⟨w.heap.size,len,A,hv,heap_alloc_new w _,Nat.le_refl _,by simp only[maxLen];have:=Nat.le_mul_of_pos_right len hs1;omega,hAs,λo hF=>absurd (g1.lt _ _ hF) qa,λi hi=>by
       have hlt:i<ps.length:=qa
       simp only[lget,List.getD_eq_getElem?_getD,List.getElem?_eq_getElem hlt,Option.getD_some];exact(hall _ (List.getElem_mem hlt)).1,λi j q hi hq=>by
       obtain⟨p,v,u,q1,q2,q3,q4,q5,q6⟩:=key i j q hi hq;exact⟨u,q5,q6.2,q6.1.mono (λ_ _ h=>h) (λb o h=>World.cell?_alloc_lt _ _ _ (g1.lt b o h))⟩⟩⟩
      (λb hb=>by
       simp at hb;subst hb;exact⟨g1.mine _ (Nat.le_refl _),by simp,λq r' hq _ hbq=>absurd (hm1.mine q r' _ hq hbq).2 qa⟩)
      (λj r b hj _ hbj=>⟨heap_alloc_old w _ (hm1.mine j r b hj hbj).2,λ_ h=>h⟩)
     refine⟨.slice (some ⟨w.heap.size,0,none⟩) len len,w.alloc (.cells A e),_,_,.value ?_,st1.trans st2,czm ρ id _,.vec hv,by simpa using hmem⟩
     ·simp only[execOp,ho,Instr.buildSlice,zM,run_underlying hu,zL,dzf hs];rw[qb qa];have f1':Instr.fill (λi=>some (i * s,s)) ((jB (len * s)).map (z[· % z.size]!)) (parts.toList.map λx=>(x.1,a.eval x.2))=some A:=by rw[e1];exact f1
      by_cases h0:len * s=0
      ·rw[qc h0]at hz⊢;subst hz;simp only[zM,zN,zL,jR];simp only[f1',newRow,zM,run_newObj,zL,zN];rfl
      ·rw[qb h0]at hz⊢;subst hz;simp only[zM,hzv,zN,zL,jR];simp only[f1',newRow,zM,run_newObj,zL,zN];rfl
    ·cases h
   ·cases h
  ·cases h
 ·cases h
end Go.Abs
