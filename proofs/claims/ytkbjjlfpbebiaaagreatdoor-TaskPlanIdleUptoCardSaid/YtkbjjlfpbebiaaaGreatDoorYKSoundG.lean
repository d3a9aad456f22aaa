/-
  SoundG (a part of a claim: our own text).
-/
import Derived.Test.YtkbjjlfpbebiaaaGreatDoorYKSoundF
namespace Go.Abs
variable {P:Program} {o:Oper} {env:Operand->AVal} {m:Mem} {id:Nat}
theorem jzg {w:World}{t e:TypeId}{b off s:Nat}{c:Array Value}{v:Value}(hs:bzi P t=some s)(hv:v.cells.size=s)(hb:w.heap[b]?=some (.cells c e (0,0)))
 (hle:off+s≤c.size) (h1:∀u∈v.cells.toList,u.oneCell'=true):
 (storeVar t ⟨b,off,none⟩ v).run P w=.ok () (w.setRow b (c.toList.take off++v.cells.toList++c.toList.drop (off+v.cells.toList.length)).toArray):=by
 have:=run_storeCells_at (P:=P) b off e v.cells.toList 0 c w hb (by simp;omega) h1
 simp only[Nat.add_zero]at this
 simp only[storeVar,Sem.run_bind,cz2 hs,Result.andThen_ok]
 rw[if_neg (by simp[hv])]
 simpa using this
theorem Step.write {Mine:Nat->Prop}{F:Cells}{w:World}(g:Good F w Mine){b:Nat}{c c':Array Value}{e:TypeId}(hb:w.heap[b]?=some (.cells c e (0,0)))(hmine:Mine b)
 (hF:∀o,F b o->c'[o]?=c[o]?):Step Mine F w F (w.setRow b c'):=by
 refine⟨fun _ _ h=>h,fun b' o h=>?_,fun _ _ h=>.inl h,fun b' o h=>by simpa using g.lt b' o h,⟨rfl,rfl,rfl,by simp,fun k hk hm=>setRow_other w b k c' (fun e=>hm (e▸hmine))⟩⟩
 by_cases hbb:b'=b
 ·subst hbb
  rw[cell_setRow_same w b' o c c' e _ hb,cell_of_row w b' o c e _ hb]
  exact hF o h
 ·exact cell_setRow_other w b c' _ hbb
theorem Aze {l:List AVal}{ps:List PVal}(h:allP l=some ps)(hs:ps.all (·.scalar)=true):l.all (·.scalar)=true:=by
 obtain⟨h1,h2⟩:=gzu h
 rw[List.all_eq_true]at hs⊢
 intro a ha
 obtain⟨j,hj⟩:=List.getElem?_of_mem ha
 have hlt:j<ps.length:=by have:=(List.getElem?_eq_some_iff.1 hj).1;omega
 obtain⟨b,hb,hbp⟩:=h2 j _ (List.getElem?_eq_getElem hlt)
 rw[hj]at hb;cases hb
 have:=hs _ (List.getElem_mem hlt)
 cases a<;>simp[AVal.toP]at hbp<;>simp[AVal.scalar]
 subst hbp
 revert this
 generalize ps[j]=p
 cases p<;>simp[PVal.scalar]
theorem jze {p:PVal}{cs:List PVal}(hl:p.cells.length=cs.length)(hs:p.scalar=true->cs.all (·.scalar)=true):(nza p cs).cells=cs:=by
 cases p with
 |agg l=>rfl
 |_=>
  simp only[PVal.cells,List.length_cons,List.length_nil]at hl
  obtain⟨q,rfl⟩:=List.length_eq_one_iff.1 hl.symm
  have:=hs rfl
  simp at this
  simp[nza,PVal.cells_scalar this]
theorem Dz3 {t:TypeId}{x y:Operand}{i sz k off s n sh:Nat}{f:Nat->PVal}{e:TypeId}{ps:List PVal}{el:PVal}{ob:Option Prop}(ho:o.op=.store t x y)(hs:bzi P t=some s)(hvl:(env y).cells.length=s)
 (hx:env x=.eptr i sz k off) (hcs:m.get i=some (.vec sz n f sh e)) (hps:allP (env y).cells=some ps) (hpsc:ps.all (·.scalar)=true) (hoff:(f k).cells.length=sz->off+s≤(f k).cells.length)
 (hel':(f k).cells.length=sz->el.cells=(f k).cells.take off++ps++(f k).cells.drop (off+s)) (hkn:k<n) (hsk:sh≤k):
 Sound1 P o env m id ⟨.any,[i],[(i,.vec sz n (fun j=>if j=k then el else f j) sh e)],ob⟩:=by
 have run:∀ {a:Act} {w w':World} {b off:Nat},a.eval x=.pointer (some ⟨b,off,none⟩)->(storeVar t ⟨b,off,none⟩ (a.eval y)).run P w=.ok () w'->Ran P o a w undef w':=by
  intro a w w' b off hx hr
  exact .inr ⟨by simp[execOp,ho,Instr.storeAt,Instr.sureAddr,hx,hr],rfl⟩
 intro F w ρ Mine M a hm g fr hrd hfe ha
 have hM:=(hrd i (by simp)).trans hcs
 have hax:=ha x (by simp[ho,Op.operands])
 have hay:=ha y (by simp[ho,Op.operands])
 rw[hx]at hax
 generalize hu:a.eval x=u at hax
 cases hax with
 |eptr hvec=>
  rename_i b n' cap
  obtain⟨hshn,hok⟩:=hm.ok i _ hM
  rcases hok with⟨hnone,hn0⟩|⟨b',cap',c,hv',hb,hnc,hcm,hcsz,hFk,hsz,hel⟩
  ·omega
  ·rw[hvec]at hv';cases hv'
   have hallsc:(env y).cells.all (·.scalar)=true:=Aze hps hpsc
   obtain⟨hpl,hpg⟩:=gzu hps
   obtain⟨hvs,hvc⟩:=hay.cells hallsc
   have h1:∀u∈(a.eval y).cells.toList,u.oneCell'=true:=by
    intro u hu'
    obtain⟨j,hj⟩:=List.getElem?_of_mem hu'
    have hlt:j<(env y).cells.length:=by have:=(List.getElem?_eq_some_iff.1 hj).1;simp at this;omega
    exact(hvc j _ u (List.getElem?_eq_getElem hlt) (by simpa using hj)).2
   have hfk:(f k).cells.length=sz:=hsz k hkn
   have hoff:=hoff hfk
   have hsub:k * sz+sz≤c.size:=by rw[hcsz,←Nat.succ_mul];exact Nat.mul_le_mul_right _ (by omega)
   have hr:=jzg (P:=P) (off:=k * sz+off) hs (by omega) hb (by omega) h1
   have hmine:=hm.mine i _ b hM (.inl (by simp[bzc,hvec]))
   have hvlen:(a.eval y).cells.toList.length=s:=by simp;omega
   have hget:∀q,((c.toList.take (k * sz+off)++(a.eval y).cells.toList++c.toList.drop (k * sz+off+(a.eval y).cells.toList.length)).toArray)[q]?=
    if k * sz+off≤q/\q<k * sz+off+s then(a.eval y).cells[q- (k * sz+off)]? else c[q]?:=by
    intro q
    rw[List.getElem?_toArray,ezc _ _ _ _ (by simp;omega),hvlen]
    simp
   have st:Step Mine F w F (w.setRow b (c.toList.take (k * sz+off)++(a.eval y).cells.toList++c.toList.drop (k * sz+off+(a.eval y).cells.toList.length)).toArray):=by
    refine Step.write g hb hmine.1 (fun o h=>?_)
    have h2:=hFk o h
    have h3:sh * sz≤k * sz:=Nat.mul_le_mul_right _ hsk
    rw[hget,if_neg (by omega)]
   refine⟨undef,_,F,ρ,run hu hr,st,fun _ _=>⟨rfl,rfl⟩,.any,?_⟩
   have hnl:((f k).cells.take off++ps++(f k).cells.drop (off+s)).length=(f k).cells.length:=by
    have:=dz4 (f k).cells ps off (by omega)
    rwa[show ps.length=s by omega]at this
   have hmk:=hel' hfk
   refine MemOk.step hm st (fun _=>True) (fun _ _=>⟨rfl,rfl⟩) [(i,_)] (fun j r h hn=>⟨trivial,fun k hk=>absurd trivial hk,fun b' hbj=>⟨?_,fun _ h=>h⟩⟩) (fun j r h=>?_) (fun j j' r r' b h h' _ _=>?_)
   ·refine setRow_other w _ b' _ (fun e=>?_)
    subst e
    have:=hm.disj i j _ r _ hM h (.inl (by simp[bzc,hvec])) hbj
    subst this
    simp[Mem.get]at hn
   ·simp only[Mem.get]at h
    split at h
    ·rename_i e1;subst e1;cases h
     refine⟨⟨hshn,.inr ⟨b,cap,_,hvec,setRow_heap w _ c _ e _ hb,hnc,hcm,?_,hFk,fun q hq=>?_,fun q j p hq hp=>?_⟩⟩,fun b' hbb=>⟨?_,?_,fun k r' hk hn hbk=>?_⟩⟩
     ·rw[List.size_toArray,dz4 _ _ _ (by simp;omega)];simpa using hcsz
     ·by_cases hqk:q=k
      ·subst hqk;simp only[if_true];rw[hmk,hnl];exact hfk
      ·simp only[if_neg hqk];exact hsz q hq
     ·rw[hget]
      by_cases hqk:q=k
      ·subst hqk
       simp only[if_true]at hp
       rw[hmk]at hp
       have hog:=ezc (f q).cells ps off j (by omega)
       rw[show ps.length=s by omega]at hog
       rw[hog]at hp
       by_cases hin:off≤j/\j<off+s
       ·rw[if_pos hin]at hp
        rw[if_pos (by omega)]
        obtain⟨aa,ha1,ha2⟩:=hpg _ _ hp
        have hlt:j-off<(a.eval y).cells.size:=by omega
        obtain⟨r1,r2⟩:=hvc (j-off) aa _ ha1 (Array.getElem?_eq_getElem hlt)
        refine⟨(a.eval y).cells[j-off],?_,r2,(r1.toP ha2).mono st.sub st.cell⟩
        rw[show q * sz+j- (q * sz+off)=j-off by omega]
        exact Array.getElem?_eq_getElem hlt
       ·rw[if_neg hin]at hp
        rw[if_neg (by omega)]
        obtain⟨u,u1,u2,u3⟩:=hel q j p hq hp
        exact⟨u,u1,u2,u3.mono st.sub st.cell⟩
      ·simp only[if_neg hqk]at hp
       obtain⟨u,u1,u2,u3⟩:=hel q j p hq hp
       have hjs:j<sz:=by have:=(List.getElem?_eq_some_iff.1 hp).1;rw[hsz q hq]at this;exact this
       have hne:¬ (k * sz+off≤q * sz+j/\q * sz+j<k * sz+off+s):=by
        rcases Nat.lt_or_gt_of_ne hqk with hlt|hgt
        ·have:(q+1) * sz≤k * sz:=Nat.mul_le_mul_right _ hlt
         rw[Nat.succ_mul]at this;omega
        ·have:(k+1) * sz≤q * sz:=Nat.mul_le_mul_right _ hgt
         rw[Nat.succ_mul]at this;omega
       rw[if_neg hne]
       exact⟨u,u1,u2,u3.mono st.sub st.cell⟩
     ·simp only[owns_vec,hvec,Option.map_some,Option.some.injEq]at hbb;subst hbb;exact hmine.1
     ·simp only[owns_vec,hvec,Option.map_some,Option.some.injEq]at hbb;subst hbb;simpa using hmine.2
     ·simp only[owns_vec,hvec,Option.map_some,Option.some.injEq]at hbb;subst hbb
      have:=hm.disj i k _ r' _ hM hk (.inl (by simp[bzc,hvec])) hbk
      subst this
      simp[Mem.get]at hn
    ·cases h
   ·simp only[Mem.get]at h h'
    split at h
    ·split at h'
     ·rename_i e1 e2;exact e1.symm.trans e2
     ·cases h'
    ·cases h
theorem Hzs {t:TypeId}{x y:Operand}{out:Out}(ho:o.op=.store t x y)(h:szt P t (env x) (env y) m=some out)(hob:holds out.obl):Sound1 P o env m id out:=by
 unfold szt at h
 split at h
 ·cases h
 ·rename_i s hs
  split at h
  ·rename_i hvl
   have run:∀ {a:Act} {w w':World} {b off:Nat},a.eval x=.pointer (some ⟨b,off,none⟩)->(storeVar t ⟨b,off,none⟩ (a.eval y)).run P w=.ok () w'->Ran P o a w undef w':=by
    intro a w w' b off hx hr
    exact .inr ⟨by simp[execOp,ho,Instr.storeAt,Instr.sureAddr,hx,hr],rfl⟩
   split at h
   ·rename_i i off hx
    split at h
    ·rename_i cs hcs
     split at h
     ·rename_i hc
      simp only[Bool.and_eq_true,decide_eq_true_eq]at hc
      cases h
      intro F w ρ Mine M a hm g fr hrd hfe ha
      have hM:=(hrd i (by simp)).trans hcs
      obtain⟨c,e,hb,hl,hnF,hrel⟩:=Azo hm hM
      have hax:=ha x (by simp[ho,Op.operands])
      have hay:=ha y (by simp[ho,Op.operands])
      rw[hx]at hax
      generalize hu:a.eval x=u at hax
      cases hax with
      |ptr=>
       obtain⟨hvs,hvc⟩:=hay.cells hc.2
       have h1:∀u∈(a.eval y).cells.toList,u.oneCell'=true:=by
        intro u hu'
        obtain⟨j,hj⟩:=List.getElem?_of_mem hu'
        have hlt:j<(env y).cells.length:=by have:=(List.getElem?_eq_some_iff.1 hj).1;simp at this;omega
        exact(hvc j _ u (List.getElem?_eq_getElem hlt) (by simpa using hj)).2
       have hr:=jzg (P:=P) (off:=off) hs (by omega) hb (by omega) h1
       have hmine:=hm.mine i _ _ hM (.inl rfl)
       have st:Step Mine F w F (w.setRow (ρ.blk i) (c.toList.take off++(a.eval y).cells.toList++c.toList.drop (off+(a.eval y).cells.toList.length)).toArray):=
        Step.write g hb hmine.1 (fun o h=>absurd h (hnF o))
       refine⟨undef,_,F,ρ,run hu hr,st,fun _ _=>⟨rfl,rfl⟩,.any,?_⟩
       refine MemOk.step hm st (fun _=>True) (fun _ _=>⟨rfl,rfl⟩) [(i,_)] (fun j r h hn=>⟨trivial,fun k hk=>absurd trivial hk,fun b hbj=>⟨?_,fun _ h=>h⟩⟩) (fun j r h=>?_) (fun j j' r r' b h h' _ _=>?_)
       ·refine setRow_other w _ b _ (fun e=>?_)
        subst e
        have:=hm.disj i j _ r _ hM h (.inl rfl) hbj
        subst this
        simp[Mem.get]at hn
       ·simp only[Mem.get]at h
        split at h
        ·rename_i e1;subst e1;cases h
         have old:LRel F w ρ cs c.toList:=⟨by simpa using hl.symm,fun j a v h1 h2=>(hrel j a v h1 (by simpa using h2)).1⟩
         have new:LRel F w ρ (env y).cells (a.eval y).cells.toList:=⟨by simpa using hvs,fun j a v h1 h2=>(hvc j a v h1 (by simpa using h2)).1⟩
         have both:=old.over new off (by omega)
         rw[hvl]at both
         refine⟨⟨_,e,setRow_heap w _ c _ e _ hb,by simpa using both.1.symm,hnF,fun j b v hb' hv=>⟨(both.2 j b v hb' (by simpa using hv)).mono' st.sub st.cell,?_⟩⟩,fun b hbb=>⟨?_,?_,fun k r' hk hn hbk=>?_⟩⟩
         ·rw[List.getElem?_toArray,ezc _ _ _ _ (by simp;omega)]at hv
          split at hv
          ·exact h1 v (List.mem_of_getElem? hv)
          ·have hlt:j<cs.length:=by have:=(List.getElem?_eq_some_iff.1 hv).1;simp at this;omega
           exact(hrel j _ v (List.getElem?_eq_getElem hlt) (by simpa using hv)).2
         ·cases hbb.resolve_right (fun h=>h);exact hmine.1
         ·cases hbb.resolve_right (fun h=>h);simpa using hmine.2
         ·cases hbb.resolve_right (fun h=>h)
          have:=hm.disj i k _ r' _ hM hk (.inl rfl) hbk
          subst this
          simp[Mem.get]at hn
        ·cases h
       ·simp only[Mem.get]at h h'
        split at h
        ·split at h'
         ·rename_i e1 e2;exact e1.symm.trans e2
         ·cases h'
        ·cases h
     ·cases h
    ·cases h
   ·rename_i i sz k off hx
    split at h
    ·rename_i sz' n f sh e hcs
     split at h
     ·rename_i ps hps
      split at h
      ·rename_i hc
       simp only[Bool.and_eq_true,decide_eq_true_eq]at hc
       obtain⟨⟨rfl,hoff⟩,hpsc⟩:=hc
       cases h
       obtain⟨hkn,hsk⟩:=hob
       refine Dz3 ho hs hvl hx hcs hps hpsc (fun _=>hoff) (fun hfk=>?_) hkn hsk
       obtain⟨hpl,hpg⟩:=gzu hps
       have hnl:((f k).cells.take off++ps++(f k).cells.drop (off+s)).length=(f k).cells.length:=by
        have:=dz4 (f k).cells ps off (by omega)
        rwa[show ps.length=s by omega]at this
       refine jze hnl.symm (fun hsc=>?_)
       have h1:=PVal.cells_scalar hsc
       rw[h1]at hfk⊢
       simp only[List.length_cons,List.length_nil]at hfk
       simp only[List.all_append,Bool.and_eq_true]
       refine⟨⟨?_,hpsc⟩,?_⟩
       ·rw[List.all_eq_true];intro z hz;have:=List.mem_of_mem_take hz;simp at this;subst this;exact hsc
       ·rw[List.all_eq_true];intro z hz;have:=List.mem_of_mem_drop hz;simp at this;subst this;exact hsc
      ·cases h
     ·cases h
    ·cases h
   ·cases h
  ·cases h
theorem Sz5 {t:TypeId}{x y:Operand}{out:Out}(ho:o.op=.store t x y)(h:Gzm P t (env x) (env y) m=some out)(hob:holds out.obl):Sound1 P o env m id out:=by
 unfold Gzm at h
 split at h
 ·rename_i i sz k hx
  split at h
  ·rename_i sz' n f sh e hcs
   split at h
   ·rename_i ps hps
    split at h
    ·rename_i hc
     simp only[Bool.and_eq_true,decide_eq_true_eq]at hc
     obtain⟨⟨⟨rfl,hs⟩,hpl⟩,hsc⟩:=hc
     have hl:=(gzu hps).1
     have fin:∀el:PVal,el.cells=ps->(k<n/\sh≤k)->Sound1 P o env m id ⟨.any,[i],[(i,.vec sz n (fun j=>if j=k then el else f j) sh e)],some (k<n/\sh≤k)⟩:=by
      intro el hel hb
      refine Dz3 (off:=0) (s:=sz) ho hs (by omega) hx hcs hps hsc (fun h=>by omega) (fun hfk=>?_) hb.1 hb.2
      rw[hel]
      simp[hfk]
     split at h
     ·cases h;exact fin (.agg ps) rfl hob
     ·split at h
      ·rename_i p
       cases h
       exact fin p (PVal.cells_scalar (by simpa using hsc)) hob
      ·cases h
     ·cases h
    ·cases h
   ·cases h
  ·cases h
 ·cases h
end Go.Abs
