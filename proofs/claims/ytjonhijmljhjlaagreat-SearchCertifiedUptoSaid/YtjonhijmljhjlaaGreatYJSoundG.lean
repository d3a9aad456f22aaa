import Derived.Test.YtjonhijmljhjlaaGreatYJSoundF
open Array renaming getElem?_eq_getElem->zE
open Bool renaming and_eq_true->qm
open Go renaming TypeId->qq,Operand->zI
open Go.Op renaming operands->zV
open List renaming all_eq_true->ql,getElem?_of_mem->jc,getElem?_eq_some_iff->zD,getElem?_eq_getElem->wE,length_cons->wB,length_nil->w8,getElem?_toArray->jd
open Nat renaming succ_mul->zZ,mul_le_mul_right->zn
open Option renaming map_some->wQ
namespace Go.Abs
variable {P:Program} {o:Oper} {env:zI->AVal} {m:Mem} {id:Nat}
theorem oz2 {w:World}{t e:qq}{b off s:Nat}{c:Array Value}{v:Value}(hs:cz2 P t=some s)(hv:v.cells.size=s)(hb:w.heap[b]?=some (.cells c e (0,0)))
 (hle:off+s<=c.size) (h1:∀u∈v.cells.toList,u.oneCell'=true):
 (storeVar t ⟨b,off,none⟩ v).run P w=.ok () (w.setRow b (c.toList.take off++v.cells.toList++c.toList.drop (off+v.cells.toList.length)).toArray):=by
 have:=run_storeCells_at (P:=P) b off e v.cells.toList 0 c w hb (by simp;omega) h1;simp only[Nat.add_zero]at this;simp only[storeVar,Sem.run_bind,dzf hs,Result.andThen_ok];rw[qb (by simp[hv])];simpa using this
theorem Step.write {Mine:Nat->Prop}{F:Cells}{w:World}(g:Good F w Mine){b:Nat}{c c':Array Value}{e:qq}(hb:w.heap[b]?=some (.cells c e (0,0)))(hmine:Mine b)
 (hF:∀o,F b o->c'[o]?=c[o]?):Step Mine F w F (w.setRow b c'):=by
 refine⟨λ_ _ h=>h,λb' o h=>?_,λ_ _ h=>.inl h,λb' o h=>by simpa using g.lt b' o h,⟨rfl,rfl,rfl,by simp,λk hk hm=>setRow_other w b k c' (λe=>hm (e▸hmine))⟩⟩;by_cases hbb:b'=b
 ·subst hbb;rw[cell_setRow_same w b' o c c' e _ hb,cell_of_row w b' o c e _ hb];exact hF o h
 ·exact cell_setRow_other w b c' _ hbb
theorem Kz8 {l:List AVal}{ps:List PVal}(h:allP l=some ps)(hs:ps.all (·.scalar)=true):l.all (·.scalar)=true:=by
 obtain⟨h1,h2⟩:=nz0 h;rw[ql]at hs⊢;intro a ha;obtain⟨j,hj⟩:=jc ha;have hlt:j<ps.length:=by have:=(zD.1 hj).1;omega
 obtain⟨b,hb,hbp⟩:=h2 j _ (wE hlt);rw[hj]at hb;cases hb;have:=hs _ (List.getElem_mem hlt);cases a<;>simp[AVal.toP]at hbp<;>simp[AVal.scalar]
 subst hbp;revert this;generalize ps[j]=p;cases p<;>simp[PVal.scalar]
theorem rzt {p:PVal}{cs:List PVal}(hl:p.cells.length=cs.length)(hs:p.scalar=true->cs.all (·.scalar)=true):(Izj p cs).cells=cs:=by
 cases p with
 |agg l=>rfl
 |_=>
  simp only[PVal.cells,wB,w8]at hl;obtain⟨q,rfl⟩:=List.length_eq_one_iff.1 hl.symm;have:=hs rfl;simp at this;simp[Izj,PVal.cells_scalar this]
theorem Mzo {t:qq}{x y:zI}{i sz k off s n sh:Nat}{f:Nat->PVal}{e:qq}{ps:List PVal}{el:PVal}{ob:Option Prop}(ho:o.op=.store t x y)(hs:cz2 P t=some s)(hvl:(env y).cells.length=s)
 (hx:env x=.eptr i sz k off) (hcs:m.get i=some (.vec sz n f sh e)) (hps:allP (env y).cells=some ps) (hpsc:ps.all (·.scalar)=true) (hoff:(f k).cells.length=sz->off+s<=(f k).cells.length)
 (hel':(f k).cells.length=sz->el.cells=(f k).cells.take off++ps++(f k).cells.drop (off+s)) (hkn:k<n) (hsk:sh<=k):
 Sound1 P o env m id ⟨.any,[i],[(i,.vec sz n (λj=>if j=k then el else f j) sh e)],ob⟩:=by
 have run:∀ {a:Act} {w w':World} {b off:Nat},a.eval x=.pointer (some ⟨b,off,none⟩)->(storeVar t ⟨b,off,none⟩ (a.eval y)).run P w=.ok () w'->Ran P o a w undef w':=by
  intro a w w' b off hx hr;exact .inr ⟨by simp[execOp,ho,Instr.storeAt,Instr.sureAddr,hx,hr],rfl⟩
 intro F w ρ Mine M a hm g fr hrd hfe ha;have hM:=(hrd i (by simp)).trans hcs;have hax:=ha x (by simp[ho,zV]);have hay:=ha y (by simp[ho,zV]);rw[hx]at hax;generalize hu:a.eval x=u at hax;cases hax with
 |eptr hvec=>
  rename_i b n' cap;obtain⟨hshn,hok⟩:=hm.ok i _ hM;rcases hok with⟨hnone,hn0⟩|⟨b',cap',c,hv',hb,hnc,hcm,hcsz,hFk,hsz,hel⟩
  ·omega
  ·rw[hvec]at hv';cases hv';have hallsc:(env y).cells.all (·.scalar)=true:=Kz8 hps hpsc;obtain⟨hpl,hpg⟩:=nz0 hps;obtain⟨hvs,hvc⟩:=hay.cells hallsc;have h1:∀u∈(a.eval y).cells.toList,u.oneCell'=true:=by
    intro u hu';obtain⟨j,hj⟩:=jc hu';have hlt:j<(env y).cells.length:=by have:=(zD.1 hj).1;simp at this;omega
    exact(hvc j _ u (wE hlt) (by simpa using hj)).2
   have hfk:(f k).cells.length=sz:=hsz k hkn;have hoff:=hoff hfk;have hsub:k * sz+sz<=c.size:=by rw[hcsz,<-zZ];exact zn _ qa
   have hr:=oz2 (P:=P) (off:=k * sz+off) hs qa hb qa h1;have hmine:=hm.mine i _ b hM (.inl (by simp[bzg,hvec]));have hvlen:(a.eval y).cells.toList.length=s:=by simp;omega
   have hget:∀q,((c.toList.take (k * sz+off)++(a.eval y).cells.toList++c.toList.drop (k * sz+off+(a.eval y).cells.toList.length)).toArray)[q]?=
    if k * sz+off<=q/\q<k * sz+off+s then(a.eval y).cells[q- (k * sz+off)]? else c[q]?:=by
    intro q;rw[jd,iz0 _ _ _ _ (by simp;omega),hvlen];simp
   have st:Step Mine F w F (w.setRow b (c.toList.take (k * sz+off)++(a.eval y).cells.toList++c.toList.drop (k * sz+off+(a.eval y).cells.toList.length)).toArray):=by
    refine Step.write g hb hmine.1 (λo h=>?_);have h2:=hFk o h;have h3:sh * sz<=k * sz:=zn _ hsk;rw[hget,qb qa]
   refine⟨undef,_,F,ρ,run hu hr,st,λ_ _=>⟨rfl,rfl⟩,.any,?_⟩;have hnl:((f k).cells.take off++ps++(f k).cells.drop (off+s)).length=(f k).cells.length:=by
    have:=ezh (f k).cells ps off qa;rwa[show ps.length=s from qa]at this
   have hmk:=hel' hfk;refine MemOk.step hm st (λ_=>True) (λ_ _=>⟨rfl,rfl⟩) [(i,_)] (λj r h hn=>⟨trivial,λk hk=>absurd trivial hk,λb' hbj=>⟨?_,λ_ h=>h⟩⟩) (λj r h=>?_) (λj j' r r' b h h' _ _=>?_)
   ·refine setRow_other w _ b' _ (λe=>?_);subst e;have:=hm.disj i j _ r _ hM h (.inl (by simp[bzg,hvec])) hbj;subst this;simp[Mem.get]at hn
   ·simp only[Mem.get]at h;split at h
    ·rename_i e1;subst e1;cases h;refine⟨⟨hshn,.inr ⟨b,cap,_,hvec,setRow_heap w _ c _ e _ hb,hnc,hcm,?_,hFk,λq hq=>?_,λq j p hq hp=>?_⟩⟩,λb' hbb=>⟨?_,?_,λk r' hk hn hbk=>?_⟩⟩
     ·rw[List.size_toArray,ezh _ _ _ (by simp;omega)];simpa using hcsz
     ·by_cases hqk:q=k
      ·subst hqk;simp only[if_true];rw[hmk,hnl];exact hfk
      ·simp only[qb hqk];exact hsz q hq
     ·rw[hget];by_cases hqk:q=k
      ·subst hqk;simp only[if_true]at hp;rw[hmk]at hp;have hog:=iz0 (f q).cells ps off j qa;rw[show ps.length=s from qa]at hog;rw[hog]at hp;by_cases hin:off<=j/\j<off+s
       ·rw[qc hin]at hp;rw[qc qa];obtain⟨aa,ha1,ha2⟩:=hpg _ _ hp;have hlt:j-off<(a.eval y).cells.size:=qa
        obtain⟨r1,r2⟩:=hvc (j-off) aa _ ha1 (zE hlt);refine⟨(a.eval y).cells[j-off],?_,r2,(r1.toP ha2).mono st.sub st.cell⟩;rw[show q * sz+j- (q * sz+off)=j-off from qa];exact zE hlt
       ·rw[qb hin]at hp;rw[qb qa];obtain⟨u,u1,u2,u3⟩:=hel q j p hq hp;exact⟨u,u1,u2,u3.mono st.sub st.cell⟩
      ·simp only[qb hqk]at hp;obtain⟨u,u1,u2,u3⟩:=hel q j p hq hp;have hjs:j<sz:=by have:=(zD.1 hp).1;rw[hsz q hq]at this;exact this
       have hne:¬ (k * sz+off<=q * sz+j/\q * sz+j<k * sz+off+s):=by
        rcases Nat.lt_or_gt_of_ne hqk with hlt|hgt
        ·have:(q+1) * sz<=k * sz:=zn _ hlt;rw[zZ]at this;omega
        ·have:(k+1) * sz<=q * sz:=zn _ hgt;rw[zZ]at this;omega
       rw[qb hne];exact⟨u,u1,u2,u3.mono st.sub st.cell⟩
     ·simp only[owns_vec,hvec,wQ,Option.some.injEq]at hbb;subst hbb;exact hmine.1
     ·simp only[owns_vec,hvec,wQ,Option.some.injEq]at hbb;subst hbb;simpa using hmine.2
     ·simp only[owns_vec,hvec,wQ,Option.some.injEq]at hbb;subst hbb;have:=hm.disj i k _ r' _ hM hk (.inl (by simp[bzg,hvec])) hbk;subst this;simp[Mem.get]at hn
    ·cases h
   ·simp only[Mem.get]at h h';split at h
    ·split at h'
     ·rename_i e1 e2;exact e1.symm.trans e2
     ·cases h'
    ·cases h
theorem Rzc {t:qq}{x y:zI}{out:Out}(ho:o.op=.store t x y)(h:Dzf P t (env x) (env y) m=some out)(hob:holds out.obl):Sound1 P o env m id out:=by
 unfold Dzf at h;split at h
 ·cases h
 ·rename_i s hs;split at h
  ·rename_i hvl;have run:∀ {a:Act} {w w':World} {b off:Nat},a.eval x=.pointer (some ⟨b,off,none⟩)->(storeVar t ⟨b,off,none⟩ (a.eval y)).run P w=.ok () w'->Ran P o a w undef w':=by
    intro a w w' b off hx hr;exact .inr ⟨by simp[execOp,ho,Instr.storeAt,Instr.sureAddr,hx,hr],rfl⟩
   split at h
   ·rename_i i off hx;split at h
    ·rename_i cs hcs;split at h
     ·rename_i hc;simp only[qm,qf]at hc;cases h;intro F w ρ Mine M a hm g fr hrd hfe ha;have hM:=(hrd i (by simp)).trans hcs;obtain⟨c,e,hb,hl,hnF,hrel⟩:=Vz7 hm hM;have hax:=ha x (by simp[ho,zV]);have hay:=ha y (by simp[ho,zV]);rw[hx]at hax;generalize hu:a.eval x=u at hax;cases hax with
      |ptr=>
       obtain⟨hvs,hvc⟩:=hay.cells hc.2;have h1:∀u∈(a.eval y).cells.toList,u.oneCell'=true:=by
        intro u hu';obtain⟨j,hj⟩:=jc hu';have hlt:j<(env y).cells.length:=by have:=(zD.1 hj).1;simp at this;omega
        exact(hvc j _ u (wE hlt) (by simpa using hj)).2
       have hr:=oz2 (P:=P) (off:=off) hs qa hb qa h1;have hmine:=hm.mine i _ _ hM (.inl rfl)
       have st:Step Mine F w F (w.setRow (ρ.blk i) (c.toList.take off++(a.eval y).cells.toList++c.toList.drop (off+(a.eval y).cells.toList.length)).toArray):=
        Step.write g hb hmine.1 (λo h=>absurd h (hnF o))
       refine⟨undef,_,F,ρ,run hu hr,st,λ_ _=>⟨rfl,rfl⟩,.any,?_⟩;refine MemOk.step hm st (λ_=>True) (λ_ _=>⟨rfl,rfl⟩) [(i,_)] (λj r h hn=>⟨trivial,λk hk=>absurd trivial hk,λb hbj=>⟨?_,λ_ h=>h⟩⟩) (λj r h=>?_) (λj j' r r' b h h' _ _=>?_)
       ·refine setRow_other w _ b _ (λe=>?_);subst e;have:=hm.disj i j _ r _ hM h (.inl rfl) hbj;subst this;simp[Mem.get]at hn
       ·simp only[Mem.get]at h;split at h
        ·rename_i e1;subst e1;cases h;have old:LRel F w ρ cs c.toList:=⟨by simpa using hl.symm,λj a v h1 h2=>(hrel j a v h1 (by simpa using h2)).1⟩;have new:LRel F w ρ (env y).cells (a.eval y).cells.toList:=⟨by simpa using hvs,λj a v h1 h2=>(hvc j a v h1 (by simpa using h2)).1⟩;have both:=old.over new off qa;rw[hvl]at both;refine⟨⟨_,e,setRow_heap w _ c _ e _ hb,by simpa using both.1.symm,hnF,λj b v hb' hv=>⟨(both.2 j b v hb' (by simpa using hv)).mono' st.sub st.cell,?_⟩⟩,λb hbb=>⟨?_,?_,λk r' hk hn hbk=>?_⟩⟩
         ·rw[jd,iz0 _ _ _ _ (by simp;omega)]at hv;split at hv
          ·exact h1 v (List.mem_of_getElem? hv)
          ·have hlt:j<cs.length:=by have:=(zD.1 hv).1;simp at this;omega
           exact(hrel j _ v (wE hlt) (by simpa using hv)).2
         ·cases hbb.resolve_right (λh=>h);exact hmine.1
         ·cases hbb.resolve_right (λh=>h);simpa using hmine.2
         ·cases hbb.resolve_right (λh=>h);have:=hm.disj i k _ r' _ hM hk (.inl rfl) hbk;subst this;simp[Mem.get]at hn
        ·cases h
       ·simp only[Mem.get]at h h';split at h
        ·split at h'
         ·rename_i e1 e2;exact e1.symm.trans e2
         ·cases h'
        ·cases h
     ·cases h
    ·cases h
   ·rename_i i sz k off hx;split at h
    ·rename_i sz' n f sh e hcs;split at h
     ·rename_i ps hps;split at h
      ·rename_i hc;simp only[qm,qf]at hc;obtain⟨⟨rfl,hoff⟩,hpsc⟩:=hc;cases h;obtain⟨hkn,hsk⟩:=hob;refine Mzo ho hs hvl hx hcs hps hpsc (λ_=>hoff) (λhfk=>?_) hkn hsk;obtain⟨hpl,hpg⟩:=nz0 hps;have hnl:((f k).cells.take off++ps++(f k).cells.drop (off+s)).length=(f k).cells.length:=by
        have:=ezh (f k).cells ps off qa;rwa[show ps.length=s from qa]at this
       refine rzt hnl.symm (λhsc=>?_);have h1:=PVal.cells_scalar hsc;rw[h1]at hfk⊢;simp only[wB,w8]at hfk;simp only[List.all_append,qm];refine⟨⟨?_,hpsc⟩,?_⟩
       ·rw[ql];intro z hz;have:=List.mem_of_mem_take hz;simp at this;subst this;exact hsc
       ·rw[ql];intro z hz;have:=List.mem_of_mem_drop hz;simp at this;subst this;exact hsc
      ·cases h
     ·cases h
    ·cases h
   ·cases h
  ·cases h
theorem az69 {t:qq}{x y:zI}{out:Out}(ho:o.op=.store t x y)(h:Pzs P t (env x) (env y) m=some out)(hob:holds out.obl):Sound1 P o env m id out:=by
 unfold Pzs at h;split at h
 ·rename_i i sz k hx;split at h
  ·rename_i sz' n f sh e hcs;split at h
   ·rename_i ps hps;split at h
    ·rename_i hc;simp only[qm,qf]at hc;obtain⟨⟨⟨rfl,hs⟩,hpl⟩,hsc⟩:=hc;have hl:=(nz0 hps).1;have fin:∀el:PVal,el.cells=ps->(k<n/\sh<=k)->Sound1 P o env m id ⟨.any,[i],[(i,.vec sz n (λj=>if j=k then el else f j) sh e)],some (k<n/\sh<=k)⟩:=by
      intro el hel hb;refine Mzo (off:=0) (s:=sz) ho hs qa hx hcs hps hsc (λh=>qa) (λhfk=>?_) hb.1 hb.2;rw[hel];simp[hfk]
     split at h
     ·cases h;exact fin (.agg ps) rfl hob
     ·split at h
      ·rename_i p;cases h;exact fin p (PVal.cells_scalar (by simpa using hsc)) hob
      ·cases h
     ·cases h
    ·cases h
   ·cases h
  ·cases h
 ·cases h
end Go.Abs
