/-
  SoundB (a part of a claim: our own text).
-/
import Derived.Test.YtkbjjlfpbebiaaaGreatDoorYKSoundEq
import Derived.WalkLawsBesides
namespace Go.Abs
variable {P:Program} {o:Oper} {env:Operand->AVal} {m:Mem} {id:Nat}
theorem Ran.value {a:Act}{w w':World}{v:Value}(h:(execOp a.eval o).run P w=.ok (.value v) w'):Ran P o a w v w':=.inl h
theorem Vzh {x:Operand}(ho:o.op=.move x):Sound1 P o env m id (.v (env x)):=
 Sound1.still fun F w ρ Mine M a _ _ hx=>⟨a.eval x,.value (by simp[execOp,ho]),hx x (by simp[ho,Op.operands])⟩
theorem Rzv {x:Operand}(ho:o.op=.assign x):Sound1 P o env m id (.v (env x)):=
 Sound1.still fun F w ρ Mine M a _ _ hx=>⟨a.eval x,.value (by simp[execOp,ho]),hx x (by simp[ho,Op.operands])⟩
theorem Szz {c x y:Operand}(ho:o.op=.pick c x y){b:Bool}(hc:env c=if b then .tt else .ff):Sound1 P o env m id (.v (env (if b then x else y))):=
 Sound1.still fun F w ρ Mine M a _ _ hx=>by
  have h1:=hx c (by simp[ho,Op.operands])
  have hv:a.eval c=.bool b:=by
   rw[hc]at h1
   generalize a.eval c=u at h1⊢
   cases b<;>cases h1<;>rfl
  refine⟨a.eval (if b then x else y),.value ?_,hx _ (by cases b<;>simp[ho,Op.operands])⟩
  cases b<;>simp[execOp,ho,hv,asBool]
theorem Nzi {x:Operand}(ho:o.op=.nilCheck x)(h:match env x with| .ptr _ _| .eptr _ _ _ _| .ref _| .func _ _ _| .iface _ _=>True|_=>False):Sound1 P o env m id (.v (env x)):=
 Sound1.still fun F w ρ Mine M a _ _ hx=>by
  have h1:=hx x (by simp[ho,Op.operands])
  refine⟨a.eval x,.value ?_,h1⟩
  revert h h1
  generalize env x=y
  generalize hv:a.eval x=v
  intro h h1
  cases h1<;>first|(exact h.elim)|(simp[execOp,ho,hv])
theorem uzy (l:List Operand){F:Cells}{w:World}{ρ:Env}{a:Act}(h:∀x∈l,ARel F w ρ (env x) (a.eval x)):
 (l.map env).length=(l.map a.eval).length/\∀ (j:Nat) (y:AVal) (v:Value),(l.map env)[j]?=some y->(l.map a.eval)[j]?=some v->ARel F w ρ y v:=by
 refine⟨by simp,fun j y v h1 h2=>?_⟩
 simp only[List.getElem?_map,Option.map_eq_some_iff]at h1 h2
 obtain⟨x,hx,rfl⟩:=h1
 obtain⟨x',hx',rfl⟩:=h2
 rw[hx]at hx';cases hx'
 exact h x (List.mem_of_getElem? hx)
theorem Nzh {f:Nat}{xs ys:Array Operand}(ho:o.op=.makeFunc (.func f) xs ys):Sound1 P o env m id (.v (.func f (xs.toList.map env) (ys.toList.map env))):=
 Sound1.still fun F w ρ Mine M a _ _ hx=>by
  have h1:=uzy (env:=env) xs.toList (F:=F) (w:=w) (ρ:=ρ) (a:=a) (fun x h=>hx x (by simp[ho,Op.operands];exact .inl (by simpa using h)))
  have h2:=uzy (env:=env) ys.toList (F:=F) (w:=w) (ρ:=ρ) (a:=a) (fun x h=>hx x (by simp[ho,Op.operands];exact .inr (by simpa using h)))
  refine⟨.func (.func f) (xs.map a.eval) (ys.map a.eval),.value (by simp[execOp,ho,Instr.makeFunc]),.func (by simp) (fun j y v hy hv=>h1.2 j y v hy ?_) (by simp) (fun j y v hy hv=>h2.2 j y v hy ?_)⟩
  ·simpa using hv
  ·simpa using hv
theorem Pzm {x:Operand}{i:Nat}{cs:List AVal}{v:AVal}(ho:o.op=.extract x i)(hx:env x=.tup cs)(hv:cs[i]?=some v):Sound1 P o env m id (.v v):=
 Sound1.still fun F w ρ Mine M a _ _ h=>by
  have h1:=h x (by simp[ho,Op.operands])
  rw[hx]at h1
  generalize hu:a.eval x=u at h1
  cases h1 with
  |tup hl hr=>
   rename_i vs
   have hlt:i<vs.size:=hl▸(List.getElem?_eq_some_iff.1 hv).1
   exact⟨vs[i],.value (by simp[execOp,ho,hu,Instr.extract,hlt]),hr i v _ hv (by simp[hlt])⟩
theorem Azo {F:Cells}{w:World}{ρ:Env}{Mine:Nat->Prop}{M:Mem}{i:Nat}{cs:List AVal}(hm:MemOk F w ρ Mine M)(h:M.get i=some (.box cs)):
 ∃c e,w.heap[ρ.blk i]?=some (.cells c e (0,0))/\c.size=cs.length/\(∀o,¬F (ρ.blk i) o)/\∀ (j:Nat) (a:AVal) (v:Value),cs[j]?=some a->c[j]?=some v->ARel F w ρ a v/\v.oneCell'=true:=hm.ok i _ h
theorem Vzg {t:TypeId}{x:Operand}{out:Out}(ho:o.op=.load t x)(h:sz4 P t (env x) m=some out)(hob:holds out.obl):Sound1 P o env m id out:=by
 have run:∀ {a:Act} {w:World} {b off:Nat} {v:Value},a.eval x=.pointer (some ⟨b,off,none⟩)->(loadVar t ⟨b,off,none⟩).run P w=.ok v w->Ran P o a w v w:=by
  intro a w b off v hx hr
  exact .value (by simp[execOp,ho,Instr.loadAt,Instr.sureAddr,hx,hr])
 cases hx:env x with
 |ref p=>
  rw[hx]at h
  have hwr:out.wr=[]:=by
   unfold sz4 at h;simp only at h
   split at h<;>first|(split at h<;>first|(simp at h;subst h;rfl)|(cases h))|cases h
  obtain⟨val,rd,wr,ob⟩:=out
  simp only at hwr;subst hwr
  refine Sound1.still fun F w ρ Mine M a _ _ ha=>?_
  have h1:=ha x (by simp[ho,Op.operands])
  rw[hx]at h1
  generalize hu:a.eval x=u at h1
  cases h1 with
  |ref hp=>
   obtain⟨v,hr,hv,_⟩:=Rzd (ρ:=ρ) h hp
   exact⟨v,run hu hr,hv⟩
 |ptr i off=>
  rw[hx]at h
  simp only[sz4]at h
  split at h
  ·rename_i cs hcs
   split at h
   ·rename_i v hv
    simp at h;subst h
    refine Sound1.still fun F w ρ Mine M a hm hrd ha=>?_
    have h1:=ha x (by simp[ho,Op.operands])
    rw[hx]at h1
    generalize hu:a.eval x=u at h1
    cases h1 with
    |ptr=>
     obtain⟨c,e,hb,hl,_,hr⟩:=Azo hm ((hrd i (by simp)).trans hcs)
     rcases Hzg (F:=F) (w:=w) (ρ:=ρ) hv hl.symm (fun j a v h1 h2=>(hr j a v h1 h2).1)with⟨h1,s,h2,h3,h4⟩|⟨h1,u,h2,h3⟩
     ·exact⟨_,run hu (izu hb (.inl ⟨h1,s,h2,h3,rfl⟩)),h4⟩
     ·exact⟨_,run hu (izu hb (.inr ⟨h1,h2⟩)),h3⟩
   ·cases h
  ·cases h
 |eptr i sz k off=>
  rw[hx]at h
  simp only[sz4]at h
  split at h
  ·rename_i sz' n f sh e hcs
   split at h
   ·rename_i hszz
    split at h
    ·rename_i p hp
     simp at h;subst h;subst hszz
     refine Sound1.still fun F w ρ Mine M a hm hrd ha=>?_
     have h1:=ha x (by simp[ho,Op.operands])
     rw[hx]at h1
     generalize hu:a.eval x=u at h1
     cases h1 with
     |eptr hvec=>
      rename_i b n' cap
      have hkn:k<n:=hob
      rcases hm.ok i _ ((hrd i (by simp)).trans hcs)with⟨_,⟨hnone,hn0⟩|⟨b',cap',c,hv',hb,hnc,hcm,hcs',hFk,hsz,hel⟩⟩
      ·omega
      ·rw[hvec]at hv'
       cases hv'
       have hlen:=hsz k hkn
       have hcell:∀ (j:Nat) (q:PVal),(f k).cells[j]?=some q->∃v,c[k * sz+j]?=some v/\v.oneCell'=true/\PRel F w q v:=fun j q hq=>hel k j q hkn hq
       have hsub:k * sz+sz≤c.size:=by
        rw[hcs',←Nat.succ_mul];exact Nat.mul_le_mul_right _ (by omega)
       have hr:∀ (j:Nat) (q:PVal) (v:Value),(f k).cells[j]?=some q->(c.extract (k * sz) (k * sz+sz))[j]?=some v->PRel F w q v:=by
        intro j q v hq hv
        obtain⟨u,hu,_,hr⟩:=hcell j q hq
        rw[Array.getElem?_extract]at hv
        split at hv
        ·rw[hu]at hv;cases hv;exact hr
        ·cases hv
       have hext:(c.extract (k * sz) (k * sz+sz)).size=sz:=by simp;omega
       rcases Cz3 (F:=F) (w:=w) hp (by rw[hlen,hext]) hr with⟨h1,s,h2,h3,h4⟩|⟨h1,u,h2,h3⟩
       ·refine⟨_,run hu (izu hb (.inl ⟨h1,s,h2,?_,rfl⟩)),.pure ?_⟩
        ·rw[hext]at h3;omega
        ·have:c.extract (k * sz+off) (k * sz+off+s)=(c.extract (k * sz) (k * sz+sz)).extract off (off+s):=by
          rw[hext]at h3
          refine Array.ext (by simp;omega) fun q hq1 hq2=>?_
          simp[Nat.add_assoc]
         rw[this];exact h4
       ·refine⟨u,run hu (izu hb (.inr ⟨h1,?_⟩)),.pure h3⟩
        rw[Array.getElem?_extract]at h2
        split at h2
        ·exact h2
        ·cases h2
    ·cases h
   ·cases h
  ·cases h
 |_=>rw[hx]at h;simp[sz4]at h
theorem szu {w:World}{b off:Nat}{s:TypeId}{f fo:Nat}{ft:TypeId}(h:Lz5 P s f=some (fo,ft)):
 ∀ (v:Value),v=.pointer (some ⟨b,off,none⟩)->(Instr.fieldAt s v f).run P w=.ok (.pointer (some ⟨b,off+fo,none⟩)) w:=by
 rintro v rfl
 unfold Lz5 at h
 split at h
 ·rename_i fs hu
  split at h
  ·rename_i x hx
   split at h
   ·rename_i k hk
    simp at h
    obtain⟨rfl,rfl⟩:=h
    simp only[Instr.fieldAt,Sem.run_bind,run_underlying hu,Result.andThen_ok,hx,Instr.sureAddr,Sem.run_pure,fieldPlace,cz2 hk]
    simp[dzg]
   ·cases h
  ·cases h
 ·cases h
theorem Uz5 {s:TypeId}{x:Operand}{f:Nat}{out:Out}(ho:o.op=.fieldAddr s x f)(h:Kzx P s (env x) f=some out):Sound1 P o env m id out:=by
 unfold Kzx at h
 split at h
 ·rename_i fo ft hf
  split at h
  ·rename_i i off hx
   simp at h;subst h
   refine Sound1.still fun F w ρ Mine M a hm hrd ha=>?_
   have h1:=ha x (by simp[ho,Op.operands])
   rw[hx]at h1
   generalize hu:a.eval x=u at h1
   cases h1 with
   |ptr=>exact⟨_,.value (by simp only[execOp,ho,Sem.run_bind,szu hf _ hu,Result.andThen_ok,Sem.run_pure]),.ptr⟩
  ·rename_i i sz k off hx
   simp at h;subst h
   refine Sound1.still fun F w ρ Mine M a hm hrd ha=>?_
   have h1:=ha x (by simp[ho,Op.operands])
   rw[hx]at h1
   generalize hu:a.eval x=u at h1
   cases h1 with
   |eptr hv=>
    refine⟨_,.value (by simp only[execOp,ho,Sem.run_bind,szu hf _ hu,Result.andThen_ok,Sem.run_pure];rfl),?_⟩
    rw[Nat.add_assoc]
    exact .eptr hv
  ·rename_i cs hx
   split at h
   ·rename_i q hq
    simp at h;subst h
    refine Sound1.still fun F w ρ Mine M a hm hrd ha=>?_
    have h1:=ha x (by simp[ho,Op.operands])
    rw[hx]at h1
    generalize hu:a.eval x=u at h1
    cases h1 with
    |ref hp=>exact⟨_,.value (by simp only[execOp,ho,Sem.run_bind,szu hf _ hu,Result.andThen_ok,Sem.run_pure]),.ref (hp.part hq)⟩
   ·cases h
  ·cases h
 ·cases h
theorem Rzw {s:TypeId}{x:Operand}{f:Nat}{out:Out}(ho:o.op=.field s x f)(h:Gzf P s (env x) f=some out):Sound1 P o env m id out:=by
 unfold Gzf at h
 split at h
 ·rename_i fs hu
  split at h
  ·rename_i fd hfd
   have run:∀ {a:Act} {w:World} {vs:Array Value} {v:Value},a.eval x=.agg vs->(part fd.type vs fd.offset).run P w=.ok v w->Ran P o a w v w:=by
    intro a w vs v hx hr
    exact .value (by simp only[execOp,ho,Instr.field,Sem.run_bind,run_underlying hu,Result.andThen_ok,hfd,hx,asAgg,Sem.run_pure,hr])
   split at h
   ·rename_i cs hx
    simp only[Option.map_eq_some_iff]at h
    obtain⟨v,hv,rfl⟩:=h
    refine Sound1.still fun F w ρ Mine M a hm hrd ha=>?_
    have h1:=ha x (by simp[ho,Op.operands])
    rw[hx]at h1
    generalize hu:a.eval x=u at h1
    cases h1 with
    |agg hl hr=>
     rcases Hzg (F:=F) (w:=w) (ρ:=ρ) hv hl hr with⟨h1,s,h2,h3,h4⟩|⟨h1,u,h2,h3⟩
     ·exact⟨_,run hu (kzj (.inl ⟨h1,s,h2,rfl⟩)),h4⟩
     ·exact⟨_,run hu (kzj (.inr ⟨h1,h2⟩)),h3⟩
   ·rename_i cs hx
    simp only[Option.map_eq_some_iff]at h
    obtain⟨v,hv,rfl⟩:=h
    refine Sound1.still fun F w ρ Mine M a hm hrd ha=>?_
    have h1:=ha x (by simp[ho,Op.operands])
    rw[hx]at h1
    obtain⟨vs,hu,hl,hr⟩:=h1.pure_inv.agg_inv
    rcases Cz3 (F:=F) (w:=w) hv hl hr with⟨h1,s,h2,h3,h4⟩|⟨h1,u,h2,h3⟩
    ·exact⟨_,run hu (kzj (.inl ⟨h1,s,h2,rfl⟩)),.pure h4⟩
    ·exact⟨_,run hu (kzj (.inr ⟨h1,h2⟩)),.pure h3⟩
   ·cases h
  ·cases h
 ·cases h
theorem Lzr {t:TypeId}{x i:Operand}{out:Out}(ho:o.op=.indexAddr t x i)(h:szs P t (env x) (env i) m=some out)(hob:holds out.obl):Sound1 P o env m id out:=by
 unfold szs at h
 split at h
 ·rename_i ik iv hi
  have hiv:∀ {F:Cells} {w:World} {ρ:Env} {a:Act},(∀x∈o.op.operands,ARel F w ρ (env x) (a.eval x))->a.eval i=.int ik iv:=fun ha=>
   (hi▸ha i (by simp[ho,Op.operands])).pure_inv.int_inv
  split at h
  ·rename_i e hu
   split at h
   ·rename_i sz n f hx
    split at h
    ·rename_i hs
     simp at h;subst h
     obtain⟨h0,hn⟩:=hob
     refine Sound1.still fun F w ρ Mine M a hm hrd ha=>?_
     have h1:=ha x (by simp[ho,Op.operands])
     rw[hx]at h1
     rcases h1.pure_inv.lst_inv with⟨hv,hn0⟩|⟨_,_,_,hn0,_⟩|⟨b,off,cap,c,hv,hnc,hcm,hsz,hc,hr⟩
     ·omega
     ·omega
     ·refine⟨.pointer (some ⟨b,off+iv.toNat * sz,none⟩),.value ?_,.ref ⟨fun j=>c (iv.toNat * sz+j),fun j q hq=>?_⟩⟩
      ·simp only[execOp,ho,Instr.indexAt,Sem.run_bind,hiv ha,hv,asIntOf,Sem.run_pure,Result.andThen_ok,run_underlying hu]
       simp[h0,hn,cz2 hs,dzg]
      ·have hlt:iv.toNat<n:=by omega
       have h2:=hc iv.toNat j q hlt hq
       rw[Nat.add_assoc]
       exact⟨h2.1,h2.2.1,h2.2.2,hr iv.toNat j q hlt hq⟩
    ·cases h
   ·rename_i k hx
    split at h
    ·rename_i sz n f sh e' hk
     split at h
     ·rename_i hs
      simp at h;subst h
      obtain⟨h0,hn⟩:=hob
      refine Sound1.still fun F w ρ Mine M a hm hrd ha=>?_
      have h1:=ha x (by simp[ho,Op.operands])
      rw[hx]at h1
      have hres:=hm.ok k _ ((hrd k (by simp)).trans hk)
      generalize hu':a.eval x=u at h1
      rcases hres with⟨_,⟨hnone,hn0⟩|⟨b',cap',c,hv',hb,hnc,hcm,hcs',hFk,hsz,hel⟩⟩
      ·omega
      ·cases h1 with
       |vnil hh=>rw[hh]at hv';cases hv'
       |vec hh=>
        rename_i b n2 cap
        rw[hh]at hv';cases hv'
        refine⟨.pointer (some ⟨b',iv.toNat * sz+0,none⟩),.value ?_,.eptr hh⟩
        simp only[execOp,ho,Instr.indexAt,Sem.run_bind,hiv ha,hu',asIntOf,Sem.run_pure,Result.andThen_ok,run_underlying hu]
        simp[h0,hn,cz2 hs,dzg]
     ·cases h
    ·cases h
   ·cases h
  ·rename_i len e hu
   split at h
   ·rename_i s hs
    have run:∀ {a:Act} {w:World} {b off:Nat},a.eval i=.int ik iv->a.eval x=.pointer (some ⟨b,off,none⟩)->0≤iv/\iv<len->
     Ran P o a w (.pointer (some ⟨b,off+iv.toNat * s,none⟩)) w:=by
     intro a w b off h1 h2 h3
     refine .value ?_
     simp only[execOp,ho,Instr.indexAt,Sem.run_bind,h1,h2,asIntOf,Sem.run_pure,Result.andThen_ok,run_underlying hu,Instr.sureAddr]
     simp[h3,cz2 hs,dzg]
    split at h
    ·rename_i k off hx
     simp at h;subst h
     refine Sound1.still fun F w ρ Mine M a hm hrd ha=>?_
     have h1:=ha x (by simp[ho,Op.operands])
     rw[hx]at h1
     generalize hu':a.eval x=u at h1
     cases h1 with
     |ptr=>exact⟨_,run (hiv ha) hu' hob,.ptr⟩
    ·rename_i k sz q off hx
     simp at h;subst h
     refine Sound1.still fun F w ρ Mine M a hm hrd ha=>?_
     have h1:=ha x (by simp[ho,Op.operands])
     rw[hx]at h1
     generalize hu':a.eval x=u at h1
     cases h1 with
     |eptr hv=>refine⟨_,run (hiv ha) hu' hob,?_⟩;rw[Nat.add_assoc];exact .eptr hv
    ·rename_i cs hx
     split at h
     ·rename_i q hq
      simp at h;subst h
      refine Sound1.still fun F w ρ Mine M a hm hrd ha=>?_
      have h1:=ha x (by simp[ho,Op.operands])
      rw[hx]at h1
      generalize hu':a.eval x=u at h1
      cases h1 with
      |ref hp=>exact⟨_,run (hiv ha) hu' hob,.ref (hp.part hq)⟩
     ·cases h
    ·cases h
   ·cases h
  ·cases h
 ·cases h
theorem Uz7 {t:TypeId}{x i:Operand}{out:Out}(ho:o.op=.index t x i)(h:Kzz P t (env x) (env i)=some out)(hob:holds out.obl):Sound1 P o env m id out:=by
 unfold Kzz at h
 split at h
 ·rename_i ik iv hi
  have hiv:∀ {F:Cells} {w:World} {ρ:Env} {a:Act},(∀x∈o.op.operands,ARel F w ρ (env x) (a.eval x))->a.eval i=.int ik iv:=fun ha=>
   (hi▸ha i (by simp[ho,Op.operands])).pure_inv.int_inv
  split at h
  ·rename_i len e hu
   split at h
   ·rename_i s ps hs hx
    have core:∀ (p:PVal),0≤iv->iv<len->Cz2 P e ps (iv.toNat * s)=some p->Sound1 P o env m id ⟨.pure p,[],[],some (0≤iv/\iv<len)⟩:=by
     intro p h0 hn hp
     refine Sound1.still fun F w ρ Mine M a hm hrd ha=>?_
     have h1:=ha x (by simp[ho,Op.operands])
     rw[hx]at h1
     obtain⟨vs,hu',hl,hr⟩:=h1.pure_inv.agg_inv
     have run:∀ {v:Value},(part e vs (iv.toNat * s)).run P w=.ok v w->Ran P o a w v w:=fun hp=>.value (by
      simp only[execOp,ho,Instr.index,Sem.run_bind,hiv ha,hu',asIntOf,Sem.run_pure,Result.andThen_ok,run_underlying hu]
      simp[h0,hn,cz2 hs,hp])
     rcases Cz3 (F:=F) (w:=w) hp hl hr with⟨h1,s,h2,h3,h4⟩|⟨h1,u,h2,h3⟩
     ·exact⟨_,run (kzj (.inl ⟨h1,s,h2,rfl⟩)),.pure h4⟩
     ·exact⟨_,run (kzj (.inr ⟨h1,h2⟩)),.pure h3⟩
    split at h
    ·rename_i k l hl
     simp at h;subst h
     obtain⟨h0,hn⟩:=hob
     refine core _ h0 hn ?_
     unfold Mze at hl
     split at hl
     ·rename_i k' hk hs1
      rw[hs]at hs1;cases hs1
      split at hl
      ·rename_i l' hl'
       split at hl
       ·rename_i hlen
        cases hl
        have key:∀ (ps:List PVal) (l:List Int),xzr k ps=some l->∀j,j<l.length->ps[j]?=some (.int k (l.getD j 0)):=by
         intro ps
         induction ps with
         |nil=>intro l h j hj;simp[xzr]at h;subst h;simp at hj
         |cons p ps ih=>
          intro l h j hj
          cases p<;>simp only[xzr]at h<;>try cases h
          split at h
          ·rename_i hk;subst hk
           split at h
           ·rename_i r hr
            cases h
            cases j with
            |zero=>simp
            |succ j=>simpa using ih r hr j (by simpa using hj)
           ·cases h
          ·cases h
        have hg:=key ps l hl' iv.toNat (by omega)
        unfold Cz2 dzk
        rw[hk,hs]
        simp only[Nat.mul_one,hg]
        rfl
       ·cases hl
      ·cases hl
     ·cases hl
    ·split at h
     ·rename_i p hp
      simp at h;subst h
      obtain⟨h0,hn⟩:=hob
      exact core p h0 hn hp
     ·cases h
   ·cases h
  ·rename_i hu
   split at h
   ·rename_i s hx
    cases h
    obtain⟨h0,hn⟩:=hob
    refine Sound1.still fun F w ρ Mine M a hm hrd ha=>?_
    have h1:=(hx▸ha x (by simp[ho,Op.operands])).pure_inv.str_inv
    have hlt:iv.toNat<s.size:=by omega
    have hlt':iv.toNat<s.data.size:=hlt
    refine⟨.int .u8 (s.data.getD iv.toNat 0).toNat,.value ?_,.pure .int⟩
    have hg:s[iv.toNat]?=some (s.data.getD iv.toNat 0):=by
     rw[getElem?_pos s iv.toNat hlt]
     simp[Array.getD,ByteArray.getElem_eq_getElem_data]
     omega
    simp only[execOp,ho,Instr.index,Sem.run_bind,hiv ha,h1,asIntOf,Sem.run_pure,Result.andThen_ok,run_underlying hu,h0,if_true,hg]
   ·cases h
  ·cases h
 ·cases h
variable {P:Program} {o:Oper} {env:Operand->AVal} {m:Mem} {id:Nat}
theorem Qz3 (P:Program):20≤P.depth:=by simp[Program.depth,Made.depth];omega
theorem Nzs {F:Cells}{w:World}{op:BinOp}{t:TypeId}{p q r:PVal}{ob:Option Prop}{v u:Value}(x y:Operand)(h:Qz5 P op t p q=some (r,ob))(hob:holds ob)
 (hp:PRel F w p v) (hq:PRel F w q u):(eqGuard op t x y v u).run P w=.ok () w/\∃z,(binOp op t v u).run P w=.ok z w/\PRel F w r z:=by
 unfold Qz5 at h
 split at h
 ·rename_i k a k' b
  obtain rfl:=hp.int_inv
  obtain rfl:=hq.int_inv
  refine⟨by cases op<;>simp[eqGuard],?_⟩
  cases op<;>simp only at h<;>(try(split at h))<;>(try(cases h;done))<;>(try(rename_i hk;subst hk))<;>simp only[Option.some.injEq,Prod.mk.injEq]at h<;>obtain⟨rfl,rfl⟩:=h
  all_goals simp only[holds]at hob
  all_goals first
   |(refine⟨_,?_,.int⟩;simp only[binOp,Op.intArith,ne_eq,not_true_eq_false,if_false,Sem.run_pure];done)
   |(refine⟨_,?_,.bool⟩;simp only[binOp,Op.intCmp,ne_eq,not_true_eq_false,if_false,Sem.run_pure];done)
   |(refine⟨_,?_,.int⟩;simp only[binOp,Op.intBits,ne_eq,not_true_eq_false,if_false,Sem.run_pure];done)
   |(refine⟨_,?_,.int⟩;simp only[binOp,Op.intDiv,ne_eq,not_true_eq_false,if_false,hob,Sem.run_pure];done)
   |(refine⟨_,?_,.int⟩;simp only[binOp,Op.shift,Int.not_lt.2 hob,if_false,Sem.run_pure];done)
 ·rename_i a b
  obtain rfl:=hp.bool_inv
  obtain rfl:=hq.bool_inv
  split at h
  ·rename_i hu
   refine⟨by cases op<;>simp[eqGuard],?_⟩
   cases op<;>simp only at h<;>(try(cases h;done))<;>simp only[Option.some.injEq,Prod.mk.injEq]at h<;>obtain⟨rfl,rfl⟩:=h
   ·exact⟨_,by simp[binOp,run_equal_bool w t a b hu],.bool⟩
   ·exact⟨_,by simp only[binOp,Sem.run_bind,run_equal_bool w t a b hu,Result.andThen_ok,Sem.run_pure],.bool⟩
  ·cases h
 ·rename_i a b
  obtain rfl:=hp.str_inv
  obtain rfl:=hq.str_inv
  refine⟨by cases op<;>simp[eqGuard],?_⟩
  cases op<;>simp only at h<;>(try(cases h;done))<;>simp only[Option.some.injEq,Prod.mk.injEq]at h<;>obtain⟨rfl,rfl⟩:=h
  ·exact⟨_,by simp only[binOp,Op.stringOp,Sem.run_pure,beq_toListBytes],.bool⟩
  ·exact⟨_,by simp only[binOp,Op.stringOp,Sem.run_pure,bne,beq_toListBytes],.bool⟩
 ·rename_i xs ys
  obtain⟨vs,rfl,hl,hr⟩:=hp.agg_inv
  obtain⟨us,rfl,hl',hr'⟩:=hq.agg_inv
  split at h
  ·rename_i ks hks
   split at h
   ·rename_i hf
    simp only[Bool.and_eq_true]at hf
    split at h
    ·rename_i rr hrr
     obtain⟨⟨hag,hf1⟩,hf2⟩:=hf
     have hag:dzk P t=some true:=by simpa using hag
     have hq:=Az1 (F:=F) (w:=w) 20 t ks hks 9980 (.agg vs) (.agg us) xs ys rr (.inl ⟨hag,vs,rfl,hl,hr⟩) (.inl ⟨hag,us,rfl,hl',hr'⟩) hf1 hf2 hrr
     refine⟨run_eqGuard_agg w op t x y vs us (wzf 20 t ks hks P.depth (Qz3 P)),?_⟩
     cases op<;>simp only at h<;>(try(cases h;done))<;>simp only[Option.some.injEq,Prod.mk.injEq]at h<;>obtain⟨rfl,rfl⟩:=h
     ·exact⟨_,by rw[run_eql_struct,hq];rfl,.bool⟩
     ·exact⟨_,by rw[run_neq_struct,hq];rfl,.bool⟩
    ·cases h
   ·cases h
  ·cases h
 ·cases h
theorem Wz5 {op:BinOp}{t t':TypeId}{x y:Operand}{p q r:PVal}{ob:Option Prop}(ho:o.op=.binOp op t x y t')(hx:(env x).toP=some p)(hy:(env y).toP=some q)
 (h:Qz5 P op t p q=some (r,ob)) (hob:holds ob):Sound1 P o env m id ⟨.pure r,[],[],ob⟩:=
 Sound1.still fun F w ρ Mine M a _ _ ha=>by
  obtain⟨h1,z,h2,h3⟩:=Nzs (w:=w) x y h hob ((ha x (by simp[ho,Op.operands])).toP hx) ((ha y (by simp[ho,Op.operands])).toP hy)
  exact⟨z,.value (by simp only[execOp,ho,Sem.run_bind,h1,h2,Result.andThen_ok,Sem.run_pure]),.pure h3⟩
theorem Vzi {t:TypeId}{x:Operand}{b:Bool}(ho:o.op=.unOp .not t x)(hx:env x=if b then .tt else .ff):Sound1 P o env m id (.v (if b then .ff else .tt)):=
 Sound1.still fun F w ρ Mine M a _ _ ha=>by
  have h1:=ha x (by simp[ho,Op.operands])
  have hv:a.eval x=.bool b:=by
   rw[hx]at h1
   generalize a.eval x=u at h1⊢
   cases b<;>cases h1<;>rfl
  refine⟨.bool (!b),.value (by simp[execOp,ho,hv,Op.unary]),?_⟩
  cases b
  ·exact .tt
  ·exact .ff
theorem s_un {op:UnOp}{t:TypeId}{x:Operand}{p r:PVal}(ho:o.op=.unOp op t x)(hx:env x=.pure p)(h:evUn op p=some r):Sound1 P o env m id (.v (.pure r)):=
 Sound1.still fun F w ρ Mine M a _ _ ha=>by
  have h1:=(hx▸ha x (by simp[ho,Op.operands])).pure_inv
  unfold evUn at h
  split at h
  ·cases h
   have hv:=h1.bool_inv
   exact⟨_,.value (by simp only[execOp,ho,hv,Op.unary,Sem.run_bind,Sem.run_pure,Result.andThen_ok]),.pure .bool⟩
  ·cases h
   have hv:=h1.int_inv
   exact⟨_,.value (by simp only[execOp,ho,hv,Op.unary,Op.intArith,Sem.run_bind,Sem.run_pure,Result.andThen_ok]),.pure .int⟩
  ·cases h
   have hv:=h1.int_inv
   exact⟨_,.value (by simp only[execOp,ho,hv,Op.unary,Op.intBits,Sem.run_bind,Sem.run_pure,Result.andThen_ok]),.pure .int⟩
  ·cases h
theorem Vze {s d:TypeId}{x:Operand}{p r:PVal}(ho:o.op=.convert s d x)(hs:(P.underlying s).isSome=true)(hx:(env x).toP=some p)(h:Oz3 P d p=some r):Sound1 P o env m id (.v (.pure r)):=
 Sound1.still fun F w ρ Mine M a _ _ ha=>by
  have h1:=(ha x (by simp[ho,Op.operands])).toP hx
  obtain⟨ds,hds⟩:=Option.isSome_iff_exists.1 hs
  unfold Oz3 at h
  split at h
  ·rename_i hu
   cases h
   have hv:=h1.int_inv
   refine⟨_,.value ?_,.pure .int⟩
   simp only[execOp,ho,hv,convert,Sem.run_bind,run_underlying hds,run_underlying hu,Result.andThen_ok,Conv.intToInt,Sem.run_pure]
  ·rename_i hu
   cases h
   have hv:=h1.str_inv
   refine⟨_,.value ?_,.pure .str⟩
   simp only[execOp,ho,hv,convert,Sem.run_bind,run_underlying hds,run_underlying hu,Result.andThen_ok,Sem.run_pure]
  ·cases h
theorem qzm {a:Act}{w:World}{x:Operand}{ts:Array TypeId}{n:Int}(ho:o.op=.call {callee:=.builtin .len,args:=#[x],argTypes:=ts})
 (h:(Builtin.len_ ts o.type #[a.eval x]).run P w=.ok (.int .i64 n) w):Ran P o a w (.int .i64 n) w:=by
 refine .value ?_
 simp only[execOp,ho,resolve,Sem.run_bind,Sem.run_pure,Result.andThen_ok,invoke,builtin,List.map_toArray,List.map_cons,List.map_nil,h]
theorem Wz8 {x:Operand}{ts:Array TypeId}{out:Out}(ho:o.op=.call {callee:=.builtin .len,args:=#[x],argTypes:=ts})(h:Lz0 P ts (env x) m=some out):Sound1 P o env m id out:=by
 have hop:x∈o.op.operands:=by simp[ho,Op.operands,Call.operands]
 unfold Lz0 at h
 split at h
 ·rename_i t ht
  split at h
  ·rename_i e sz n f hu hx
   cases h
   refine Sound1.still fun F w ρ Mine M a _ _ ha=>⟨.int .i64 n,qzm ho ?_,.pure .int⟩
   rcases(hx▸ha x hop).pure_inv.lst_inv with⟨hv,hn0⟩|⟨_,_,hv,hn0,_⟩|⟨b,off,cap,c,hv,_⟩
   ·subst hn0
    simp[Builtin.len_,ht,hv,run_underlying hu,goInt]
   ·subst hn0
    simp[Builtin.len_,ht,hv,run_underlying hu,goInt]
   ·simp[Builtin.len_,ht,hv,run_underlying hu,goInt]
  ·rename_i e i n hu hx
   cases h
   refine Sound1.still fun F w ρ Mine M a _ _ ha=>⟨.int .i64 n,qzm ho ?_,.pure .int⟩
   have h1:=hx▸ha x hop
   generalize a.eval x=u at h1⊢
   cases h1 with
   |bsl=>simp[Builtin.len_,ht,run_underlying hu,goInt]
  ·rename_i e i hu hx
   split at h
   ·rename_i sz n f sh e' hk
    cases h
    refine Sound1.still fun F w ρ Mine M a hm hrd ha=>⟨.int .i64 n,qzm ho ?_,.pure .int⟩
    have h1:=hx▸ha x hop
    generalize a.eval x=u at h1⊢
    rcases hm.ok i _ ((hrd i (by simp)).trans hk)with⟨_,⟨hnone,hn0⟩|⟨b',cap',c,hv',_⟩⟩
    ·subst hn0
     cases h1 with
     |vec hh=>rw[hh]at hnone;cases hnone
     |vnil hh=>
      simp[Builtin.len_,ht,run_underlying hu,goInt]
    ·cases h1 with
     |vnil hh=>rw[hh]at hv';cases hv'
     |vec hh=>
      rw[hh]at hv';cases hv'
      simp[Builtin.len_,ht,run_underlying hu,goInt]
   ·rename_i sz n f kk e' off s' e'' hs hk
    cases h
    refine Sound1.still fun F w ρ Mine M a hm hrd ha=>⟨.int .i64 n,qzm ho ?_,.pure .int⟩
    have h1:=hx▸ha x hop
    generalize a.eval x=u at h1⊢
    rcases hm.ok i _ ((hrd i (by simp)).trans hk)with⟨_,_,⟨hnone,hn0,_⟩|⟨b',cap',c,hv',_⟩⟩
    ·subst hn0
     cases h1 with
     |vec hh=>rw[hh]at hnone;cases hnone
     |vnil hh=>
      simp[Builtin.len_,ht,run_underlying hu,goInt]
    ·cases h1 with
     |vnil hh=>rw[hh]at hv';cases hv'
     |vec hh=>
      rw[hh]at hv';cases hv'
      simp[Builtin.len_,ht,run_underlying hu,goInt]
   ·rename_i hk
    cases h
    refine Sound1.still fun F w ρ Mine M a hm hrd ha=>⟨.int .i64 (0:Nat),qzm ho ?_,.pure .int⟩
    have h1:=hx▸ha x hop
    generalize a.eval x=u at h1⊢
    have hnone:ρ.vec i=none:=hm.ok i _ ((hrd i (by simp)).trans hk)
    cases h1 with
    |vec hh=>rw[hh]at hnone;cases hnone
    |vnil hh=>
     simp[Builtin.len_,ht,run_underlying hu,goInt]
   ·cases h
  ·rename_i s hu hx
   cases h
   refine Sound1.still fun F w ρ Mine M a _ _ ha=>⟨.int .i64 s.size,qzm ho ?_,.pure .int⟩
   have hv:=(hx▸ha x hop).pure_inv.str_inv
   simp[Builtin.len_,ht,hv,run_underlying hu,goInt]
  ·rename_i n e hu
   cases h
   refine Sound1.still fun F w ρ Mine M a _ _ ha=>⟨.int .i64 n,qzm ho ?_,.pure .int⟩
   simp[Builtin.len_,ht,run_underlying hu,goInt]
  ·cases h
 ·cases h
end Go.Abs
