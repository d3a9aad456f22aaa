import Derived.Test.YtjonhijmljhjlaaGreatYJSoundEq
open Array renaming getElem?_extract->zU
open Go renaming TypeId->qq,Operand->zI,Value->qr,World->qn,execOp->zW,run_underlying->zX
open Go.Op renaming operands->zV
open Go.Result renaming andThen_ok->zL
open Go.Sem renaming run_bind->zM,run_pure->zN
open Nat renaming add_assoc->zt
open Option renaming map_eq_some_iff->zT
namespace Go.Abs
variable {P:Program} {o:Oper} {env:zI->AVal} {m:Mem} {id:Nat}
theorem Ran.value {a:Act}{w w':qn}{v:qr}(h:(zW a.eval o).run P w=.ok (.value v) w'):Ran P o a w v w':=.inl h
theorem azc0 {x:zI}(ho:o.op=.move x):Sound1 P o env m id (.v (env x)):=
 Sound1.still λF w ρ Mine M a _ _ hx=>⟨a.eval x,.value (by simp[zW,ho]),hx x (by simp[ho,zV])⟩
theorem az60 {x:zI}(ho:o.op=.assign x):Sound1 P o env m id (.v (env x)):=
 Sound1.still λF w ρ Mine M a _ _ hx=>⟨a.eval x,.value (by simp[zW,ho]),hx x (by simp[ho,zV])⟩
theorem az7b {c x y:zI}(ho:o.op=.pick c x y){b:Bool}(hc:env c=if b then .tt else .ff):Sound1 P o env m id (.v (env (if b then x else y))):=
 Sound1.still λF w ρ Mine M a _ _ hx=>by
  have h1:=hx c (by simp[ho,zV]);have hv:a.eval c=.bool b:=by
   rw[hc]at h1;generalize a.eval c=u at h1⊢;cases b<;>cases h1<;>rfl
  refine⟨a.eval (if b then x else y),.value ?_,hx _ (by cases b<;>simp[ho,zV])⟩;cases b<;>simp[zW,ho,hv,asBool]
theorem az00 {x:zI}(ho:o.op=.nilCheck x)(h:match env x with| .ptr _ _| .eptr _ _ _ _| .ref _| .func _ _ _| .iface _ _=>True|_=>False):Sound1 P o env m id (.v (env x)):=
 Sound1.still λF w ρ Mine M a _ _ hx=>by
  have h1:=hx x (by simp[ho,zV]);refine⟨a.eval x,.value ?_,h1⟩;revert h h1;generalize env x=y;generalize hv:a.eval x=v;intro h h1;cases h1<;>first|(exact h.elim)|(simp[zW,ho,hv])
theorem Fzt (l:List zI){F:Cells}{w:qn}{ρ:Env}{a:Act}(h:∀x∈l,ARel F w ρ (env x) (a.eval x)):
 (l.map env).length=(l.map a.eval).length/\∀ (j:Nat) (y:AVal) (v:qr),(l.map env)[j]?=some y->(l.map a.eval)[j]?=some v->ARel F w ρ y v:=by
 refine⟨by simp,λj y v h1 h2=>?_⟩;simp only[List.getElem?_map,zT]at h1 h2;obtain⟨x,hx,rfl⟩:=h1;obtain⟨x',hx',rfl⟩:=h2;rw[hx]at hx';cases hx';exact h x (List.mem_of_getElem? hx)
theorem Zzz {f:Nat}{xs ys:Array zI}(ho:o.op=.makeFunc (.func f) xs ys):Sound1 P o env m id (.v (.func f (xs.toList.map env) (ys.toList.map env))):=
 Sound1.still λF w ρ Mine M a _ _ hx=>by
  have h1:=Fzt (env:=env) xs.toList (F:=F) (w:=w) (ρ:=ρ) (a:=a) (λx h=>hx x (by simp[ho,zV];exact .inl (by simpa using h)));have h2:=Fzt (env:=env) ys.toList (F:=F) (w:=w) (ρ:=ρ) (a:=a) (λx h=>hx x (by simp[ho,zV];exact .inr (by simpa using h)));refine⟨.func (.func f) (xs.map a.eval) (ys.map a.eval),.value (by simp[zW,ho,Instr.makeFunc]),.func (by simp) (λj y v hy hv=>h1.2 j y v hy ?_) (by simp) (λj y v hy hv=>h2.2 j y v hy ?_)⟩
  ·simpa using hv
  ·simpa using hv
theorem az3a {x:zI}{i:Nat}{cs:List AVal}{v:AVal}(ho:o.op=.extract x i)(hx:env x=.tup cs)(hv:cs[i]?=some v):Sound1 P o env m id (.v v):=
 Sound1.still λF w ρ Mine M a _ _ h=>by
  have h1:=h x (by simp[ho,zV]);rw[hx]at h1;generalize hu:a.eval x=u at h1;cases h1 with
  |tup hl hr=>
   rename_i vs;have hlt:i<vs.size:=hl▸(List.getElem?_eq_some_iff.1 hv).1;exact⟨vs[i],.value (by simp[zW,ho,hu,Instr.extract,hlt]),hr i v _ hv (by simp[hlt])⟩
theorem Vz7 {F:Cells}{w:qn}{ρ:Env}{Mine:Nat->Prop}{M:Mem}{i:Nat}{cs:List AVal}(hm:MemOk F w ρ Mine M)(h:M.get i=some (.box cs)):
 ∃c e,w.heap[ρ.blk i]?=some (.cells c e (0,0))/\c.size=cs.length/\(∀o,¬F (ρ.blk i) o)/\∀ (j:Nat) (a:AVal) (v:qr),cs[j]?=some a->c[j]?=some v->ARel F w ρ a v/\v.oneCell'=true:=hm.ok i _ h
theorem azbz {t:qq}{x:zI}{out:Out}(ho:o.op=.load t x)(h:Cz3 P t (env x) m=some out)(hob:holds out.obl):Sound1 P o env m id out:=by
 have run:∀ {a:Act} {w:qn} {b off:Nat} {v:qr},a.eval x=.pointer (some ⟨b,off,none⟩)->(loadVar t ⟨b,off,none⟩).run P w=.ok v w->Ran P o a w v w:=by
  intro a w b off v hx hr;exact .value (by simp[zW,ho,Instr.loadAt,Instr.sureAddr,hx,hr])
 cases hx:env x with
 |ref p=>
  rw[hx]at h;have hwr:out.wr=[]:=by
   unfold Cz3 at h;simp only at h;split at h<;>first|(split at h<;>first|(simp at h;subst h;rfl)|(cases h))|cases h
  obtain⟨val,rd,wr,ob⟩:=out;simp only at hwr;subst hwr;refine Sound1.still λF w ρ Mine M a _ _ ha=>?_
  have h1:=ha x (by simp[ho,zV]);rw[hx]at h1;generalize hu:a.eval x=u at h1;cases h1 with
  |ref hp=>
   obtain⟨v,hr,hv,_⟩:=az5j (ρ:=ρ) h hp;exact⟨v,run hu hr,hv⟩
 |ptr i off=>
  rw[hx]at h;simp only[Cz3]at h;split at h
  ·rename_i cs hcs;split at h
   ·rename_i v hv;simp at h;subst h;refine Sound1.still λF w ρ Mine M a hm hrd ha=>?_
    have h1:=ha x (by simp[ho,zV]);rw[hx]at h1;generalize hu:a.eval x=u at h1;cases h1 with
    |ptr=>
     obtain⟨c,e,hb,hl,_,hr⟩:=Vz7 hm ((hrd i (by simp)).trans hcs);rcases Qzr (F:=F) (w:=w) (ρ:=ρ) hv hl.symm (λj a v h1 h2=>(hr j a v h1 h2).1)with⟨h1,s,h2,h3,h4⟩|⟨h1,u,h2,h3⟩
     ·exact⟨_,run hu (mz7 hb (.inl ⟨h1,s,h2,h3,rfl⟩)),h4⟩
     ·exact⟨_,run hu (mz7 hb (.inr ⟨h1,h2⟩)),h3⟩
   ·cases h
  ·cases h
 |eptr i sz k off=>
  rw[hx]at h;simp only[Cz3]at h;split at h
  ·rename_i sz' n f sh e hcs;split at h
   ·rename_i hszz;split at h
    ·rename_i p hp;simp at h;subst h;subst hszz;refine Sound1.still λF w ρ Mine M a hm hrd ha=>?_
     have h1:=ha x (by simp[ho,zV]);rw[hx]at h1;generalize hu:a.eval x=u at h1;cases h1 with
     |eptr hvec=>
      rename_i b n' cap;have hkn:k<n:=hob;rcases hm.ok i _ ((hrd i (by simp)).trans hcs)with⟨_,⟨hnone,hn0⟩|⟨b',cap',c,hv',hb,hnc,hcm,hcs',hFk,hsz,hel⟩⟩
      ·omega
      ·rw[hvec]at hv';cases hv';have hlen:=hsz k hkn;have hcell:∀ (j:Nat) (q:PVal),(f k).cells[j]?=some q->∃v,c[k * sz+j]?=some v/\v.oneCell'=true/\PRel F w q v:=λj q hq=>hel k j q hkn hq
       have hsub:k * sz+sz<=c.size:=by
        rw[hcs',<-Nat.succ_mul];exact Nat.mul_le_mul_right _ qa
       have hr:∀ (j:Nat) (q:PVal) (v:qr),(f k).cells[j]?=some q->(c.extract (k * sz) (k * sz+sz))[j]?=some v->PRel F w q v:=by
        intro j q v hq hv;obtain⟨u,hu,_,hr⟩:=hcell j q hq;rw[zU]at hv;split at hv
        ·rw[hu]at hv;cases hv;exact hr
        ·cases hv
       have hext:(c.extract (k * sz) (k * sz+sz)).size=sz:=by simp;omega
       rcases Lzu (F:=F) (w:=w) hp (by rw[hlen,hext]) hr with⟨h1,s,h2,h3,h4⟩|⟨h1,u,h2,h3⟩
       ·refine⟨_,run hu (mz7 hb (.inl ⟨h1,s,h2,?_,rfl⟩)),.pure ?_⟩
        ·rw[hext]at h3;omega
        ·have:c.extract (k * sz+off) (k * sz+off+s)=(c.extract (k * sz) (k * sz+sz)).extract off (off+s):=by
          rw[hext]at h3;refine Array.ext (by simp;omega) λq hq1 hq2=>?_
          simp[zt]
         rw[this];exact h4
       ·refine⟨u,run hu (mz7 hb (.inr ⟨h1,?_⟩)),.pure h3⟩;rw[zU]at h2;split at h2
        ·exact h2
        ·cases h2
    ·cases h
   ·cases h
  ·cases h
 |_=>rw[hx]at h;simp[Cz3]at h
theorem Dzg {w:qn}{b off:Nat}{s:qq}{f fo:Nat}{ft:qq}(h:Vzr P s f=some (fo,ft)):
 ∀ (v:qr),v=.pointer (some ⟨b,off,none⟩)->(Instr.fieldAt s v f).run P w=.ok (.pointer (some ⟨b,off+fo,none⟩)) w:=by
 rintro v rfl;unfold Vzr at h;split at h
 ·rename_i fs hu;split at h
  ·rename_i x hx;split at h
   ·rename_i k hk;simp at h;obtain⟨rfl,rfl⟩:=h;simp only[Instr.fieldAt,zM,zX hu,zL,hx,Instr.sureAddr,zN,fieldPlace,dzf hk];simp[gzx]
   ·cases h
  ·cases h
 ·cases h
theorem az9i {s:qq}{x:zI}{f:Nat}{out:Out}(ho:o.op=.fieldAddr s x f)(h:Vzi P s (env x) f=some out):Sound1 P o env m id out:=by
 unfold Vzi at h;split at h
 ·rename_i fo ft hf;split at h
  ·rename_i i off hx;simp at h;subst h;refine Sound1.still λF w ρ Mine M a hm hrd ha=>?_
   have h1:=ha x (by simp[ho,zV]);rw[hx]at h1;generalize hu:a.eval x=u at h1;cases h1 with
   |ptr=>exact⟨_,.value (by simp only[zW,ho,zM,Dzg hf _ hu,zL,zN]),.ptr⟩
  ·rename_i i sz k off hx;simp at h;subst h;refine Sound1.still λF w ρ Mine M a hm hrd ha=>?_
   have h1:=ha x (by simp[ho,zV]);rw[hx]at h1;generalize hu:a.eval x=u at h1;cases h1 with
   |eptr hv=>
    refine⟨_,.value (by simp only[zW,ho,zM,Dzg hf _ hu,zL,zN];rfl),?_⟩;rw[zt];exact .eptr hv
  ·rename_i cs hx;split at h
   ·rename_i q hq;simp at h;subst h;refine Sound1.still λF w ρ Mine M a hm hrd ha=>?_
    have h1:=ha x (by simp[ho,zV]);rw[hx]at h1;generalize hu:a.eval x=u at h1;cases h1 with
    |ref hp=>exact⟨_,.value (by simp only[zW,ho,zM,Dzg hf _ hu,zL,zN]),.ref (hp.part hq)⟩
   ·cases h
  ·cases h
 ·cases h
theorem az61 {s:qq}{x:zI}{f:Nat}{out:Out}(ho:o.op=.field s x f)(h:Pzo P s (env x) f=some out):Sound1 P o env m id out:=by
 unfold Pzo at h;split at h
 ·rename_i fs hu;split at h
  ·rename_i fd hfd;have run:∀ {a:Act} {w:qn} {vs:Array qr} {v:qr},a.eval x=.agg vs->(part fd.type vs fd.offset).run P w=.ok v w->Ran P o a w v w:=by
    intro a w vs v hx hr;exact .value (by simp only[zW,ho,Instr.field,zM,zX hu,zL,hfd,hx,asAgg,zN,hr])
   split at h
   ·rename_i cs hx;simp only[zT]at h;obtain⟨v,hv,rfl⟩:=h;refine Sound1.still λF w ρ Mine M a hm hrd ha=>?_
    have h1:=ha x (by simp[ho,zV]);rw[hx]at h1;generalize hu:a.eval x=u at h1;cases h1 with
    |agg hl hr=>
     rcases Qzr (F:=F) (w:=w) (ρ:=ρ) hv hl hr with⟨h1,s,h2,h3,h4⟩|⟨h1,u,h2,h3⟩
     ·exact⟨_,run hu (pzo (.inl ⟨h1,s,h2,rfl⟩)),h4⟩
     ·exact⟨_,run hu (pzo (.inr ⟨h1,h2⟩)),h3⟩
   ·rename_i cs hx;simp only[zT]at h;obtain⟨v,hv,rfl⟩:=h;refine Sound1.still λF w ρ Mine M a hm hrd ha=>?_
    have h1:=ha x (by simp[ho,zV]);rw[hx]at h1;obtain⟨vs,hu,hl,hr⟩:=h1.pure_inv.agg_inv;rcases Lzu (F:=F) (w:=w) hv hl hr with⟨h1,s,h2,h3,h4⟩|⟨h1,u,h2,h3⟩
    ·exact⟨_,run hu (pzo (.inl ⟨h1,s,h2,rfl⟩)),.pure h4⟩
    ·exact⟨_,run hu (pzo (.inr ⟨h1,h2⟩)),.pure h3⟩
   ·cases h
  ·cases h
 ·cases h
theorem Wzr {t:qq}{x i:zI}{out:Out}(ho:o.op=.indexAddr t x i)(h:Dze P t (env x) (env i) m=some out)(hob:holds out.obl):Sound1 P o env m id out:=by
 unfold Dze at h;split at h
 ·rename_i ik iv hi;have hiv:∀ {F:Cells} {w:qn} {ρ:Env} {a:Act},(∀x∈o.op.operands,ARel F w ρ (env x) (a.eval x))->a.eval i=.int ik iv:=λha=>
   (hi▸ha i (by simp[ho,zV])).pure_inv.int_inv
  split at h
  ·rename_i e hu;split at h
   ·rename_i sz n f hx;split at h
    ·rename_i hs;simp at h;subst h;obtain⟨h0,hn⟩:=hob;refine Sound1.still λF w ρ Mine M a hm hrd ha=>?_
     have h1:=ha x (by simp[ho,zV]);rw[hx]at h1;rcases h1.pure_inv.lst_inv with⟨hv,hn0⟩|⟨_,_,_,hn0,_⟩|⟨b,off,cap,c,hv,hnc,hcm,hsz,hc,hr⟩
     ·omega
     ·omega
     ·refine⟨.pointer (some ⟨b,off+iv.toNat * sz,none⟩),.value ?_,.ref ⟨λj=>c (iv.toNat * sz+j),λj q hq=>?_⟩⟩
      ·simp only[zW,ho,Instr.indexAt,zM,hiv ha,hv,asIntOf,zN,zL,zX hu];simp[h0,hn,dzf hs,gzx]
      ·have hlt:iv.toNat<n:=qa
       have h2:=hc iv.toNat j q hlt hq;rw[zt];exact⟨h2.1,h2.2.1,h2.2.2,hr iv.toNat j q hlt hq⟩
    ·cases h
   ·rename_i k hx;split at h
    ·rename_i sz n f sh e' hk;split at h
     ·rename_i hs;simp at h;subst h;obtain⟨h0,hn⟩:=hob;refine Sound1.still λF w ρ Mine M a hm hrd ha=>?_
      have h1:=ha x (by simp[ho,zV]);rw[hx]at h1;have hres:=hm.ok k _ ((hrd k (by simp)).trans hk);generalize hu':a.eval x=u at h1;rcases hres with⟨_,⟨hnone,hn0⟩|⟨b',cap',c,hv',hb,hnc,hcm,hcs',hFk,hsz,hel⟩⟩
      ·omega
      ·cases h1 with
       |vnil hh=>rw[hh]at hv';cases hv'
       |vec hh=>
        rename_i b n2 cap;rw[hh]at hv';cases hv';refine⟨.pointer (some ⟨b',iv.toNat * sz+0,none⟩),.value ?_,.eptr hh⟩;simp only[zW,ho,Instr.indexAt,zM,hiv ha,hu',asIntOf,zN,zL,zX hu];simp[h0,hn,dzf hs,gzx]
     ·cases h
    ·cases h
   ·cases h
  ·rename_i len e hu;split at h
   ·rename_i s hs
    have run:∀ {a:Act} {w:qn} {b off:Nat},a.eval i=.int ik iv->a.eval x=.pointer (some ⟨b,off,none⟩)->0<=iv/\iv<len->
     Ran P o a w (.pointer (some ⟨b,off+iv.toNat * s,none⟩)) w:=by
     intro a w b off h1 h2 h3;refine .value ?_;simp only[zW,ho,Instr.indexAt,zM,h1,h2,asIntOf,zN,zL,zX hu,Instr.sureAddr];simp[h3,dzf hs,gzx]
    split at h
    ·rename_i k off hx;simp at h;subst h;refine Sound1.still λF w ρ Mine M a hm hrd ha=>?_
     have h1:=ha x (by simp[ho,zV]);rw[hx]at h1;generalize hu':a.eval x=u at h1;cases h1 with
     |ptr=>exact⟨_,run (hiv ha) hu' hob,.ptr⟩
    ·rename_i k sz q off hx;simp at h;subst h;refine Sound1.still λF w ρ Mine M a hm hrd ha=>?_
     have h1:=ha x (by simp[ho,zV]);rw[hx]at h1;generalize hu':a.eval x=u at h1;cases h1 with
     |eptr hv=>refine⟨_,run (hiv ha) hu' hob,?_⟩;rw[zt];exact .eptr hv
    ·rename_i cs hx;split at h
     ·rename_i q hq;simp at h;subst h;refine Sound1.still λF w ρ Mine M a hm hrd ha=>?_
      have h1:=ha x (by simp[ho,zV]);rw[hx]at h1;generalize hu':a.eval x=u at h1;cases h1 with
      |ref hp=>exact⟨_,run (hiv ha) hu' hob,.ref (hp.part hq)⟩
     ·cases h
    ·cases h
   ·cases h
  ·cases h
 ·cases h
theorem az9k {t:qq}{x i:zI}{out:Out}(ho:o.op=.index t x i)(h:Vzk P t (env x) (env i)=some out)(hob:holds out.obl):Sound1 P o env m id out:=by
 unfold Vzk at h;split at h
 ·rename_i ik iv hi;have hiv:∀ {F:Cells} {w:qn} {ρ:Env} {a:Act},(∀x∈o.op.operands,ARel F w ρ (env x) (a.eval x))->a.eval i=.int ik iv:=λha=>
   (hi▸ha i (by simp[ho,zV])).pure_inv.int_inv
  split at h
  ·rename_i len e hu;split at h
   ·rename_i s ps hs hx;have core:∀ (p:PVal),0<=iv->iv<len->Lzt P e ps (iv.toNat * s)=some p->Sound1 P o env m id ⟨.pure p,[],[],some (0<=iv/\iv<len)⟩:=by
     intro p h0 hn hp;refine Sound1.still λF w ρ Mine M a hm hrd ha=>?_
     have h1:=ha x (by simp[ho,zV]);rw[hx]at h1;obtain⟨vs,hu',hl,hr⟩:=h1.pure_inv.agg_inv;have run:∀ {v:qr},(part e vs (iv.toNat * s)).run P w=.ok v w->Ran P o a w v w:=λhp=>.value (by
      simp only[zW,ho,Instr.index,zM,hiv ha,hu',asIntOf,zN,zL,zX hu];simp[h0,hn,dzf hs,hp])
     rcases Lzu (F:=F) (w:=w) hp hl hr with⟨h1,s,h2,h3,h4⟩|⟨h1,u,h2,h3⟩
     ·exact⟨_,run (pzo (.inl ⟨h1,s,h2,rfl⟩)),.pure h4⟩
     ·exact⟨_,run (pzo (.inr ⟨h1,h2⟩)),.pure h3⟩
    split at h
    ·rename_i k l hl;simp at h;subst h;obtain⟨h0,hn⟩:=hob;refine core _ h0 hn ?_;unfold az71 at hl;split at hl
     ·rename_i k' hk hs1;rw[hs]at hs1;cases hs1;split at hl
      ·rename_i l' hl';split at hl
       ·rename_i hlen;cases hl;have key:∀ (ps:List PVal) (l:List Int),Szu k ps=some l->∀j,j<l.length->ps[j]?=some (.int k (l.getD j 0)):=by
         intro ps;induction ps with
         |nil=>intro l h j hj;simp[Szu]at h;subst h;simp at hj
         |cons p ps ih=>
          intro l h j hj;cases p<;>simp only[Szu]at h<;>try cases h
          split at h
          ·rename_i hk;subst hk;split at h
           ·rename_i r hr;cases h;cases j with
            |zero=>simp
            |succ j=>simpa using ih r hr j (by simpa using hj)
           ·cases h
          ·cases h
        have hg:=key ps l hl' iv.toNat qa;unfold Lzt ezx;rw[hk,hs];simp only[Nat.mul_one,hg];rfl
       ·cases hl
      ·cases hl
     ·cases hl
    ·split at h
     ·rename_i p hp;simp at h;subst h;obtain⟨h0,hn⟩:=hob;exact core p h0 hn hp
     ·cases h
   ·cases h
  ·rename_i hu;split at h
   ·rename_i s hx;cases h;obtain⟨h0,hn⟩:=hob;refine Sound1.still λF w ρ Mine M a hm hrd ha=>?_
    have h1:=(hx▸ha x (by simp[ho,zV])).pure_inv.str_inv;have hlt:iv.toNat<s.size:=qa
    have hlt':iv.toNat<s.data.size:=hlt;refine⟨.int .u8 (s.data.getD iv.toNat 0).toNat,.value ?_,.pure .int⟩;have hg:s[iv.toNat]?=some (s.data.getD iv.toNat 0):=by
     rw[getElem?_pos s iv.toNat hlt];simp[Array.getD,ByteArray.getElem_eq_getElem_data];omega
    simp only[zW,ho,Instr.index,zM,hiv ha,h1,asIntOf,zN,zL,zX hu,h0,if_true,hg]
   ·cases h
  ·cases h
 ·cases h
end Go.Abs
