import Derived.Test.YtjonhijmljhjlaaGreatYISoundEq
open Array renaming getElem?_extract->zN
open Go renaming TypeId->qr,Operand->zB,Value->qt,World->qo,execOp->zP,run_underlying->zQ
open Go.Op renaming operands->zO
open Go.Result renaming andThen_ok->zE
open Go.Sem renaming run_bind->zF,run_pure->zG
open Nat renaming add_assoc->zj
open Option renaming map_eq_some_iff->zM
namespace Go.Abs
variable {P:Program} {o:Oper} {env:zB->AVal} {m:Mem} {id:Nat}
theorem Ran.value {a:Act}{w w':qo}{v:qt}(h:(zP a.eval o).run P w=.ok (.value v) w'):Ran P o a w v w':=.inl h
theorem azdi {x:zB}(ho:o.op=.move x):Sound1 P o env m id (.v (env x)):=
 Sound1.still λF w ρ Mine M a _ _ hx=>⟨a.eval x,.value (by simp[zP,ho]),hx x (by simp[ho,zO])⟩
theorem az7c {x:zB}(ho:o.op=.assign x):Sound1 P o env m id (.v (env x)):=
 Sound1.still λF w ρ Mine M a _ _ hx=>⟨a.eval x,.value (by simp[zP,ho]),hx x (by simp[ho,zO])⟩
theorem az8y {c x y:zB}(ho:o.op=.pick c x y){b:Bool}(hc:env c=if b then .tt else .ff):Sound1 P o env m id (.v (env (if b then x else y))):=
 Sound1.still λF w ρ Mine M a _ _ hx=>by
  have h1:=hx c (by simp[ho,zO]);have hv:a.eval c=.bool b:=by
   rw[hc]at h1;generalize a.eval c=u at h1⊢;cases b<;>cases h1<;>rfl
  refine⟨a.eval (if b then x else y),.value ?_,hx _ (by cases b<;>simp[ho,zO])⟩;cases b<;>simp[zP,ho,hv,asBool]
theorem az0o {x:zB}(ho:o.op=.nilCheck x)(h:match env x with| .ptr _ _| .eptr _ _ _ _| .ref _| .func _ _ _| .iface _ _=>True|_=>False):Sound1 P o env m id (.v (env x)):=
 Sound1.still λF w ρ Mine M a _ _ hx=>by
  have h1:=hx x (by simp[ho,zO]);refine⟨a.eval x,.value ?_,h1⟩;revert h h1;generalize env x=y;generalize hv:a.eval x=v;intro h h1;cases h1<;>first|(exact h.elim)|(simp[zP,ho,hv])
theorem Fzz (l:List zB){F:Cells}{w:qo}{ρ:Env}{a:Act}(h:∀x∈l,ARel F w ρ (env x) (a.eval x)):
 (l.map env).length=(l.map a.eval).length/\∀ (j:Nat) (y:AVal) (v:qt),(l.map env)[j]?=some y->(l.map a.eval)[j]?=some v->ARel F w ρ y v:=by
 refine⟨by simp,λj y v h1 h2=>?_⟩;simp only[List.getElem?_map,zM]at h1 h2;obtain⟨x,hx,rfl⟩:=h1;obtain⟨x',hx',rfl⟩:=h2;rw[hx]at hx';cases hx';exact h x (List.mem_of_getElem? hx)
theorem az0n {f:Nat}{xs ys:Array zB}(ho:o.op=.makeFunc (.func f) xs ys):Sound1 P o env m id (.v (.func f (xs.toList.map env) (ys.toList.map env))):=
 Sound1.still λF w ρ Mine M a _ _ hx=>by
  have h1:=Fzz (env:=env) xs.toList (F:=F) (w:=w) (ρ:=ρ) (a:=a) (λx h=>hx x (by simp[ho,zO];exact .inl (by simpa using h)));have h2:=Fzz (env:=env) ys.toList (F:=F) (w:=w) (ρ:=ρ) (a:=a) (λx h=>hx x (by simp[ho,zO];exact .inr (by simpa using h)));refine⟨.func (.func f) (xs.map a.eval) (ys.map a.eval),.value (by simp[zP,ho,Instr.makeFunc]),.func (by simp) (λj y v hy hv=>h1.2 j y v hy ?_) (by simp) (λj y v hy hv=>h2.2 j y v hy ?_)⟩
  ·simpa using hv
  ·simpa using hv
theorem az4l {x:zB}{i:Nat}{cs:List AVal}{v:AVal}(ho:o.op=.extract x i)(hx:env x=.tup cs)(hv:cs[i]?=some v):Sound1 P o env m id (.v v):=
 Sound1.still λF w ρ Mine M a _ _ h=>by
  have h1:=h x (by simp[ho,zO]);rw[hx]at h1;generalize hu:a.eval x=u at h1;cases h1 with
  |tup hl hr=>
   rename_i vs;have hlt:i<vs.size:=hl▸(List.getElem?_eq_some_iff.1 hv).1;exact⟨vs[i],.value (by simp[zP,ho,hu,Instr.extract,hlt]),hr i v _ hv (by simp[hlt])⟩
theorem Vzm {F:Cells}{w:qo}{ρ:Env}{Mine:Nat->Prop}{M:Mem}{i:Nat}{cs:List AVal}(hm:MemOk F w ρ Mine M)(h:M.get i=some (.box cs)):
 ∃c e,w.heap[ρ.blk i]?=some (.cells c e (0,0))/\c.size=cs.length/\(∀o,¬F (ρ.blk i) o)/\∀ (j:Nat) (a:AVal) (v:qt),cs[j]?=some a->c[j]?=some v->ARel F w ρ a v/\v.oneCell'=true:=hm.ok i _ h
theorem azdh {t:qr}{x:zB}{out:Out}(ho:o.op=.load t x)(h:Czf P t (env x) m=some out)(hob:holds out.obl):Sound1 P o env m id out:=by
 have run:∀ {a:Act} {w:qo} {b off:Nat} {v:qt},a.eval x=.pointer (some ⟨b,off,none⟩)->(loadVar t ⟨b,off,none⟩).run P w=.ok v w->Ran P o a w v w:=by
  intro a w b off v hx hr;exact .value (by simp[zP,ho,Instr.loadAt,Instr.sureAddr,hx,hr])
 cases hx:env x with
 |ref p=>
  rw[hx]at h;have hwr:out.wr=[]:=by
   unfold Czf at h;simp only at h;split at h<;>first|(split at h<;>first|(simp at h;subst h;rfl)|(cases h))|cases h
  obtain⟨val,rd,wr,ob⟩:=out;simp only at hwr;subst hwr;refine Sound1.still λF w ρ Mine M a _ _ ha=>?_
  have h1:=ha x (by simp[ho,zO]);rw[hx]at h1;generalize hu:a.eval x=u at h1;cases h1 with
  |ref hp=>
   obtain⟨v,hr,hv,_⟩:=az6s (ρ:=ρ) h hp;exact⟨v,run hu hr,hv⟩
 |ptr i off=>
  rw[hx]at h;simp only[Czf]at h;split at h
  ·rename_i cs hcs;split at h
   ·rename_i v hv;simp at h;subst h;refine Sound1.still λF w ρ Mine M a hm hrd ha=>?_
    have h1:=ha x (by simp[ho,zO]);rw[hx]at h1;generalize hu:a.eval x=u at h1;cases h1 with
    |ptr=>
     obtain⟨c,e,hb,hl,_,hr⟩:=Vzm hm ((hrd i (by simp)).trans hcs);rcases Qzz (F:=F) (w:=w) (ρ:=ρ) hv hl.symm (λj a v h1 h2=>(hr j a v h1 h2).1)with⟨h1,s,h2,h3,h4⟩|⟨h1,u,h2,h3⟩
     ·exact⟨_,run hu (mz9 hb (.inl ⟨h1,s,h2,h3,rfl⟩)),h4⟩
     ·exact⟨_,run hu (mz9 hb (.inr ⟨h1,h2⟩)),h3⟩
   ·cases h
  ·cases h
 |eptr i sz k off=>
  rw[hx]at h;simp only[Czf]at h;split at h
  ·rename_i sz' n f sh e hcs;split at h
   ·rename_i hszz;split at h
    ·rename_i p hp;simp at h;subst h;subst hszz;refine Sound1.still λF w ρ Mine M a hm hrd ha=>?_
     have h1:=ha x (by simp[ho,zO]);rw[hx]at h1;generalize hu:a.eval x=u at h1;cases h1 with
     |eptr hvec=>
      rename_i b n' cap;have hkn:k<n:=hob;rcases hm.ok i _ ((hrd i (by simp)).trans hcs)with⟨_,⟨hnone,hn0⟩|⟨b',cap',c,hv',hb,hnc,hcm,hcs',hFk,hsz,hel⟩⟩
      ·omega
      ·rw[hvec]at hv';cases hv';have hlen:=hsz k hkn;have hcell:∀ (j:Nat) (q:PVal),(f k).cells[j]?=some q->∃v,c[k * sz+j]?=some v/\v.oneCell'=true/\PRel F w q v:=λj q hq=>hel k j q hkn hq
       have hsub:k * sz+sz<=c.size:=by
        rw[hcs',<-Nat.succ_mul];exact Nat.mul_le_mul_right _ qa
       have hr:∀ (j:Nat) (q:PVal) (v:qt),(f k).cells[j]?=some q->(c.extract (k * sz) (k * sz+sz))[j]?=some v->PRel F w q v:=by
        intro j q v hq hv;obtain⟨u,hu,_,hr⟩:=hcell j q hq;rw[zN]at hv;split at hv
        ·rw[hu]at hv;cases hv;exact hr
        ·cases hv
       have hext:(c.extract (k * sz) (k * sz+sz)).size=sz:=by simp;omega
       rcases Lzp (F:=F) (w:=w) hp (by rw[hlen,hext]) hr with⟨h1,s,h2,h3,h4⟩|⟨h1,u,h2,h3⟩
       ·refine⟨_,run hu (mz9 hb (.inl ⟨h1,s,h2,?_,rfl⟩)),.pure ?_⟩
        ·rw[hext]at h3;omega
        ·have:c.extract (k * sz+off) (k * sz+off+s)=(c.extract (k * sz) (k * sz+sz)).extract off (off+s):=by
          rw[hext]at h3;refine Array.ext (by simp;omega) λq hq1 hq2=>?_
          simp[zj]
         rw[this];exact h4
       ·refine⟨u,run hu (mz9 hb (.inr ⟨h1,?_⟩)),.pure h3⟩;rw[zN]at h2;split at h2
        ·exact h2
        ·cases h2
    ·cases h
   ·cases h
  ·cases h
 |_=>rw[hx]at h;simp[Czf]at h
theorem Dzq {w:qo}{b off:Nat}{s:qr}{f fo:Nat}{ft:qr}(h:Wz6 P s f=some (fo,ft)):
 ∀ (v:qt),v=.pointer (some ⟨b,off,none⟩)->(Instr.fieldAt s v f).run P w=.ok (.pointer (some ⟨b,off+fo,none⟩)) w:=by
 rintro v rfl;unfold Wz6 at h;split at h
 ·rename_i fs hu;split at h
  ·rename_i x hx;split at h
   ·rename_i k hk;simp at h;obtain⟨rfl,rfl⟩:=h;simp only[Instr.fieldAt,zF,zQ hu,zE,hx,Instr.sureAddr,zG,fieldPlace,dzb hk];simp[gzk]
   ·cases h
  ·cases h
 ·cases h
theorem azb6 {s:qr}{x:zB}{f:Nat}{out:Out}(ho:o.op=.fieldAddr s x f)(h:Vzx P s (env x) f=some out):Sound1 P o env m id out:=by
 unfold Vzx at h;split at h
 ·rename_i fo ft hf;split at h
  ·rename_i i off hx;simp at h;subst h;refine Sound1.still λF w ρ Mine M a hm hrd ha=>?_
   have h1:=ha x (by simp[ho,zO]);rw[hx]at h1;generalize hu:a.eval x=u at h1;cases h1 with
   |ptr=>exact⟨_,.value (by simp only[zP,ho,zF,Dzq hf _ hu,zE,zG]),.ptr⟩
  ·rename_i i sz k off hx;simp at h;subst h;refine Sound1.still λF w ρ Mine M a hm hrd ha=>?_
   have h1:=ha x (by simp[ho,zO]);rw[hx]at h1;generalize hu:a.eval x=u at h1;cases h1 with
   |eptr hv=>
    refine⟨_,.value (by simp only[zP,ho,zF,Dzq hf _ hu,zE,zG];rfl),?_⟩;rw[zj];exact .eptr hv
  ·rename_i cs hx;split at h
   ·rename_i q hq;simp at h;subst h;refine Sound1.still λF w ρ Mine M a hm hrd ha=>?_
    have h1:=ha x (by simp[ho,zO]);rw[hx]at h1;generalize hu:a.eval x=u at h1;cases h1 with
    |ref hp=>exact⟨_,.value (by simp only[zP,ho,zF,Dzq hf _ hu,zE,zG]),.ref (hp.part hq)⟩
   ·cases h
  ·cases h
 ·cases h
theorem az7d {s:qr}{x:zB}{f:Nat}{out:Out}(ho:o.op=.field s x f)(h:Pzw P s (env x) f=some out):Sound1 P o env m id out:=by
 unfold Pzw at h;split at h
 ·rename_i fs hu;split at h
  ·rename_i fd hfd;have run:∀ {a:Act} {w:qo} {vs:Array qt} {v:qt},a.eval x=.agg vs->(part fd.type vs fd.offset).run P w=.ok v w->Ran P o a w v w:=by
    intro a w vs v hx hr;exact .value (by simp only[zP,ho,Instr.field,zF,zQ hu,zE,hfd,hx,asAgg,zG,hr])
   split at h
   ·rename_i cs hx;simp only[zM]at h;obtain⟨v,hv,rfl⟩:=h;refine Sound1.still λF w ρ Mine M a hm hrd ha=>?_
    have h1:=ha x (by simp[ho,zO]);rw[hx]at h1;generalize hu:a.eval x=u at h1;cases h1 with
    |agg hl hr=>
     rcases Qzz (F:=F) (w:=w) (ρ:=ρ) hv hl hr with⟨h1,s,h2,h3,h4⟩|⟨h1,u,h2,h3⟩
     ·exact⟨_,run hu (pzl (.inl ⟨h1,s,h2,rfl⟩)),h4⟩
     ·exact⟨_,run hu (pzl (.inr ⟨h1,h2⟩)),h3⟩
   ·rename_i cs hx;simp only[zM]at h;obtain⟨v,hv,rfl⟩:=h;refine Sound1.still λF w ρ Mine M a hm hrd ha=>?_
    have h1:=ha x (by simp[ho,zO]);rw[hx]at h1;obtain⟨vs,hu,hl,hr⟩:=h1.pure_inv.agg_inv;rcases Lzp (F:=F) (w:=w) hv hl hr with⟨h1,s,h2,h3,h4⟩|⟨h1,u,h2,h3⟩
    ·exact⟨_,run hu (pzl (.inl ⟨h1,s,h2,rfl⟩)),.pure h4⟩
    ·exact⟨_,run hu (pzl (.inr ⟨h1,h2⟩)),.pure h3⟩
   ·cases h
  ·cases h
 ·cases h
theorem Xz6 {t:qr}{x i:zB}{out:Out}(ho:o.op=.indexAddr t x i)(h:Dzo P t (env x) (env i) m=some out)(hob:holds out.obl):Sound1 P o env m id out:=by
 unfold Dzo at h;split at h
 ·rename_i ik iv hi;have hiv:∀ {F:Cells} {w:qo} {ρ:Env} {a:Act},(∀x∈o.op.operands,ARel F w ρ (env x) (a.eval x))->a.eval i=.int ik iv:=λha=>
   (hi▸ha i (by simp[ho,zO])).pure_inv.int_inv
  split at h
  ·rename_i e hu;split at h
   ·rename_i sz n f hx;split at h
    ·rename_i hs;simp at h;subst h;obtain⟨h0,hn⟩:=hob;refine Sound1.still λF w ρ Mine M a hm hrd ha=>?_
     have h1:=ha x (by simp[ho,zO]);rw[hx]at h1;rcases h1.pure_inv.lst_inv with⟨hv,hn0⟩|⟨_,_,_,hn0,_⟩|⟨b,off,cap,c,hv,hnc,hcm,hsz,hc,hr⟩
     ·omega
     ·omega
     ·refine⟨.pointer (some ⟨b,off+iv.toNat * sz,none⟩),.value ?_,.ref ⟨λj=>c (iv.toNat * sz+j),λj q hq=>?_⟩⟩
      ·simp only[zP,ho,Instr.indexAt,zF,hiv ha,hv,asIntOf,zG,zE,zQ hu];simp[h0,hn,dzb hs,gzk]
      ·have hlt:iv.toNat<n:=qa
       have h2:=hc iv.toNat j q hlt hq;rw[zj];exact⟨h2.1,h2.2.1,h2.2.2,hr iv.toNat j q hlt hq⟩
    ·cases h
   ·rename_i k hx;split at h
    ·rename_i sz n f sh e' hk;split at h
     ·rename_i hs;simp at h;subst h;obtain⟨h0,hn⟩:=hob;refine Sound1.still λF w ρ Mine M a hm hrd ha=>?_
      have h1:=ha x (by simp[ho,zO]);rw[hx]at h1;have hres:=hm.ok k _ ((hrd k (by simp)).trans hk);generalize hu':a.eval x=u at h1;rcases hres with⟨_,⟨hnone,hn0⟩|⟨b',cap',c,hv',hb,hnc,hcm,hcs',hFk,hsz,hel⟩⟩
      ·omega
      ·cases h1 with
       |vnil hh=>rw[hh]at hv';cases hv'
       |vec hh=>
        rename_i b n2 cap;rw[hh]at hv';cases hv';refine⟨.pointer (some ⟨b',iv.toNat * sz+0,none⟩),.value ?_,.eptr hh⟩;simp only[zP,ho,Instr.indexAt,zF,hiv ha,hu',asIntOf,zG,zE,zQ hu];simp[h0,hn,dzb hs,gzk]
     ·cases h
    ·cases h
   ·cases h
  ·rename_i len e hu;split at h
   ·rename_i s hs
    have run:∀ {a:Act} {w:qo} {b off:Nat},a.eval i=.int ik iv->a.eval x=.pointer (some ⟨b,off,none⟩)->0<=iv/\iv<len->
     Ran P o a w (.pointer (some ⟨b,off+iv.toNat * s,none⟩)) w:=by
     intro a w b off h1 h2 h3;refine .value ?_;simp only[zP,ho,Instr.indexAt,zF,h1,h2,asIntOf,zG,zE,zQ hu,Instr.sureAddr];simp[h3,dzb hs,gzk]
    split at h
    ·rename_i k off hx;simp at h;subst h;refine Sound1.still λF w ρ Mine M a hm hrd ha=>?_
     have h1:=ha x (by simp[ho,zO]);rw[hx]at h1;generalize hu':a.eval x=u at h1;cases h1 with
     |ptr=>exact⟨_,run (hiv ha) hu' hob,.ptr⟩
    ·rename_i k sz q off hx;simp at h;subst h;refine Sound1.still λF w ρ Mine M a hm hrd ha=>?_
     have h1:=ha x (by simp[ho,zO]);rw[hx]at h1;generalize hu':a.eval x=u at h1;cases h1 with
     |eptr hv=>refine⟨_,run (hiv ha) hu' hob,?_⟩;rw[zj];exact .eptr hv
    ·rename_i cs hx;split at h
     ·rename_i q hq;simp at h;subst h;refine Sound1.still λF w ρ Mine M a hm hrd ha=>?_
      have h1:=ha x (by simp[ho,zO]);rw[hx]at h1;generalize hu':a.eval x=u at h1;cases h1 with
      |ref hp=>exact⟨_,run (hiv ha) hu' hob,.ref (hp.part hq)⟩
     ·cases h
    ·cases h
   ·cases h
  ·cases h
 ·cases h
theorem azb8 {t:qr}{x i:zB}{out:Out}(ho:o.op=.index t x i)(h:Vzz P t (env x) (env i)=some out)(hob:holds out.obl):Sound1 P o env m id out:=by
 unfold Vzz at h;split at h
 ·rename_i ik iv hi;have hiv:∀ {F:Cells} {w:qo} {ρ:Env} {a:Act},(∀x∈o.op.operands,ARel F w ρ (env x) (a.eval x))->a.eval i=.int ik iv:=λha=>
   (hi▸ha i (by simp[ho,zO])).pure_inv.int_inv
  split at h
  ·rename_i len e hu;split at h
   ·rename_i s ps hs hx;have core:∀ (p:PVal),0<=iv->iv<len->Lzo P e ps (iv.toNat * s)=some p->Sound1 P o env m id ⟨.pure p,[],[],some (0<=iv/\iv<len)⟩:=by
     intro p h0 hn hp;refine Sound1.still λF w ρ Mine M a hm hrd ha=>?_
     have h1:=ha x (by simp[ho,zO]);rw[hx]at h1;obtain⟨vs,hu',hl,hr⟩:=h1.pure_inv.agg_inv;have run:∀ {v:qt},(part e vs (iv.toNat * s)).run P w=.ok v w->Ran P o a w v w:=λhp=>.value (by
      simp only[zP,ho,Instr.index,zF,hiv ha,hu',asIntOf,zG,zE,zQ hu];simp[h0,hn,dzb hs,hp])
     rcases Lzp (F:=F) (w:=w) hp hl hr with⟨h1,s,h2,h3,h4⟩|⟨h1,u,h2,h3⟩
     ·exact⟨_,run (pzl (.inl ⟨h1,s,h2,rfl⟩)),.pure h4⟩
     ·exact⟨_,run (pzl (.inr ⟨h1,h2⟩)),.pure h3⟩
    split at h
    ·rename_i k l hl;simp at h;subst h;obtain⟨h0,hn⟩:=hob;refine core _ h0 hn ?_;unfold az8d at hl;split at hl
     ·rename_i k' hk hs1;rw[hs]at hs1;cases hs1;split at hl
      ·rename_i l' hl';split at hl
       ·rename_i hlen;cases hl;have key:∀ (ps:List PVal) (l:List Int),Tze k ps=some l->∀j,j<l.length->ps[j]?=some (.int k (l.getD j 0)):=by
         intro ps;induction ps with
         |nil=>intro l h j hj;simp[Tze]at h;subst h;simp at hj
         |cons p ps ih=>
          intro l h j hj;cases p<;>simp only[Tze]at h<;>try cases h
          split at h
          ·rename_i hk;subst hk;split at h
           ·rename_i r hr;cases h;cases j with
            |zero=>simp
            |succ j=>simpa using ih r hr j (by simpa using hj)
           ·cases h
          ·cases h
        have hg:=key ps l hl' iv.toNat qa;unfold Lzo ezo;rw[hk,hs];simp only[Nat.mul_one,hg];rfl
       ·cases hl
      ·cases hl
     ·cases hl
    ·split at h
     ·rename_i p hp;simp at h;subst h;obtain⟨h0,hn⟩:=hob;exact core p h0 hn hp
     ·cases h
   ·cases h
  ·rename_i hu;split at h
   ·rename_i s hx;cases h;obtain⟨h0,hn⟩:=hob;refine Sound1.still λF w ρ Mine M a hm hrd ha=>?_
    have h1:=(hx▸ha x (by simp[ho,zO])).pure_inv.str_inv;have hlt:iv.toNat<s.size:=qa
    have hlt':iv.toNat<s.data.size:=hlt;refine⟨.int .u8 (s.data.getD iv.toNat 0).toNat,.value ?_,.pure .int⟩;have hg:s[iv.toNat]?=some (s.data.getD iv.toNat 0):=by
     rw[getElem?_pos s iv.toNat hlt];simp[Array.getD,ByteArray.getElem_eq_getElem_data];omega
    simp only[zP,ho,Instr.index,zF,hiv ha,h1,asIntOf,zG,zE,zQ hu,h0,if_true,hg]
   ·cases h
  ·cases h
 ·cases h
end Go.Abs
