import Derived.Test.YtjonhijmljhjlaaGreatYJDrawB
open Array renaming getD_eq_getD_getElem?->zB,getElem?_eq_getElem->zE,getElem?_replicate->zH
open Bool renaming and_eq_true->qm,or_eq_true->qZ
open Classical renaming not_not->zG
open Go renaming World->qn
open List renaming foldl_cons->wY,getD_eq_getElem?_getD->wm,count_pos_iff->zC,take_length->w6,getElem?_eq_some_iff->zD
open Nat renaming testBit_or->zA,sub_zero->xb,zero_add->qE,lt_trichotomy->zF
open Option renaming getD_some->wF
namespace Go.Abs
theorem Sat.conv {X:Cx}{F:Cells}{w:qn}{ρ:Env}{s s':St}{a:Act}(h:Sat X F w ρ s a)(hg:∀t,ASub (s.get t) (s'.get t))(hm:∀i,s'.mem.get i=s.mem.get i)(hd:s'.df=s.df):Sat X F w ρ s' a:=
 ⟨h.size,λt=>(hg t).rel _ _ _ _ (h.fr t),h.mem.congr hm,hd▸h.df,h.good,h.from0,h.env0⟩
theorem Iza:∀ {l:List Oper} {i:Nat},Kzr i l=true->∀j o,l[j]?=some o->∀e∈o.after,Region.binds .any e=true->e.on<i+j
 |[],i,_,j,o,h=>by simp at h
 |x::l,i,h,j,o,ho=>by
  simp only[Kzr,qm,List.all_eq_true,qZ,Bool.not_eq_true',qf]at h;cases j with
  |zero=>
   simp at ho;subst ho;intro e he hb;rcases h.1 e (by simpa using he)with h'|h'
   ·rw[hb]at h';cases h'
   ·simpa using h'
  |succ j=>
   intro e he hb;have:=Iza h.2 j o (by simpa using ho) e he hb;omega
def Nzy (ops:List Oper)(L:Nat->Bool)(j:Nat):Prop:=∀o,ops[j]?=some o->∀e∈o.after,Region.binds .any e=true->L e.on=true
theorem Lze {L:Nat->Bool}{acc:List Nat}(hacc:∀j,L j=true->∀k,(acc.getD j 0).testBit k=true->L k=true):
 ∀ (es:List Edge) (m:Nat),(∀e∈es,Region.binds .any e=true->L e.on=true)->(∀k,m.testBit k=true->L k=true)->
   ∀k,(es.foldl (λs e=>if Region.binds .any e then s|||2 ^ e.on|||acc.getD e.on 0 else s) m).testBit k=true->L k=true
 |[],m,_,hm,k,h=>hm k h
 |e::es,m,he,hm,k,h=>by
  rw[wY]at h;refine Lze hacc es _ (λe' h'=>he e' (List.mem_cons_of_mem _ h')) (λk' hk'=>?_) k h;split at hk'
  ·rename_i hb;have hl:=he e (List.mem_cons_self ..) hb;rw[zA,zA,Nat.testBit_two_pow,qZ,qZ,qf]at hk';rcases hk' with(h1|h1)|h1
   ·exact hm k' h1
   ·subst h1;exact hl
   ·exact hacc e.on hl k' h1
  ·exact hm k' hk'
theorem Ozh {ops:List Oper}{L:Nat->Bool}(hL:∀j,L j=true->Nzy ops L j):∀j,Nzy ops L j->∀k,((az8y ops).getD j 0).testBit k=true->L k=true:=by
 have gen:∀ (l:List Oper) (acc:List Nat),(∀j,l[j]?=ops[acc.length+j]?)->(∀j,Nzy ops L j->∀k,(acc.getD j 0).testBit k=true->L k=true)->
  ∀j,Nzy ops L j->∀k,((l.foldl (λacc o=>acc++[o.after.toList.foldl (λs e=>if Region.binds .any e then s|||2 ^ e.on|||acc.getD e.on 0 else s) 0]) acc).getD j 0).testBit k=true->L k=true:=by
  intro l;induction l with
  |nil=>intro acc _ h;exact h
  |cons o l ih=>
   intro acc hl h;rw[wY];refine ih _ (λj=>?_) (λj hc k hk=>?_)
   ·have:=hl (j+1);simp only[List.getElem?_cons_succ]at this;rw[this,List.length_append,List.length_singleton];congr 1;omega
   ·rw[wm,List.getElem?_append]at hk;split at hk
    ·exact h j hc k (by rw[wm];exact hk)
    ·rename_i hge;by_cases e:j=acc.length
     ·subst e;simp only[Nat.sub_self,List.getElem?_cons_zero,wF]at hk;have ho:ops[acc.length]?=some o:=by have:=hl 0;simpa using this.symm
      exact Lze (λj hj=>h j (hL j hj)) o.after.toList 0 (λe he hb=>hc o ho e (by simpa using he) hb) (by simp) k hk
     ·rw[show j-acc.length=(j-acc.length-1)+1 from qa]at hk;simp at hk
 exact gen ops [] (by simp) (by simp)
theorem Szs {F:Cells}{w:qn}{ρ:Env}{s:St}{a:Act}{ops:List Oper}{o:Oper}(h:∀t∈Qz5 ops o,ARel F w ρ (s.get t) (a.tmps.getD t undef)):
 (dzc ops s o=.run->Region.wanted o (yielded ops.toArray a.tmps)=true)/\(dzc ops s o=.skip->Region.wanted o (yielded ops.toArray a.tmps)=false):=by
 have yl:∀ {j t:Nat} {oj:Oper} {b:Bool},ops[j]?=some oj->oj.dst=some t->a.tmps.getD t undef=.bool b->yielded ops.toArray a.tmps j=some b:=by
  intro j t oj b hj ht h1;have h2:a.tmps[t]?=some (.bool b):=by
   rw[zB]at h1;cases hg:a.tmps[t]? with
   |none=>rw[hg]at h1;simp[undef]at h1
   |some v=>rw[hg]at h1;simp at h1;rw[h1]
  simp[yielded,hj,ht,h2]
 cases hn:o.guard with
 |none=>exact⟨λ_=>by simp[Region.wanted,hn],λhg=>by simp[dzc,hn]at hg⟩
 |some jw=>
  obtain⟨j,want⟩:=jw;cases hj:ops[j]? with
  |none=>exact⟨λhg=>by simp[dzc,hn,hj]at hg,λhg=>by simp[dzc,hn,hj]at hg⟩
  |some oj=>
   cases ht:oj.dst with
   |none=>exact⟨λhg=>by simp[dzc,hn,hj,ht]at hg,λhg=>by simp[dzc,hn,hj,ht]at hg⟩
   |some t=>
    have hr:=h t (by simp[Qz5,hn,hj,ht]);have key:∀b:Bool,a.tmps.getD t undef=.bool b->Region.wanted o (yielded ops.toArray a.tmps)=(b==want):=by
     intro b hb;simp only[Region.wanted,hn,yl hj ht hb];cases b<;>cases want<;>rfl
    cases hx:s.get t with
    |tt=>
     rw[hx]at hr;have hv:a.tmps.getD t undef=.bool true:=by generalize a.tmps.getD t undef=v at hr;cases hr;rfl
     rw[key true hv];constructor<;>intro hg<;>simp[dzc,hn,hj,ht,hx]at hg<;>cases want<;>simp_all
    |ff=>
     rw[hx]at hr;have hv:a.tmps.getD t undef=.bool false:=by generalize a.tmps.getD t undef=v at hr;cases hr;rfl
     rw[key false hv];constructor<;>intro hg<;>simp[dzc,hn,hj,ht,hx]at hg<;>cases want<;>simp_all
    |pure p=>
     constructor<;>intro hg<;>simp only[dzc,hn,hj,ht,hx]at hg<;>cases p<;>simp at hg
    |tup cs=>
     constructor
     ·intro hg;simp only[dzc,hn,hj,ht,hx]at hg;cases cs<;>simp at hg
     ·intro hg;cases cs with
      |cons _ _=>simp[dzc,hn,hj,ht,hx]at hg
      |nil=>
       rw[hx]at hr;have h2:a.tmps.getD t undef=.tuple #[]:=by
        generalize a.tmps.getD t undef=v at hr;cases hr with
        |@tup _ vs hl _=>rw[show vs=#[]from Array.eq_empty_of_size_eq_zero hl.symm]
       rw[zB]at h2;have hy:yielded ops.toArray a.tmps j=none:=by
        cases hg:a.tmps[t]? with
        |none=>simp[yielded,hj,ht,hg]
        |some v=>rw[hg]at h2;simp at h2;subst h2;simp[yielded,hj,ht,hg]
       simp[Region.wanted,hn,hy]
    |_=>constructor<;>intro hg<;>simp[dzc,hn,hj,ht,hx]at hg
theorem az0q {l:List Bool}{i n:Nat}(hi:l[i]?=some false)(h:l.count false=n+1):(l.set i true).count false=n:=by
 induction l generalizing i n with
 |nil=>simp at hi
 |cons x l ih=>
  cases i with
  |zero=>
   simp at hi;subst hi;simp at h;simpa using h
  |succ i=>
   simp at hi;simp only[List.set_cons_succ];cases x with
   |true=>simp at h⊢;exact ih hi h
   |false=>
    simp only[List.count_cons_self]at h⊢;have hp:0<l.count false:=zC.2 (List.mem_of_getElem? hi);obtain⟨m,hm⟩:∃m,l.count false=m+1:=⟨l.count false-1,qa⟩;have:=ih hi hm;omega
theorem Ozi {m:Mem}{i:Nat}{r:Res}(h:m.get i=some r):i∈ids m:=List.mem_map.2 ⟨_,hz3 h,rfl⟩
section
variable {P:Program} {X:Cx} {ops:List Oper} {hint:Nat->Option Hint} {Q:Exit->Act->qn->Prop} {tr:List Eff} {s0:St} {id0:Nat}
def azce (tr:List Eff)(s0:St)(L:Nat->Bool)(ρ:Env):Prop:=
 (∀x r n,s0.mem.get x=some r->vlen r=some n->slen (ρ.vec x)=n)/\
 ∀k ek x r n,tr[k]?=some ek->L k=true->ek.wr.get x=some r->vlen r=some n->slen (ρ.vec x)=n
theorem az4e (hlen:tr.length=ops.length)
 (hat:∀k o,ops[k]?=some o->∃e s,tr[k]?=some e/\At P X.nt ops hint k o e (pre (tr.take k) s0) s (id0+64 * k))
 (hedge:Kzr 0 ops=true) (hpair:Lzr (az8y ops) (ops.map qzh) 0 tr=true) (hlt:s0.lt id0=true) (hn0:X.n0<=id0)
 (fin:∀F w ρ a,Sat X F w ρ (pre tr s0) a->Q .normal a w):
 ∀ (fuel:Nat) (listed:Array Bool) (F:Cells) (w:qn) (ρ:Env) (a:Act),listed.size=ops.length->listed.toList.count false=fuel->
   (∀j,listed.getD j false=true->Nzy ops (λj=>listed.getD j false) j)->Sat X F w ρ (fz4 (λj=>listed.getD j false) 0 tr s0) a->azce tr s0 (λj=>listed.getD j false) ρ->wpAnyIn Fence.wide 0 P .any ops.toArray Q fuel listed a w:=by
 intro fuel;have done:∀ (listed:Array Bool) (F:Cells) (w:qn) (ρ:Env) (a:Act),(∀j,j<ops.length->listed.getD j false=true)->Sat X F w ρ (fz4 (λj=>listed.getD j false) 0 tr s0) a->Q .normal a w:=by
  intro listed F w ρ a hall hs;refine fin F w ρ a (hs.conv (λt=>?_) (λi=>?_) ?_)
  ·have e:(fz4 (λj=>listed.getD j false) 0 tr s0).get t=(pre tr s0).get t:=by
    rw[izh (L':=λx=>decide (x<tr.length)) tr 0 s0 s0 rfl,lzs,xb,w6];intro k e hk _;have hk':k<tr.length:=(zD.1 hk).1;rw[qE,hall k qa];simpa using hk'
   rw[e];exact ASub.refl _
  ·rw[lzr (L':=λx=>decide (x<tr.length)) tr 0 s0 s0 rfl,lzs,xb,w6];intro k e hk _;have hk':k<tr.length:=(zD.1 hk).1;rw[qE,hall k qa];simpa using hk'
  ·have:=lzs tr.length tr 0 s0;rw[xb,w6]at this;rw[<-this,Gz9,Gz9]
 have ready_nil:∀ (listed:Array Bool),listed.size=ops.length->Region.ready .any ops.toArray listed=[]->∀j,j<ops.length->listed.getD j false=true:=by
  intro listed hsz hr j;induction j using Nat.strongRecOn with
  |_ j ih=>
   intro hj;have hjl:j<listed.size:=qa
   have hgd:listed.getD j true=listed.getD j false:=by
    simp[zB,zE hjl]
   cases hx:listed.getD j false with
   |true=>rfl
   |false=>
    have:j∈Region.ready .any ops.toArray listed:=by
     refine mem_ready.2 ⟨by rw[hgd];exact hx,ops[j],by simp[hj],λe he hb=>?_⟩;have:=Iza hedge j ops[j] (by simp) e he hb;exact ih e.on qa qa
    rw[hr]at this;cases this
 induction fuel with
 |zero=>
  intro listed F w ρ a hsz hcnt hcl hs _;have hall:∀j,j<ops.length->listed.getD j false=true:=by
   intro j hj;have hjl:j<listed.size:=qa
   rw[zB,zE hjl,wF];cases hx:listed[j]with
   |true=>rfl
   |false=>
    have:false∈listed.toList:=by rw[<-hx];exact Array.getElem_mem_toList hjl
    have:=zC.2 this;omega
  refine⟨?_,done listed F w ρ a hall hs⟩;cases hr:Region.ready .any ops.toArray listed with
  |nil=>rfl
  |cons x l=>
   have hx:x∈Region.ready .any ops.toArray listed:=by rw[hr];simp
   obtain⟨h1,o,h2,_⟩:=mem_ready.1 hx;have hxl:x<ops.length:=by have:=(Array.getElem?_eq_some_iff.1 h2).1;simpa using this
   have:=hall x hxl;have hxs:x<listed.size:=qa
   rw[zB,zE hxs]at h1 this;simp at h1 this;rw[h1]at this;cases this
 |succ fuel ih=>
  intro listed F w ρ a hsz hcnt hcl hs hln;refine⟨λhr=>done listed F w ρ a (ready_nil listed hsz hr) hs,λi hi=>?_⟩;obtain⟨hli,o,ho,hed⟩:=mem_ready.1 hi;have ho':ops[i]?=some o:=by simpa using ho
  have hil:i<ops.length:=(zD.1 ho').1;have hils:i<listed.size:=qa
  have hLi:listed.getD i false=false:=by
   rw[zB,zE hils]at hli⊢;simpa using hli
  obtain⟨e,s,he,hA⟩:=hat i o ho';have hcli:Nzy ops (λj=>listed.getD j false) i:=λo2 h2 e2 he2 hb=>by rw[ho']at h2;cases h2;exact hed e2 he2 hb
  have hbefore:∀k ek,k<i->tr[k]?=some ek->listed.getD k false=true\/Apart ((ops.map qzh).getD k false) ek e:=by
   intro k ek hk hek;rcases zzk hpair k i ek e hk hek he with h|h
   ·exact .inl (Ozh (L:=λj=>listed.getD j false) hcl i hcli k (by simpa using h))
   ·rw[qE]at h;exact .inr (Nzz h)
  have hbehind:∀k ek,i<k->tr[k]?=some ek->listed.getD k false=true->Apart (qzh o) e ek:=by
   intro k ek hk hek hl;rcases zzk hpair i k e ek hk he hek with h|h
   ·have:=Ozh (L:=λj=>listed.getD j false) hcl k (hcl k hl) i (by simpa using h);rw[hLi]at this;cases this
   ·rw[qE,show(ops.map qzh).getD i false=qzh o by simp[wm,ho']]at h;exact Nzz h
  have hget:∀t∈e.uses,(fz4 (λj=>listed.getD j false) 0 tr s0).get t=(pre (tr.take i) s0).get t:=by
   intro t ht;rw[izh (L':=λx=>decide (x<i)) tr 0 s0 s0 rfl,lzs,xb];intro k ek hk hd;rw[qE];rcases zF k i with h|h|h
   ·rcases hbefore k ek h hk with h1|h1
    ·rw[h1];simpa using h
    ·exact(h1.xy t hd ht).elim
   ·subst h;rw[hLi];simp
   ·cases hl:listed.getD k false with
    |false=>symm;simpa using(by omega:i<=k)
    |true=>exact((hbehind k ek h hk hl).yx t hd ht).elim
  have hmem:∀x∈e.rd,(fz4 (λj=>listed.getD j false) 0 tr s0).mem.get x=(pre (tr.take i) s0).mem.get x\/(qzh o=true/\∃r,(fz4 (λj=>listed.getD j false) 0 tr s0).mem.get x=some r/\isV r=true):=by
   intro x hx;have hw:∀k ek,tr[k]?=some ek->x∈ids ek.wr->k<i->listed.getD k false=true:=by
    intro k ek hk hd h;rcases hbefore k ek h hk with h1|h1
    ·exact h1
    ·exact(h1.wr x hd hx).elim
   have:=Gzd (L:=λj=>listed.getD j false) (x:=x) (i:=i) (R:=λr=>qzh o=true/\isV r=true) tr 0 s0 s0 (.inl rfl) (λk ek hk hd h=>by rw[qE]at h⊢;exact hw k ek hk hd h) (λk ek hk h hl r hr=>by
    rw[qE]at h hl;rcases Nat.lt_or_eq_of_le h with h|h
    ·rcases(hbehind k ek h hk hl).rw with h1|⟨h1,h2⟩
     ·exact(h1 x (Ozi hr) hx).elim
     ·exact⟨h1,h2 x r hx hr⟩
    ·subst h;rw[hLi]at hl;cases hl)
   rw[lzs,xb]at this;rcases this with h|⟨r,h1,h2,h3⟩
   ·exact .inl h
   ·exact .inr ⟨h2,r,h1,h3⟩
  have hpre:∀x∈e.rd,∀r n,(pre (tr.take i) s0).mem.get x=some r->vlen r=some n->slen (ρ.vec x)=n:=by
   intro x hx r n hr hn;have:=xzi (R:=λj r=>j=x->∀n,vlen r=some n->slen (ρ.vec x)=n) (L:=λy=>decide (y<i)) tr 0 s0 (λj r hj e n hn=>by subst e;exact hln.1 j r n hj hn) (λk ek hk hl j r hj e n hn=>by
    subst e;rw[qE]at hl;have h:k<i:=by simpa using hl
    rcases hbefore k ek h hk with h1|h1
    ·exact hln.2 k ek j r n hk h1 hj hn
    ·exact(h1.wr j (Ozi hj) hx).elim)
   rw[lzs,xb]at this;exact this x r hr rfl n hn
  have hlt':=hlt;simp only[St.lt,qm]at hlt';have hvfree:∀t x,Own e.id x->((fz4 (λj=>listed.getD j false) 0 tr s0).get t).has x=false:=by
   intro t x hx;rw[hA.eid]at hx;refine Gzb (R:=λv=>v.has x=false) tr 0 s0 (Izd (by have:=hx.1;omega) (Ezl hlt'.1.1 t)) (λk ek hk hl=>?_);rw[qE]at hl;rcases zF k i with h|h|h
   ·obtain⟨ok,hok⟩:∃ok,ops[k]?=some ok:=⟨ops[k],by simp⟩;obtain⟨ek',sk,hk',hAk⟩:=hat k ok hok;rw[hk]at hk';cases hk';exact Izd (by have:=hx.1;omega) hAk.vlt
   ·subst h;rw[hLi]at hl;cases hl
   ·exact Qz2 (by rw[hA.eid];exact hx) (hbehind k ek h hk hl).val
  have hwfree:∀k ek,tr[k]?=some ek->listed.getD k false=true->∀j r,ek.wr.get j=some r->¬Own e.id j/\∀x,Own e.id x->r.has x=false:=by
   intro k ek hk hl j r hr;rcases zF k i with h|h|h
   ·obtain⟨ok,hok⟩:∃ok,ops[k]?=some ok:=⟨ops[k],by simp⟩;obtain⟨ek',sk,hk',hAk⟩:=hat k ok hok;rw[hk]at hk';cases hk';have:=gzp hAk.wlt hr;refine⟨λhx=>?_,λx hx=>vz7 (by rw[hA.eid]at hx;have:=hx.1;omega) this.2⟩;rw[hA.eid]at hx;have:=hx.1;omega
   ·subst h;rw[hLi]at hl;cases hl
   ·exact Lzh (hbehind k ek h hk hl).mem hr
  have hsfree:∀j r,s0.mem.get j=some r->¬Own e.id j/\∀x,Own e.id x->r.has x=false:=by
   intro j r hr;have:=gzp hlt'.1.2 hr;refine⟨λhx=>?_,λx hx=>vz7 (by rw[hA.eid]at hx;have:=hx.1;omega) this.2⟩;rw[hA.eid]at hx;have:=hx.1;omega
  have hmfree:∀j r,(fz4 (λj=>listed.getD j false) 0 tr s0).mem.get j=some r->¬Own e.id j/\∀x,Own e.id x->r.has x=false:=
   xzi (R:=λj r=>¬Own e.id j/\∀x,Own e.id x->r.has x=false) tr 0 s0 hsfree (λk ek hk hl j r hr=>by rw[qE]at hl;exact hwfree k ek hk hl j r hr)
  have hfr:Fresh e.id (fz4 (λj=>listed.getD j false) 0 tr s0).mem:=by
   refine⟨λx hx=>?_,λx j r hx hj=>(hmfree j r hj).2 x hx⟩;cases hg:(fz4 (λj=>listed.getD j false) 0 tr s0).mem.get x with
   |none=>rfl
   |some r=>exact absurd hx (hmfree x r hg).1
  have hrel:∀t∈e.uses,ARel F w ρ (s.get t) (a.tmps.getD t undef):=λt ht=>(hA.get t).rel _ _ _ _ (hget t ht▸hs.fr t)
  have hL':(λj=>(listed.setIfInBounds i true).getD j false)=λx=>if x=i then true else listed.getD x false:=by
   funext x;by_cases h:x=i
   ·subst h;simp[hils]
   ·rw[qb h];exact getD_set_ne false (Ne.symm h)
  have next:∀ (F':Cells) (w':qn) (ρ':Env) (v:Value),Step X.Mine F w F' w'->dzr e.id ρ ρ'->ARel F' w' ρ' e.val v->MemOk F' w' ρ' X.Mine (e.wr++(fz4 (λj=>listed.getD j false) 0 tr s0).mem)->
   wpAnyIn Fence.wide 0 P .any ops.toArray Q fuel (listed.setIfInBounds i true) (a.put o.dst v) w':=by
   intro F' w' ρ' v st hen hv hm;have hget':∀t,(fz4 (λx=>if x=i then true else listed.getD x false) 0 tr s0).get t=if e.dst=some t then e.val else(fz4 (λj=>listed.getD j false) 0 tr s0).get t:=λt=>
    Gza (L:=λj=>listed.getD j false) tr 0 s0 s0 e qa (by simpa using he) hLi rfl (λk ek hk hlt hl h1 h2=>by
     rw[qE]at hlt hl;exact(hbehind k ek hlt hk hl).dd t h2 h1)
   have hmem':∀x,(fz4 (λx=>if x=i then true else listed.getD x false) 0 tr s0).mem.get x=(e.wr.get x).or ((fz4 (λj=>listed.getD j false) 0 tr s0).mem.get x):=λx=>
    Gzc (L:=λj=>listed.getD j false) tr 0 s0 s0 e qa (by simpa using he) hLi rfl (λk ek hk hlt hl h1 h2=>by
     rw[qE]at hlt hl;exact(hbehind k ek hlt hk hl).ww x h2 h1)
   refine ih (listed.setIfInBounds i true) F' w' ρ' _ (by simpa using hsz) ?_ (λj hj=>?_) ?_ ?_
   ·rw[Array.toList_setIfInBounds];refine az0q ?_ hcnt;rw[Array.getElem?_toList,zE hils];rw[zB,zE hils]at hLi;simpa using hLi
   ·intro o2 h2 e2 he2 hb;simp only;by_cases hji:j=i
    ·subst hji;exact getD_set_true (hcli o2 h2 e2 he2 hb)
    ·rw[getD_set_ne false (Ne.symm hji)]at hj;exact getD_set_true (hcl j hj o2 h2 e2 he2 hb)
   ·rw[hL'];have hold:∀t,ARel F' w' ρ' ((fz4 (λj=>listed.getD j false) 0 tr s0).get t) (a.tmps.getD t undef):=λt=>
     (hs.fr t).mono (λi=>¬Own e.id i) st.sub st.cell hen (λx hx=>hvfree t x (zG.1 hx))
    refine⟨?_,λt=>?_,hm.congr (λx=>by rw[hmem',Mem.get_append]),?_,st.good hs.good,hs.from0.trans st,λx hx=>?_⟩
    ·cases hdst:o.dst with
     |none=>exact hs.size
     |some d=>simpa[Act.put]using hs.size
    ·rw[hget',hA.dst];cases hdst:o.dst with
     |none=>simpa[Act.put]using hold t
     |some d=>
      have hds:d<a.tmps.size:=by rw[hs.size];have:=hA.ok;rw[hdst]at this;simpa[nzm]using this
      rw[Qz3 a d v t hds];by_cases hdt:d=t
      ·subst hdt;simpa using hv
      ·simpa[hdt]using hold t
    ·have:(a.put o.dst v).defers=a.defers:=by cases o.dst<;>rfl
     rw[this];have h0:=hs.df;rw[Gz9]at h0⊢;exact yzg (λi=>¬Own e.id i) st.sub st.cell hen h0 (λx hx=>wz8 (by have:=(zG.1 hx).1;rw[hA.eid]at this;omega) hlt'.2)
    ·have h1:=hen x (λhx'=>by have:=hx'.1;rw[hA.eid]at this;omega);have h2:=hs.env0 x hx;exact⟨h1.1.trans h2.1,h1.2.trans h2.2⟩
   ·refine⟨λx r n hr hn=>?_,λk ek x r n hk hl hr hn=>?_⟩
    ·rw[(hen x (hsfree x r hr).1).2];exact hln.1 x r n hr hn
    ·simp only at hl;by_cases hki:k=i
     ·subst hki;rw[he]at hk;cases hk;exact Xz5 (hm.ok x r (by rw[Mem.get_append,hr];rfl)) hn
     ·rw[getD_set_ne false (Ne.symm hki)]at hl;rw[(hen x (hwfree k ek hk hl x r hr).1).2];exact hln.2 k ek x r n hk hl hr hn
  have hgw:=Szs (F:=F) (w:=w) (ρ:=ρ) (s:=s) (a:=a) (ops:=ops) (o:=o) (λt ht=>hrel t (by rw[hA.uses];exact List.mem_append_right _ ht));unfold wpOpIn;simp only[ho];rcases hA.does with⟨hg,out,fl,hst,hob,e1,e2,e3⟩|⟨hg,e1,e2,e3⟩
  ·rw[qc (hgw.1 hg)];obtain⟨s1,hst1,hrd1,hfr1⟩:∃s1,gza P hint i o (id0+64 * i) s1=some (out,fl)/\(∀x∈out.rd,(fz4 (λj=>listed.getD j false) 0 tr s0).mem.get x=s1.mem.get x)/\cza s1=cza s:=by
    cases hlo:qzh o with
    |true=>
     refine⟨{s with mem:=(fz4 (λj=>listed.getD j false) 0 tr s0).mem},az6j hlo hst (λx hx n hn=>?_),λ_ _=>rfl,rfl⟩;rcases hmem x (e2▸hx)with h|⟨_,r,h1,h2⟩
     ·rw[h,<-hA.mem];exact hn
     ·obtain⟨n',hn'⟩:=az57 h2;rw[hA.mem]at hn;obtain⟨r0,hr0,hn0'⟩:=Option.bind_eq_some_iff.1 hn;have q1:=hpre x (e2▸hx) r0 n hr0 hn0';have q2:=Xz5 (hs.mem.ok x r h1) hn';rw[h1,Option.bind_some,hn',<-q2,q1]
    |false=>
     refine⟨s,hst,λx hx=>?_,rfl⟩;rcases hmem x (e2▸hx)with h|⟨h,_⟩
     ·rw[h,hA.mem]
     ·rw[hlo]at h;cases h
   have hsnd:=Jz6 hst1 hob F w ρ X.Mine (fz4 (λj=>listed.getD j false) 0 tr s0).mem a hs.mem hs.good (hA.eid▸hfr) hrd1
    (λx _ i hi=>by rw[hfr1];exact Izd hi.1 (az0t hA.lt x)) (λx hx=>by
     rw[hfr1];cases x with
     |tmp t=>exact hrel t (by rw[hA.uses];exact List.mem_append_left _ (List.mem_filterMap.2 ⟨.tmp t,by simpa using hx,rfl⟩))
     |const v=>exact Gzv v
     |global g=>exact .any
     |func f=>exact .func rfl (by simp) rfl (by simp))
   refine hsnd _ _ ?_;rintro v w' ⟨F',ρ',st,hen,hv,hm⟩;exact next F' w' ρ' v st (hA.eid▸hen) (e1▸hv) (e3▸hm)
  ·rw[qb (by rw[hgw.2 hg];simp)];refine⟨λ_ _=>trivial,?_⟩;exact next F w ρ undef (Step.refl hs.good) (λi _=>⟨rfl,rfl⟩) (by rw[e1];exact .tup rfl (by simp)) (by rw[e3];exact hs.mem)
end
theorem Zz7 {P:Program}(hm:P.follows .mixedOrders=true):gzd P az84:=by
 intro X ops hint K Q id s F w ρ a rid h hlt hn0 hs hK;obtain⟨tr,s',hp,hd,hk⟩:=Wz7 ops 0 id s [] h;rw[List.nil_append]at hd hk;obtain⟨hlen,hat,hget,hmem,hdf,hlt'⟩:=az96 hp s (λt=>ASub.refl _) rfl hlt;simp only[az84,qm]at hd;refine wpIn_wide.1 (wpIn_region_any (n:=0) hm ?_);have hs':Sat X F {w with drawn:=w.drawn+1} ρ s a:=by
  have st:Step X.Mine F w F {w with drawn:=w.drawn+1}:=⟨λ_ _ h=>h,λ_ _ _=>rfl,λ_ _ h=>.inl h,hs.good.lt,⟨rfl,rfl,rfl,Nat.le_refl _,λ_ _ _=>rfl⟩⟩;refine⟨hs.size,λt=>(hs.fr t).mono' st.sub st.cell,?_,yzg (λ_=>True) st.sub st.cell (λ_ _=>⟨rfl,rfl⟩) hs.df (λ_ h=>absurd trivial h),st.good hs.good,hs.from0.trans st,hs.env0⟩;have:=hs.mem.step st (λ_=>True) (λ_ _=>⟨rfl,rfl⟩) [] (λj r _ _=>⟨trivial,λ_ h=>absurd trivial h,λb _=>⟨rfl,λ_ h=>h⟩⟩) (by simp[Mem.get]) (by simp[Mem.get]);simpa using this
 refine az4e (hint:=hint) (tr:=tr) (s0:=s) (id0:=id) hlen (λk o ho=>by have:=hat k o ho;simpa using this) hd.1 hd.2 hlt hn0 (λF' w' ρ' a' hs''=>?_) _ _ F _ ρ a (by simp) ?_ (λj hj=>?_) ?_ ⟨λx r n hr hn=>Xz5 (hs'.mem.ok x r hr) hn,λk ek x r n _ hl=>?_⟩
 ·refine hK s' tr F' w' ρ' a' hk hlt' (hs''.conv hget (λi=>by rw[hmem]) ?_);rw[hdf];have:=lzs tr.length tr 0 s;rw[xb,w6]at this;rw[<-this,Gz9]
 ·simp
 ·simp only[zB,zH]at hj;split at hj<;>simp at hj
 ·have:(λj=>(Array.replicate ops.toArray.size false).getD j false)=λ_=>false:=by
   funext j;simp only[zB,zH];split<;>rfl
  rw[this];have none:∀ (tr:List Eff) (j:Nat) (s:St),fz4 (λ_=>false) j tr s=s:=by
   intro tr;induction tr with
   |nil=>intros;rfl
   |cons e tr ih=>intro j s;simp only[fz4];exact ih _ _
  rw[none];exact hs'
 ·simp only[zB,zH]at hl;split at hl<;>simp at hl
end Go.Abs
