import Derived.Test.YtjonhijmljhjlaaGreatYISoundN
open Array renaming getD_eq_getD_getElem?->zt
open Bool renaming and_eq_true->qn,or_self->wj,or_eq_false_iff->qq
open Classical renaming not_not->zz
open Go renaming World->qo
open List renaming all_eq_true->qm,cons_append->xm,range'->zH,length_cons->wA
namespace Go.Abs
variable {P:Program}
def DRel (F:Cells)(w:qo)(ρ:Env)(d:Deferred)(x:AVal):Prop:=
 ∃g first caps v1 v2,x=.func g first caps/\d={target:=.fn (.func g) v2,args:=v1}/\Ezg F w ρ first v1/\Ezg F w ρ caps v2
inductive All2B {α β:Type} (base:List α) (R:α->β->Prop):List α->List β->Prop
 |nil:All2B base R base []
 |cons {a:α} {b:β} {l:List α} {m:List β}:R a b->All2B base R l m->All2B base R (a::l) (b::m)
structure Cx where
 nt:Nat
 n0:Nat
 Mine:Nat->Prop
 F0:Cells
 w0:qo
 ρ0:Env
 base:List Deferred
structure Sat (X:Cx) (F:Cells) (w:qo) (ρ:Env) (s:St) (a:Act):Prop where
 size:a.tmps.size=X.nt
 fr:∀t,ARel F w ρ (s.get t) (a.tmps.getD t undef)
 mem:MemOk F w ρ X.Mine s.mem
 df:All2B X.base (DRel F w ρ) a.defers s.df
 good:Good F w X.Mine
 from0:Step X.Mine X.F0 X.w0 F w
 env0:∀i,i<X.n0->ρ.blk i=X.ρ0.blk i/\ρ.vec i=X.ρ0.vec i
mutual
theorem Izd {n i:Nat}(hi:n<=i):∀ {a:AVal},a.lt n=true->a.has i=false
 | .agg cs,h=>by simp only[AVal.lt]at h;simp only[AVal.has];exact wzj hi h
 | .tup cs,h=>by simp only[AVal.lt]at h;simp only[AVal.has];exact wzj hi h
 | .vec j,h=>by simp[AVal.lt]at h;simp[AVal.has];omega
 | .ptr j _,h=>by simp[AVal.lt]at h;simp[AVal.has];omega
 | .eptr j _ _ _,h=>by simp[AVal.lt]at h;simp[AVal.has];omega
 | .map j,h=>by simp[AVal.lt]at h;simp[AVal.has];omega
 | .bsl j _,h=>by simp[AVal.lt]at h;simp[AVal.has];omega
 | .view j _ _ _,h=>by simp[AVal.lt]at h;simp[AVal.has];omega
 | .iface _ a,h=>by simp only[AVal.lt]at h;simp only[AVal.has];exact Izd hi h
 | .func _ a b,h=>by
   simp only[AVal.lt,qn]at h;simp only[AVal.has,wzj hi h.1,wzj hi h.2,wj]
 | .any,_=>rfl
 | .pure _,_=>rfl
 | .tt,_=>rfl
 | .ff,_=>rfl
 | .ref _,_=>rfl
 | .anyb,_=>rfl
 | .clip _,_=>rfl
 | .yld _,_=>rfl
theorem wzj {n i:Nat}(hi:n<=i):∀ {l:List AVal},AVal.ltL n l=true->AVal.hasL i l=false
 |[],_=>rfl
 |a::l,h=>by
  simp only[AVal.ltL,qn]at h;simp only[AVal.hasL,Izd hi h.1,wzj hi h.2,wj]
end
mutual
theorem lt_mono {n k:Nat}(hi:n<=k):∀ {a:AVal},a.lt n=true->a.lt k=true
 | .agg cs,h=>by simp only[AVal.lt]at h⊢;exact rzs hi h
 | .tup cs,h=>by simp only[AVal.lt]at h⊢;exact rzs hi h
 | .vec j,h=>by simp[AVal.lt]at h⊢;omega
 | .ptr j _,h=>by simp[AVal.lt]at h⊢;omega
 | .eptr j _ _ _,h=>by simp[AVal.lt]at h⊢;omega
 | .map j,h=>by simp[AVal.lt]at h⊢;omega
 | .bsl j _,h=>by simp[AVal.lt]at h⊢;omega
 | .view j _ _ _,h=>by simp[AVal.lt]at h⊢;omega
 | .iface _ a,h=>by simp only[AVal.lt]at h⊢;exact lt_mono hi h
 | .func _ a b,h=>by
   simp only[AVal.lt,qn]at h⊢;exact⟨rzs hi h.1,rzs hi h.2⟩
 | .any,_=>rfl
 | .pure _,_=>rfl
 | .tt,_=>rfl
 | .ff,_=>rfl
 | .ref _,_=>rfl
 | .anyb,_=>rfl
 | .clip _,_=>rfl
 | .yld _,_=>rfl
theorem rzs {n k:Nat}(hi:n<=k):∀ {l:List AVal},AVal.ltL n l=true->AVal.ltL k l=true
 |[],_=>rfl
 |a::l,h=>by
  simp only[AVal.ltL,qn]at h⊢;exact⟨lt_mono hi h.1,rzs hi h.2⟩
end
theorem gzd {n:Nat}:∀ {m:Mem},gzt n m=true->∀ {i:Nat} {r:Res},m.get i=some r->i<n/\r.lt n=true
 |[],_,i,r,h=>by simp[Mem.get]at h
 |(k,q)::m,hm,i,r,h=>by
  simp only[gzt,qn,qf]at hm;simp only[Mem.get]at h;split at h
  ·rename_i e;subst e;cases h;exact⟨hm.1.1,hm.1.2⟩
  ·exact gzd hm.2 h
theorem az0g {n k:Nat}(h:n<=k){r:Res}(hr:r.lt n=true):r.lt k=true:=by
 cases r with
 |box cs=>exact rzs h hr
 |vecX _ _ _ _ _ _ i=>simp[Res.lt]at hr⊢;omega
 |vecU _ _ _ _ _ _ _ _ hs=>
  simp only[Res.lt,qm,qf]at hr⊢;exact λx hx=>Nat.lt_of_lt_of_le (hr x hx) h
 |_=>rfl
theorem Hzd {n k:Nat}(h:n<=k):∀ {m:Mem},gzt n m=true->gzt k m=true
 |[],_=>rfl
 |(i,r)::m,hm=>by
  simp only[gzt,qn,qf]at hm⊢;exact⟨⟨qa,az0g h hm.1.2⟩,Hzd h hm.2⟩
theorem Izi {n:Nat}:∀ {a b:Mem},gzt n a=true->gzt n b=true->gzt n (a++b)=true
 |[],b,_,hb=>hb
 |(i,r)::a,b,ha,hb=>by
  simp only[gzt,qn,xm]at ha⊢;exact⟨ha.1,Izi ha.2 hb⟩
theorem Ezt {n:Nat}:∀ {l:List (Nat×AVal)},frLt n l=true->∀t,(qz8 l t).lt n=true
 |[],_,t=>rfl
 |(i,a)::l,h,t=>by
  simp only[frLt,qn]at h;simp only[qz8];split
  ·exact h.1
  ·exact Ezt h.2 t
theorem Lz1 {n k:Nat}(h:n<=k):∀ {l:List (Nat×AVal)},frLt n l=true->frLt k l=true
 |[],_=>rfl
 |(i,a)::l,hl=>by
  simp only[frLt,qn]at hl⊢;exact⟨lt_mono h hl.1,Lz1 h hl.2⟩
theorem vzg {n i:Nat}(hi:n<=i){r:Res}(h:r.lt n=true):r.has i=false:=by
 cases r with
 |box cs=>exact wzj hi h
 |vecX _ _ _ _ _ _ i=>simp[Res.lt]at h;simp[Res.has];omega
 |vecU _ _ _ _ _ _ _ _ hs=>
  simp only[Res.lt,qm,qf]at h;simp only[Res.has,List.any_eq_false,qj];exact λx hx e=>by have:=h x hx;omega
 |_=>rfl
theorem az60 {id:Nat}{m:Mem}(h:gzt id m=true):Fresh id m:=by
 refine⟨λi hi=>?_,λi j r hi hj=>vzg hi.1 (gzd h hj).2⟩;cases hg:m.get i with
 |none=>rfl
 |some r=>have:=(gzd h hg).1;have:=hi.1;omega
def St.lt (n:Nat)(s:St):Bool:=frLt n s.fr&&gzt n s.mem&&AVal.ltL n s.df
theorem St.lt_mono {n k:Nat}(h:n<=k){s:St}(hs:s.lt n=true):s.lt k=true:=by
 simp only[St.lt,qn]at hs⊢;exact⟨⟨Lz1 h hs.1.1,Hzd h hs.1.2⟩,rzs h hs.2⟩
theorem az1v {n:Nat}{s:St}(h:s.lt n=true)(x:Operand):(czc s x).lt n=true:=by
 simp only[St.lt,qn]at h;cases x with
 |tmp t=>exact Ezt h.1.1 t
 |const v=>
  have hc:∀v,(fz9 v).lt n=true:=by intro v;unfold fz9;split<;>rfl
  have hl:∀l:List Value,AVal.ltL n (l.map fz9)=true:=by
   intro l;induction l with
   |nil=>rfl
   |cons x l ih=>simp only[List.map_cons,AVal.ltL,hc,ih,Bool.and_self]
  simp only[czc,Szn];split
  ·unfold mkAgg;split
   ·rfl
   ·exact hl _
  ·exact hc v
 |global g=>rfl
 |func f=>rfl
theorem Ozu {n:Nat}{s:St}(h:s.lt n=true){a:AVal}(ha:a.lt n=true)(d:Option Nat):(s.putD d a).lt n=true:=by
 cases d with
 |none=>exact h
 |some t=>
  simp only[St.lt,qn,St.putD,St.put,frLt]at h⊢;exact⟨⟨⟨ha,h.1.1⟩,h.1.2⟩,h.2⟩
theorem Kz1 {X:Cx}{F:Cells}{w:qo}{ρ:Env}{s:St}{a:Act}(h:Sat X F w ρ s a)(x:Operand):ARel F w ρ (czc s x) (a.eval x):=by
 cases x with
 |tmp t=>exact h.fr t
 |const v=>exact Gzw v
 |global g=>exact .any
 |func f=>exact .func rfl (by simp) rfl (by simp)
theorem DRel.mono {F F':Cells}{w w':qo}{ρ ρ':Env}(N:Nat->Prop)(hF:∀b o,F b o->F' b o)(hw:∀b o,F b o->w'.cell? ⟨b,o,none⟩=w.cell? ⟨b,o,none⟩)
 (hρ:∀id,N id->ρ'.blk id=ρ.blk id/\ρ'.vec id=ρ.vec id) {d:Deferred} {x:AVal} (h:DRel F w ρ d x) (hx:∀id,¬N id->x.has id=false):DRel F' w' ρ' d x:=by
 obtain⟨g,first,caps,v1,v2,rfl,rfl,h1,h2⟩:=h;have key:∀id,¬N id->AVal.hasL id first=false/\AVal.hasL id caps=false:=λid hid=>by
  have:=hx id hid;simp only[AVal.has,qq]at this;exact this
 exact⟨g,first,caps,v1,v2,rfl,rfl,⟨h1.1,λj a v ha hv=>(h1.2 j a v ha hv).mono N hF hw hρ λid hid=>pza (key id hid).1 ha⟩,
  ⟨h2.1,λj a v ha hv=>(h2.2 j a v ha hv).mono N hF hw hρ λid hid=>pza (key id hid).2 ha⟩⟩
theorem yzu {F F':Cells}{w w':qo}{ρ ρ':Env}{base:List Deferred}(N:Nat->Prop)(hF:∀b o,F b o->F' b o)(hw:∀b o,F b o->w'.cell? ⟨b,o,none⟩=w.cell? ⟨b,o,none⟩)
 (hρ:∀id,N id->ρ'.blk id=ρ.blk id/\ρ'.vec id=ρ.vec id) {ds:List Deferred} {xs:List AVal} (h:All2B base (DRel F w ρ) ds xs) (hx:∀id,¬N id->AVal.hasL id xs=false):All2B base (DRel F' w' ρ') ds xs:=by
 induction h with
 |nil=>exact .nil
 |cons h _ ih=>
  have key:∀id,¬N id->AVal.has id _=false/\AVal.hasL id _=false:=λid hid=>by
   have:=hx id hid;simp only[AVal.hasL,qq]at this;exact this
  exact .cons (h.mono N hF hw hρ λid hid=>(key id hid).1) (ih λid hid=>(key id hid).2)
theorem Qzb (a:Act)(d:Nat)(v:Value)(t:Nat)(h:d<a.tmps.size):(a.put (some d) v).tmps.getD t undef=if d=t then v else a.tmps.getD t undef:=by
 simp only[Act.put,zt,Array.getElem?_setIfInBounds];by_cases e:d=t
 ·subst e;simp[h]
 ·simp[e]
theorem Sat.next {X:Cx}{F F':Cells}{w w':qo}{ρ ρ':Env}{s:St}{a:Act}{o:Oper}{id:Nat}{out:Out}{v:Value}(h:Sat X F w ρ s a)(hlt:s.lt id=true)(hn0:X.n0<=id)(hd:nzl X.nt o.dst=true)
 (st:Step X.Mine F w F' w') (he:dzn id ρ ρ') (hv:ARel F' w' ρ' out.val v) (hm:MemOk F' w' ρ' X.Mine (out.wr++s.mem)):Sat X F' w' ρ' (hzt s o out) (a.put o.dst v):=by
 have hlt':=hlt;simp only[St.lt,qn]at hlt;have hold:∀t,ARel F' w' ρ' (s.get t) (a.tmps.getD t undef):=λt=>
  (h.fr t).mono (λi=>¬Own id i) st.sub st.cell he (λi hi=>Izd (zz.1 hi).1 (Ezt hlt.1.1 t))
 refine⟨?_,λt=>?_,hm,?_,st.good h.good,h.from0.trans st,λi hi=>?_⟩
 ·cases hdst:o.dst with
  |none=>exact h.size
  |some d=>simpa[Act.put]using h.size
 ·cases hdst:o.dst with
  |none=>simp only[hzt,hdst,St.putD,Act.put];exact hold t
  |some d=>
   rw[hdst]at hd;have hds:d<a.tmps.size:=by rw[h.size];simpa[nzl]using hd
   rw[Qzb a d v t hds];simp only[hzt,hdst,St.putD,St.put,St.get,qz8];split
   ·exact hv
   ·exact hold t
 ·have:(a.put o.dst v).defers=a.defers:=by cases o.dst<;>rfl
  rw[this];have e:(hzt s o out).df=s.df:=by cases hdst:o.dst<;>simp[hzt,St.putD,hdst,St.put]
  rw[e];exact yzu (λi=>¬Own id i) st.sub st.cell he h.df (λi hi=>wzj (zz.1 hi).1 hlt.2)
 ·have h1:=he i (λho=>by have:=ho.1;omega);have h2:=h.env0 i hi;exact⟨h1.1.trans h2.1,h1.2.trans h2.2⟩
theorem Sat.known {X:Cx}{F:Cells}{w:qo}{ρ:Env}{s:St}{a:Act}(h:Sat X F w ρ s a)(t:Nat)(x:AVal)(hx:ARel F w ρ x (a.tmps.getD t undef)):Sat X F w ρ (s.put t x) a:=by
 refine⟨h.size,λt'=>?_,h.mem,h.df,h.good,h.from0,h.env0⟩;simp only[St.put,St.get,qz8];split
 ·rename_i e;subst e;exact hx
 ·exact h.fr t'
theorem Sat.skip {X:Cx}{F:Cells}{w:qo}{ρ:Env}{s:St}{a:Act}(h:Sat X F w ρ s a)(d:Option Nat)(hd:nzl X.nt d=true):Sat X F w ρ (s.putD d (.tup [])) (a.put d undef):=by
 cases d with
 |none=>exact h
 |some d=>
  have hds:d<a.tmps.size:=by rw[h.size];simpa[nzl]using hd
  refine⟨by simpa[Act.put]using h.size,λt=>?_,h.mem,h.df,h.good,h.from0,h.env0⟩;rw[Qzb a d undef t hds];simp only[St.putD,St.put,St.get,qz8];split
  ·exact .tup rfl (by simp)
  ·exact h.fr t
theorem Bzz {X:Cx}{F:Cells}{w:qo}{ρ:Env}{s:St}{a:Act}(h:Sat X F w ρ s a){ops:List Oper}{j t:Nat}{oj:Oper}{x:AVal}{b:Bool}
 (hj:ops[j]?=some oj) (ht:oj.dst=some t) (hx:s.get t=x) (hb:∀v,ARel F w ρ x v->v=.bool b):yielded ops.toArray a.tmps j=some b:=by
 have h1:=hb _ (hx▸h.fr t);have h2:a.tmps[t]?=some (.bool b):=by
  rw[zt]at h1;cases hg:a.tmps[t]? with
  |none=>rw[hg]at h1;simp[undef]at h1
  |some v=>rw[hg]at h1;simp at h1;rw[h1]
 simp[yielded,hj,ht,h2]
theorem Vze {X:Cx}{F:Cells}{w:qo}{ρ:Env}{s:St}{a:Act}(h:Sat X F w ρ s a){ops:List Oper}{j t:Nat}{oj:Oper}
 (hj:ops[j]?=some oj) (ht:oj.dst=some t) (hx:s.get t=.tup []):yielded ops.toArray a.tmps j=none:=by
 have h1:=hx▸h.fr t;have h2:a.tmps.getD t undef=.tuple #[]:=by
  generalize a.tmps.getD t undef=v at h1;cases h1 with
  |@tup _ vs hl _=>rw[show vs=#[]from Array.eq_empty_of_size_eq_zero hl.symm]
 rw[zt]at h2;cases hg:a.tmps[t]? with
 |none=>simp[yielded,hj,ht,hg]
 |some v=>rw[hg]at h2;simp at h2;subst h2;simp[yielded,hj,ht,hg]
theorem az27 {X:Cx}{F:Cells}{w:qo}{ρ:Env}{s:St}{a:Act}(h:Sat X F w ρ s a){ops:List Oper}{o:Oper}(hg:dz8 ops s o=.run):
 Region.wanted o (yielded ops.toArray a.tmps)=true:=by
 unfold dz8 at hg;unfold Region.wanted;split at hg
 ·rename_i hn;rw[hn]
 ·rename_i j want hn;rw[hn];simp only;split at hg
  ·rename_i oj hj;split at hg
   ·rename_i t ht;split at hg
    ·rename_i hx;rw[Bzz h hj ht hx (b:=true) (λv hv=>by cases hv;rfl)];cases want<;>simp_all
    ·rename_i hx;rw[Bzz h hj ht hx (b:=false) (λv hv=>by cases hv;rfl)];cases want<;>simp_all
    ·cases hg
    ·cases hg
    ·cases hg
   ·cases hg
  ·cases hg
theorem Zzx {X:Cx}{F:Cells}{w:qo}{ρ:Env}{s:St}{a:Act}(h:Sat X F w ρ s a){ops:List Oper}{o:Oper}(hg:dz8 ops s o=.skip):
 Region.wanted o (yielded ops.toArray a.tmps)=false:=by
 unfold dz8 at hg;unfold Region.wanted;split at hg
 ·cases hg
 ·rename_i j want hn;rw[hn];simp only;split at hg
  ·rename_i oj hj;split at hg
   ·rename_i t ht;split at hg
    ·rename_i hx;rw[Bzz h hj ht hx (b:=true) (λv hv=>by cases hv;rfl)];cases want<;>simp_all
    ·rename_i hx;rw[Bzz h hj ht hx (b:=false) (λv hv=>by cases hv;rfl)];cases want<;>simp_all
    ·cases hg
    ·rename_i hx;rw[Vze h hj ht hx];rfl
    ·cases hg
   ·cases hg
  ·cases hg
theorem Lz4 {ops:List Oper}{s:St}{o:Oper}{t:Nat}{b want:Bool}(hg:dz8 ops s o=.ask t b want):
 s.get t=.pure (.bool b)/\∃j oj,o.guard=some (j,want)/\ops[j]?=some oj/\oj.dst=some t:=by
 unfold dz8 at hg;split at hg
 ·cases hg
 ·rename_i j want' hn;split at hg
  ·rename_i oj hj;split at hg
   ·rename_i t' ht;split at hg
    ·split at hg<;>cases hg
    ·split at hg<;>cases hg
    ·rename_i b' hx;cases hg;exact⟨hx,j,oj,hn,hj,ht⟩
    ·cases hg
    ·cases hg
   ·cases hg
  ·cases hg
theorem wzb {ops:List Oper}{s:St}{o:Oper}{t:Nat}{b want c:Bool}(hg:dz8 ops s o=.ask t b want):
 dz8 ops (s.put t (if c then .tt else .ff)) o=if c=want then .run else .skip:=by
 obtain⟨_,j,oj,h1,h2,h3⟩:=Lz4 hg;unfold dz8;rw[h1];simp only[h2,h3,St.put,St.get,qz8,if_true];cases c<;>cases want<;>rfl
theorem Sz0 {s:St}{o:Oper}{id:Nat}{out:Out}(h:s.lt id=true)(ho:Dzs id out=true):(hzt s o out).lt (id+64)=true:=by
 have h':=St.lt_mono (Nat.le_add_right id 64) h;simp only[Dzs,qn]at ho;have:=Ozu h' ho.1 o.dst;simp only[St.lt,qn]at this h'⊢;refine⟨⟨this.1.1,?_⟩,this.2⟩;exact Izi ho.2 h'.1.2
def rfn (ro:Option Nat):Fence:={Fence.wide with round:=ro}
theorem az4a {P:Program}{ro:Option Nat}{o:Oper}{a:Act}{w:qo}{next:Act->qo->Prop}{Q:Exit->Act->qo->Prop}(hd:∀c,o.op≠ .defer c)(h:o.wpIn Fence.wide 0 P a w next Q):
 o.wpIn (rfn ro) 0 P a w next Q:=by
 refine⟨λ_ _=>trivial,?_⟩;have h2:o.uponIn Fence.wide 0 P a next Q ((execOp a.eval o).run P w):=h.2
 show o.uponIn (rfn ro) 0 P a next Q ((o.semAt ro a.eval).run P w)
 rw[Oper.semAt_eq ro a.eval o hd];generalize (execOp a.eval o).run P w=r at h2;cases r with
 |ok x w'=>cases x<;>exact h2
 |halt x w'=>cases x<;>exact h2
theorem Gzq {ro:Option Nat}{X:Cx}{ops:List Oper}{hint:Nat->Option Hint}{K:St->List Eff->Prop}{Q:Exit->Act->qo->Prop}{tail:List Nat}:
 ∀ (rest:List Oper) (i id:Nat) (s:St) (tr:List Eff) (F:Cells) (w:qo) (ρ:Env) (a:Act),(ro=none\/∀o∈rest,∀c,o.op≠ .defer c)->(∀j,j<rest.length->rest[j]?=ops[i+j]?)->jzw P X.nt ops hint i rest id s tr K->s.lt id=true->X.n0<=id->Sat X F w ρ s a->
   (∀s' tr' F' w' ρ' a',K s' tr'->s'.lt (id+64 * rest.length)=true->Sat X F' w' ρ' s' a'->wpOpsIn (rfn ro) 0 P ops.toArray Q tail a' w')->wpOpsIn (rfn ro) 0 P ops.toArray Q (zH i rest.length++tail) a w
 |[],i,id,s,tr,F,w,ρ,a,_,_,h,hlt,_,hs,hK=>by
  simp only[jzw]at h;simp only[List.length_nil,List.range'_zero,List.nil_append];exact hK s tr F w ρ a h (by simpa using hlt) hs
 |o::rest,i,id,s,tr,F,w,ρ,a,hro,hrest,h,hlt,hn0,hs,hK=>by
  have hro':ro=none\/∀o∈rest,∀c,o.op≠ .defer c:=hro.imp (λh=>h) λh o ho=>h o (List.mem_cons_of_mem _ ho)
  have ho:ops.toArray[i]?=some o:=by have:=hrest 0 (by simp);simpa using this.symm
  have hrest':∀j,j<rest.length->rest[j]?=ops[i+1+j]?:=λj hj=>by have:=hrest (j+1) (by simpa using hj);simpa[Nat.add_assoc,Nat.add_comm 1 j]using this
  have hK':∀s' tr' F' w' ρ' a',K s' tr'->s'.lt (id+64+64 * rest.length)=true->Sat X F' w' ρ' s' a'->wpOpsIn (rfn ro) 0 P ops.toArray Q tail a' w':=λs' tr' F' w' ρ' a' h1 h2 h3=>
   hK s' tr' F' w' ρ' a' h1 (by rw[wA];rw[show id+64 * (rest.length+1)=id+64+64 * rest.length from qa];exact h2) h3
  rw[wA,List.range'_succ,xm];have run:∀ (s:St),s.lt id=true->Sat X F w ρ s a->dz8 ops s o=.run->(match fzy P hint i o id s with
   |some (out,_)=>if nzl X.nt o.dst&&Dzs id out then andO out.obl (jzw P X.nt ops hint (i+1) rest (id+64) (hzt s o out) (tr++[Cz4 ops o id out]) K)else False
   |none=>False)->wpOpsIn (rfn ro) 0 P ops.toArray Q (i::(zH (i+1) rest.length++tail)) a w:=by
   intro s hlt hs hg h;split at h
   ·rename_i out fl hstep;split at h
    ·rename_i hc;simp only[qn]at hc;obtain⟨hob,hrec⟩:=andO_iff.1 h;have hw:=az27 hs hg
     have hsnd:=Jz7 hstep hob F w ρ X.Mine s.mem a hs.mem hs.good (az60 (by simp only[St.lt,qn]at hlt;exact hlt.1.2)) (λ_ _=>rfl)
      (λx _ i hi=>Izd hi.1 (az1v hlt x)) (λx _=>Kz1 hs x)
     rw[wpOpsIn_cons];unfold wpOpIn;simp only[ho,hw,if_true];have hup:∀next Q,o.wpIn Fence.wide 0 P a w next Q->o.wpIn (rfn ro) 0 P a w next Q:=λnext Q h=>by
      rcases hro with hro|hro
      ·subst hro;exact h
      ·exact az4a (hro o (List.mem_cons_self ..)) h
     refine hup _ _ (hsnd _ _ ?_);rintro v w' ⟨F',ρ',st,he,hv,hm⟩;exact Gzq rest (i+1) (id+64) _ _ F' w' ρ' _ hro' hrest' hrec (Sz0 hlt hc.2) qa (hs.next hlt hn0 hc.1 st he hv hm) hK'
    ·exact h.elim
   ·exact h.elim
  have skip:∀ (s:St),s.lt id=true->Sat X F w ρ s a->dz8 ops s o=.skip->(if nzl X.nt o.dst then jzw P X.nt ops hint (i+1) rest (id+64) (s.putD o.dst (.tup [])) (tr++[⟨o.dst,vzn ops o,id,.tup [],[],[]⟩]) K else False)->
   wpOpsIn (rfn ro) 0 P ops.toArray Q (i::(zH (i+1) rest.length++tail)) a w:=by
   intro s hlt hs hg h;split at h
   ·rename_i hd;have hw:=Zzx hs hg;rw[wpOpsIn_cons];unfold wpOpIn;simp only[ho,hw,Bool.false_eq_true,if_false];refine⟨λ_ _=>trivial,?_⟩;exact Gzq rest (i+1) (id+64) _ _ F w ρ _ hro' hrest' h (St.lt_mono qa (Ozu hlt rfl o.dst)) qa (hs.skip o.dst hd) hK'
   ·exact h.elim
  simp only[jzw]at h;split at h
  ·rename_i hg;exact run s hlt hs hg h
  ·rename_i hg;exact skip s hlt hs hg h
  ·exact h.elim
  ·rename_i t b want hg;obtain⟨hx,_⟩:=Lz4 hg;have hv:=(hx▸hs.fr t).pure_inv.bool_inv;cases b with
   |true=>
    have hs':=hs.known t .tt (by rw[hv];exact .tt);have hlt':=Ozu hlt (a:=.tt) rfl (some t);have hk:=wzb (c:=true) hg;have h':=h.1 rfl;cases want with
    |true=>exact run _ hlt' hs' hk h'
    |false=>exact skip _ hlt' hs' hk h'
   |false=>
    have hs':=hs.known t .ff (by rw[hv];exact .ff);have hlt':=Ozu hlt (a:=.ff) rfl (some t);have hk:=wzb (c:=false) hg;have h':=h.2 rfl;cases want with
    |true=>exact skip _ hlt' hs' hk h'
    |false=>exact run _ hlt' hs' hk h'
end Go.Abs
