/-
  Region (a part of a claim: our own text).
-/
import Derived.Test.YtkbjjlfpbebiaaaGreatDoorYKSoundN
namespace Go.Abs
variable {P:Program}
def DRel (F:Cells)(w:World)(ρ:Env)(d:Deferred)(x:AVal):Prop:=
 ∃g first caps v1 v2,x=.func g first caps/\d={target:=.fn (.func g) v2,args:=v1}/\szi F w ρ first v1/\szi F w ρ caps v2
inductive All2B {α β:Type} (base:List α) (R:α->β->Prop):List α->List β->Prop
 |nil:All2B base R base []
 |cons {a:α} {b:β} {l:List α} {m:List β}:R a b->All2B base R l m->All2B base R (a::l) (b::m)
structure Cx where
 nt:Nat
 n0:Nat
 Mine:Nat->Prop
 F0:Cells
 w0:World
 ρ0:Env
 base:List Deferred
structure Sat (X:Cx) (F:Cells) (w:World) (ρ:Env) (s:St) (a:Act):Prop where
 size:a.tmps.size=X.nt
 fr:∀t,ARel F w ρ (s.get t) (a.tmps.getD t undef)
 mem:MemOk F w ρ X.Mine s.mem
 df:All2B X.base (DRel F w ρ) a.defers s.df
 good:Good F w X.Mine
 from0:Step X.Mine X.F0 X.w0 F w
 env0:∀i,i<X.n0->ρ.blk i=X.ρ0.blk i/\ρ.vec i=X.ρ0.vec i
mutual
theorem xzu {n i:Nat}(hi:n≤i):∀ {a:AVal},a.lt n=true->a.has i=false
 | .agg cs,h=>by simp only[AVal.lt]at h;simp only[AVal.has];exact ozb hi h
 | .tup cs,h=>by simp only[AVal.lt]at h;simp only[AVal.has];exact ozb hi h
 | .vec j,h=>by simp[AVal.lt]at h;simp[AVal.has];omega
 | .ptr j _,h=>by simp[AVal.lt]at h;simp[AVal.has];omega
 | .eptr j _ _ _,h=>by simp[AVal.lt]at h;simp[AVal.has];omega
 | .map j,h=>by simp[AVal.lt]at h;simp[AVal.has];omega
 | .bsl j _,h=>by simp[AVal.lt]at h;simp[AVal.has];omega
 | .view j _ _ _,h=>by simp[AVal.lt]at h;simp[AVal.has];omega
 | .iface _ a,h=>by simp only[AVal.lt]at h;simp only[AVal.has];exact xzu hi h
 | .func _ a b,h=>by
   simp only[AVal.lt,Bool.and_eq_true]at h
   simp only[AVal.has,ozb hi h.1,ozb hi h.2,Bool.or_self]
 | .any,_=>rfl
 | .pure _,_=>rfl
 | .tt,_=>rfl
 | .ff,_=>rfl
 | .ref _,_=>rfl
 | .anyb,_=>rfl
 | .nilp,_=>rfl
 | .clip _,_=>rfl
 | .yld _,_=>rfl
theorem ozb {n i:Nat}(hi:n≤i):∀ {l:List AVal},AVal.ltL n l=true->AVal.hasL i l=false
 |[],_=>rfl
 |a::l,h=>by
  simp only[AVal.ltL,Bool.and_eq_true]at h
  simp only[AVal.hasL,xzu hi h.1,ozb hi h.2,Bool.or_self]
end
mutual
theorem lt_mono {n k:Nat}(hi:n≤k):∀ {a:AVal},a.lt n=true->a.lt k=true
 | .agg cs,h=>by simp only[AVal.lt]at h⊢;exact mz6 hi h
 | .tup cs,h=>by simp only[AVal.lt]at h⊢;exact mz6 hi h
 | .vec j,h=>by simp[AVal.lt]at h⊢;omega
 | .ptr j _,h=>by simp[AVal.lt]at h⊢;omega
 | .eptr j _ _ _,h=>by simp[AVal.lt]at h⊢;omega
 | .map j,h=>by simp[AVal.lt]at h⊢;omega
 | .bsl j _,h=>by simp[AVal.lt]at h⊢;omega
 | .view j _ _ _,h=>by simp[AVal.lt]at h⊢;omega
 | .iface _ a,h=>by simp only[AVal.lt]at h⊢;exact lt_mono hi h
 | .func _ a b,h=>by
   simp only[AVal.lt,Bool.and_eq_true]at h⊢
   exact⟨mz6 hi h.1,mz6 hi h.2⟩
 | .any,_=>rfl
 | .pure _,_=>rfl
 | .tt,_=>rfl
 | .ff,_=>rfl
 | .ref _,_=>rfl
 | .anyb,_=>rfl
 | .nilp,_=>rfl
 | .clip _,_=>rfl
 | .yld _,_=>rfl
theorem mz6 {n k:Nat}(hi:n≤k):∀ {l:List AVal},AVal.ltL n l=true->AVal.ltL k l=true
 |[],_=>rfl
 |a::l,h=>by
  simp only[AVal.ltL,Bool.and_eq_true]at h⊢
  exact⟨lt_mono hi h.1,mz6 hi h.2⟩
end
theorem ezv {n:Nat}:∀ {m:Mem},fz6 n m=true->∀ {i:Nat} {r:Res},m.get i=some r->i<n/\r.lt n=true
 |[],_,i,r,h=>by simp[Mem.get]at h
 |(k,q)::m,hm,i,r,h=>by
  simp only[fz6,Bool.and_eq_true,decide_eq_true_eq]at hm
  simp only[Mem.get]at h
  split at h
  ·rename_i e;subst e;cases h;exact⟨hm.1.1,hm.1.2⟩
  ·exact ezv hm.2 h
theorem Nzc {n k:Nat}(h:n≤k){r:Res}(hr:r.lt n=true):r.lt k=true:=by
 cases r with
 |box cs=>exact mz6 h hr
 |vecX _ _ _ _ _ _ i=>simp[Res.lt]at hr⊢;omega
 |vecU _ _ _ _ _ _ _ _ hs=>
  simp only[Res.lt,List.all_eq_true,decide_eq_true_eq]at hr⊢
  exact fun x hx=>Nat.lt_of_lt_of_le (hr x hx) h
 |_=>rfl
theorem wzq {n k:Nat}(h:n≤k):∀ {m:Mem},fz6 n m=true->fz6 k m=true
 |[],_=>rfl
 |(i,r)::m,hm=>by
  simp only[fz6,Bool.and_eq_true,decide_eq_true_eq]at hm⊢
  exact⟨⟨by omega,Nzc h hm.1.2⟩,wzq h hm.2⟩
theorem xzx {n:Nat}:∀ {a b:Mem},fz6 n a=true->fz6 n b=true->fz6 n (a++b)=true
 |[],b,_,hb=>hb
 |(i,r)::a,b,ha,hb=>by
  simp only[fz6,Bool.and_eq_true,List.cons_append]at ha⊢
  exact⟨ha.1,xzx ha.2 hb⟩
theorem tzy {n:Nat}:∀ {l:List (Nat×AVal)},frLt n l=true->∀t,(lz8 l t).lt n=true
 |[],_,t=>rfl
 |(i,a)::l,h,t=>by
  simp only[frLt,Bool.and_eq_true]at h
  simp only[lz8]
  split
  ·exact h.1
  ·exact tzy h.2 t
theorem Bze {n k:Nat}(h:n≤k):∀ {l:List (Nat×AVal)},frLt n l=true->frLt k l=true
 |[],_=>rfl
 |(i,a)::l,hl=>by
  simp only[frLt,Bool.and_eq_true]at hl⊢
  exact⟨lt_mono h hl.1,Bze h hl.2⟩
theorem nzg {n i:Nat}(hi:n≤i){r:Res}(h:r.lt n=true):r.has i=false:=by
 cases r with
 |box cs=>exact ozb hi h
 |vecX _ _ _ _ _ _ i=>simp[Res.lt]at h;simp[Res.has];omega
 |vecU _ _ _ _ _ _ _ _ hs=>
  simp only[Res.lt,List.all_eq_true,decide_eq_true_eq]at h
  simp only[Res.has,List.any_eq_false,beq_iff_eq]
  exact fun x hx e=>by have:=h x hx;omega
 |_=>rfl
theorem Qz8 {id:Nat}{m:Mem}(h:fz6 id m=true):Fresh id m:=by
 refine⟨fun i hi=>?_,fun i j r hi hj=>nzg hi.1 (ezv h hj).2⟩
 cases hg:m.get i with
 |none=>rfl
 |some r=>have:=(ezv h hg).1;have:=hi.1;omega
def St.lt (n:Nat)(s:St):Bool:=frLt n s.fr&&fz6 n s.mem&&AVal.ltL n s.df
theorem St.lt_mono {n k:Nat}(h:n≤k){s:St}(hs:s.lt n=true):s.lt k=true:=by
 simp only[St.lt,Bool.and_eq_true]at hs⊢
 exact⟨⟨Bze h hs.1.1,wzq h hs.1.2⟩,mz6 h hs.2⟩
theorem Oz1 {n:Nat}{s:St}(h:s.lt n=true)(x:Operand):(bzx s x).lt n=true:=by
 simp only[St.lt,Bool.and_eq_true]at h
 cases x with
 |tmp t=>exact tzy h.1.1 t
 |const v=>
  have hc:∀v,(dzq v).lt n=true:=by intro v;unfold dzq;split<;>rfl
  have hl:∀l:List Value,AVal.ltL n (l.map dzq)=true:=by
   intro l
   induction l with
   |nil=>rfl
   |cons x l ih=>simp only[List.map_cons,AVal.ltL,hc,ih,Bool.and_self]
  simp only[bzx,Izp]
  split
  ·unfold mkAgg
   split
   ·rfl
   ·exact hl _
  ·exact hc v
 |global g=>simp only[bzx];split<;>rfl
 |func f=>rfl
theorem Fzu {n:Nat}{s:St}(h:s.lt n=true){a:AVal}(ha:a.lt n=true)(d:Option Nat):(s.putD d a).lt n=true:=by
 cases d with
 |none=>exact h
 |some t=>
  simp only[St.lt,Bool.and_eq_true,St.putD,St.put,frLt]at h⊢
  exact⟨⟨⟨ha,h.1.1⟩,h.1.2⟩,h.2⟩
theorem tzu {X:Cx}{F:Cells}{w:World}{ρ:Env}{s:St}{a:Act}(h:Sat X F w ρ s a)(x:Operand):ARel F w ρ (bzx s x) (a.eval x):=by
 cases x with
 |tmp t=>exact h.fr t
 |const v=>exact wzb v
 |global g=>
  simp only[bzx]
  split
  ·rename_i k l hg
   refine .ref ⟨fun j=>.int k (l.getD j 0),fun j q hq=>?_⟩
   simp only[PVal.cells,List.getElem?_map,Option.map_eq_some_iff]at hq
   obtain⟨n,hn,rfl⟩:=hq
   have:=h.good.tab g k l hg j n hn
   have e:l.getD j 0=n:=by simp[hn]
   simp only[Nat.zero_add,e]
   exact⟨this.1,this.2,rfl,.int⟩
  ·exact .any
 |func f=>exact .func rfl (by simp) rfl (by simp)
theorem DRel.mono {F F':Cells}{w w':World}{ρ ρ':Env}(N:Nat->Prop)(hF:∀b o,F b o->F' b o)(hw:∀b o,F b o->w'.cell? ⟨b,o,none⟩=w.cell? ⟨b,o,none⟩)
 (hρ:∀id,N id->ρ'.blk id=ρ.blk id/\ρ'.vec id=ρ.vec id) {d:Deferred} {x:AVal} (h:DRel F w ρ d x) (hx:∀id,¬N id->x.has id=false):DRel F' w' ρ' d x:=by
 obtain⟨g,first,caps,v1,v2,rfl,rfl,h1,h2⟩:=h
 have key:∀id,¬N id->AVal.hasL id first=false/\AVal.hasL id caps=false:=fun id hid=>by
  have:=hx id hid;simp only[AVal.has,Bool.or_eq_false_iff]at this;exact this
 exact⟨g,first,caps,v1,v2,rfl,rfl,⟨h1.1,fun j a v ha hv=>(h1.2 j a v ha hv).mono N hF hw hρ fun id hid=>kzh (key id hid).1 ha⟩,
  ⟨h2.1,fun j a v ha hv=>(h2.2 j a v ha hv).mono N hF hw hρ fun id hid=>kzh (key id hid).2 ha⟩⟩
theorem pzk {F F':Cells}{w w':World}{ρ ρ':Env}{base:List Deferred}(N:Nat->Prop)(hF:∀b o,F b o->F' b o)(hw:∀b o,F b o->w'.cell? ⟨b,o,none⟩=w.cell? ⟨b,o,none⟩)
 (hρ:∀id,N id->ρ'.blk id=ρ.blk id/\ρ'.vec id=ρ.vec id) {ds:List Deferred} {xs:List AVal} (h:All2B base (DRel F w ρ) ds xs) (hx:∀id,¬N id->AVal.hasL id xs=false):All2B base (DRel F' w' ρ') ds xs:=by
 induction h with
 |nil=>exact .nil
 |cons h _ ih=>
  have key:∀id,¬N id->AVal.has id _=false/\AVal.hasL id _=false:=fun id hid=>by
   have:=hx id hid;simp only[AVal.hasL,Bool.or_eq_false_iff]at this;exact this
  exact .cons (h.mono N hF hw hρ fun id hid=>(key id hid).1) (ih fun id hid=>(key id hid).2)
theorem Gzv (a:Act)(d:Nat)(v:Value)(t:Nat)(h:d<a.tmps.size):(a.put (some d) v).tmps.getD t undef=if d=t then v else a.tmps.getD t undef:=by
 simp only[Act.put,Array.getD_eq_getD_getElem?,Array.getElem?_setIfInBounds]
 by_cases e:d=t
 ·subst e;simp[h]
 ·simp[e]
theorem Sat.next {X:Cx}{F F':Cells}{w w':World}{ρ ρ':Env}{s:St}{a:Act}{o:Oper}{id:Nat}{out:Out}{v:Value}(h:Sat X F w ρ s a)(hlt:s.lt id=true)(hn0:X.n0≤id)(hd:jzb X.nt o.dst=true)
 (st:Step X.Mine F w F' w') (he:czm id ρ ρ') (hv:ARel F' w' ρ' out.val v) (hm:MemOk F' w' ρ' X.Mine (out.wr++s.mem)):Sat X F' w' ρ' (fzo s o out) (a.put o.dst v):=by
 have hlt':=hlt
 simp only[St.lt,Bool.and_eq_true]at hlt
 have hold:∀t,ARel F' w' ρ' (s.get t) (a.tmps.getD t undef):=fun t=>
  (h.fr t).mono (fun i=>¬Own id i) st.sub st.cell he (fun i hi=>xzu (Classical.not_not.1 hi).1 (tzy hlt.1.1 t))
 refine⟨?_,fun t=>?_,hm,?_,st.good h.good,h.from0.trans st,fun i hi=>?_⟩
 ·cases hdst:o.dst with
  |none=>exact h.size
  |some d=>simpa[Act.put]using h.size
 ·cases hdst:o.dst with
  |none=>simp only[fzo,hdst,St.putD,Act.put];exact hold t
  |some d=>
   rw[hdst]at hd
   have hds:d<a.tmps.size:=by rw[h.size];simpa[jzb]using hd
   rw[Gzv a d v t hds]
   simp only[fzo,hdst,St.putD,St.put,St.get,lz8]
   split
   ·exact hv
   ·exact hold t
 ·have:(a.put o.dst v).defers=a.defers:=by cases o.dst<;>rfl
  rw[this]
  have e:(fzo s o out).df=s.df:=by cases hdst:o.dst<;>simp[fzo,St.putD,hdst,St.put]
  rw[e]
  exact pzk (fun i=>¬Own id i) st.sub st.cell he h.df (fun i hi=>ozb (Classical.not_not.1 hi).1 hlt.2)
 ·have h1:=he i (fun ho=>by have:=ho.1;omega)
  have h2:=h.env0 i hi
  exact⟨h1.1.trans h2.1,h1.2.trans h2.2⟩
theorem Sat.known {X:Cx}{F:Cells}{w:World}{ρ:Env}{s:St}{a:Act}(h:Sat X F w ρ s a)(t:Nat)(x:AVal)(hx:ARel F w ρ x (a.tmps.getD t undef)):Sat X F w ρ (s.put t x) a:=by
 refine⟨h.size,fun t'=>?_,h.mem,h.df,h.good,h.from0,h.env0⟩
 simp only[St.put,St.get,lz8]
 split
 ·rename_i e;subst e;exact hx
 ·exact h.fr t'
theorem Sat.skip {X:Cx}{F:Cells}{w:World}{ρ:Env}{s:St}{a:Act}(h:Sat X F w ρ s a)(d:Option Nat)(hd:jzb X.nt d=true):Sat X F w ρ (s.putD d (.tup [])) (a.put d undef):=by
 cases d with
 |none=>exact h
 |some d=>
  have hds:d<a.tmps.size:=by rw[h.size];simpa[jzb]using hd
  refine⟨by simpa[Act.put]using h.size,fun t=>?_,h.mem,h.df,h.good,h.from0,h.env0⟩
  rw[Gzv a d undef t hds]
  simp only[St.putD,St.put,St.get,lz8]
  split
  ·exact .tup rfl (by simp)
  ·exact h.fr t
theorem rz9 {X:Cx}{F:Cells}{w:World}{ρ:Env}{s:St}{a:Act}(h:Sat X F w ρ s a){ops:List Oper}{j t:Nat}{oj:Oper}{x:AVal}{b:Bool}
 (hj:ops[j]?=some oj) (ht:oj.dst=some t) (hx:s.get t=x) (hb:∀v,ARel F w ρ x v->v=.bool b):yielded ops.toArray a.tmps j=some b:=by
 have h1:=hb _ (hx▸h.fr t)
 have h2:a.tmps[t]?=some (.bool b):=by
  rw[Array.getD_eq_getD_getElem?]at h1
  cases hg:a.tmps[t]? with
  |none=>rw[hg]at h1;simp[undef]at h1
  |some v=>rw[hg]at h1;simp at h1;rw[h1]
 simp[yielded,hj,ht,h2]
theorem Kzi {X:Cx}{F:Cells}{w:World}{ρ:Env}{s:St}{a:Act}(h:Sat X F w ρ s a){ops:List Oper}{j t:Nat}{oj:Oper}
 (hj:ops[j]?=some oj) (ht:oj.dst=some t) (hx:s.get t=.tup []):yielded ops.toArray a.tmps j=none:=by
 have h1:=hx▸h.fr t
 have h2:a.tmps.getD t undef=.tuple #[]:=by
  generalize a.tmps.getD t undef=v at h1
  cases h1 with
  |@tup _ vs hl _=>rw[show vs=#[]from Array.eq_empty_of_size_eq_zero hl.symm]
 rw[Array.getD_eq_getD_getElem?]at h2
 cases hg:a.tmps[t]? with
 |none=>simp[yielded,hj,ht,hg]
 |some v=>rw[hg]at h2;simp at h2;subst h2;simp[yielded,hj,ht,hg]
theorem Ozc {X:Cx}{F:Cells}{w:World}{ρ:Env}{s:St}{a:Act}(h:Sat X F w ρ s a){ops:List Oper}{o:Oper}(hg:czn ops s o=.run):
 Region.wanted o (yielded ops.toArray a.tmps)=true:=by
 unfold czn at hg
 unfold Region.wanted
 split at hg
 ·rename_i hn;rw[hn]
 ·rename_i j want hn
  rw[hn]
  simp only
  split at hg
  ·rename_i oj hj
   split at hg
   ·rename_i t ht
    split at hg
    ·rename_i hx
     rw[rz9 h hj ht hx (b:=true) (fun v hv=>by cases hv;rfl)]
     cases want<;>simp_all
    ·rename_i hx
     rw[rz9 h hj ht hx (b:=false) (fun v hv=>by cases hv;rfl)]
     cases want<;>simp_all
    ·cases hg
    ·cases hg
    ·cases hg
   ·cases hg
  ·cases hg
theorem Nz6 {X:Cx}{F:Cells}{w:World}{ρ:Env}{s:St}{a:Act}(h:Sat X F w ρ s a){ops:List Oper}{o:Oper}(hg:czn ops s o=.skip):
 Region.wanted o (yielded ops.toArray a.tmps)=false:=by
 unfold czn at hg
 unfold Region.wanted
 split at hg
 ·cases hg
 ·rename_i j want hn
  rw[hn]
  simp only
  split at hg
  ·rename_i oj hj
   split at hg
   ·rename_i t ht
    split at hg
    ·rename_i hx
     rw[rz9 h hj ht hx (b:=true) (fun v hv=>by cases hv;rfl)]
     cases want<;>simp_all
    ·rename_i hx
     rw[rz9 h hj ht hx (b:=false) (fun v hv=>by cases hv;rfl)]
     cases want<;>simp_all
    ·cases hg
    ·rename_i hx
     rw[Kzi h hj ht hx];rfl
    ·cases hg
   ·cases hg
  ·cases hg
theorem Bzj {ops:List Oper}{s:St}{o:Oper}{t:Nat}{b want:Bool}(hg:czn ops s o=.ask t b want):
 s.get t=.pure (.bool b)/\∃j oj,o.guard=some (j,want)/\ops[j]?=some oj/\oj.dst=some t:=by
 unfold czn at hg
 split at hg
 ·cases hg
 ·rename_i j want' hn
  split at hg
  ·rename_i oj hj
   split at hg
   ·rename_i t' ht
    split at hg
    ·split at hg<;>cases hg
    ·split at hg<;>cases hg
    ·rename_i b' hx;cases hg;exact⟨hx,j,oj,hn,hj,ht⟩
    ·cases hg
    ·cases hg
   ·cases hg
  ·cases hg
theorem oz6 {ops:List Oper}{s:St}{o:Oper}{t:Nat}{b want c:Bool}(hg:czn ops s o=.ask t b want):
 czn ops (s.put t (if c then .tt else .ff)) o=if c=want then .run else .skip:=by
 obtain⟨_,j,oj,h1,h2,h3⟩:=Bzj hg
 unfold czn
 rw[h1]
 simp only[h2,h3,St.put,St.get,lz8,if_true]
 cases c<;>cases want<;>rfl
theorem Izc {s:St}{o:Oper}{id:Nat}{out:Out}(h:s.lt id=true)(ho:tz4 id out=true):(fzo s o out).lt (id+64)=true:=by
 have h':=St.lt_mono (Nat.le_add_right id 64) h
 simp only[tz4,Bool.and_eq_true]at ho
 have:=Fzu h' ho.1 o.dst
 simp only[St.lt,Bool.and_eq_true]at this h'⊢
 refine⟨⟨this.1.1,?_⟩,this.2⟩
 exact xzx ho.2 h'.1.2
def rfn (ro:Option Nat):Fence:={Fence.wide with round:=ro}
theorem Pzd {P:Program}{ro:Option Nat}{o:Oper}{a:Act}{w:World}{next:Act->World->Prop}{Q:Exit->Act->World->Prop}(hd:∀c,o.op≠ .defer c)(h:o.wpIn Fence.wide 0 P a w next Q):
 o.wpIn (rfn ro) 0 P a w next Q:=by
 refine⟨fun _ _=>trivial,?_⟩
 have h2:o.uponIn Fence.wide 0 P a next Q ((execOp a.eval o).run P w):=h.2
 show o.uponIn (rfn ro) 0 P a next Q ((o.semAt ro a.eval).run P w)
 rw[Oper.semAt_eq ro a.eval o hd]
 generalize (execOp a.eval o).run P w=r at h2
 cases r with
 |ok x w'=>cases x<;>exact h2
 |halt x w'=>cases x<;>exact h2
theorem vzw {ro:Option Nat}{X:Cx}{ops:List Oper}{hint:Nat->Option Hint}{K:St->List Eff->Prop}{Q:Exit->Act->World->Prop}{tail:List Nat}:
 ∀ (rest:List Oper) (i id:Nat) (s:St) (tr:List Eff) (F:Cells) (w:World) (ρ:Env) (a:Act),(ro=none\/∀o∈rest,∀c,o.op≠ .defer c)->(∀j,j<rest.length->rest[j]?=ops[i+j]?)->hz4 P X.nt ops hint i rest id s tr K->s.lt id=true->X.n0≤id->Sat X F w ρ s a->
   (∀s' tr' F' w' ρ' a',K s' tr'->s'.lt (id+64 * rest.length)=true->Sat X F' w' ρ' s' a'->wpOpsIn (rfn ro) 0 P ops.toArray Q tail a' w')->wpOpsIn (rfn ro) 0 P ops.toArray Q (List.range' i rest.length++tail) a w
 |[],i,id,s,tr,F,w,ρ,a,_,_,h,hlt,_,hs,hK=>by
  simp only[hz4]at h
  simp only[List.length_nil,List.range'_zero,List.nil_append]
  exact hK s tr F w ρ a h (by simpa using hlt) hs
 |o::rest,i,id,s,tr,F,w,ρ,a,hro,hrest,h,hlt,hn0,hs,hK=>by
  have hro':ro=none\/∀o∈rest,∀c,o.op≠ .defer c:=hro.imp (fun h=>h) fun h o ho=>h o (List.mem_cons_of_mem _ ho)
  have ho:ops.toArray[i]?=some o:=by have:=hrest 0 (by simp);simpa using this.symm
  have hrest':∀j,j<rest.length->rest[j]?=ops[i+1+j]?:=fun j hj=>by have:=hrest (j+1) (by simpa using hj);simpa[Nat.add_assoc,Nat.add_comm 1 j]using this
  have hK':∀s' tr' F' w' ρ' a',K s' tr'->s'.lt (id+64+64 * rest.length)=true->Sat X F' w' ρ' s' a'->wpOpsIn (rfn ro) 0 P ops.toArray Q tail a' w':=fun s' tr' F' w' ρ' a' h1 h2 h3=>
   hK s' tr' F' w' ρ' a' h1 (by rw[List.length_cons];rw[show id+64 * (rest.length+1)=id+64+64 * rest.length by omega];exact h2) h3
  rw[List.length_cons,List.range'_succ,List.cons_append]
  have run:∀ (s:St),s.lt id=true->Sat X F w ρ s a->czn ops s o=.run->(match ezl P hint i o id s with
   |some (out,_)=>if jzb X.nt o.dst&&tz4 id out then andO out.obl (hz4 P X.nt ops hint (i+1) rest (id+64) (fzo s o out) (tr++[rzi ops o id out]) K)else False
   |none=>False)->wpOpsIn (rfn ro) 0 P ops.toArray Q (i::(List.range' (i+1) rest.length++tail)) a w:=by
   intro s hlt hs hg h
   split at h
   ·rename_i out fl hstep
    split at h
    ·rename_i hc
     simp only[Bool.and_eq_true]at hc
     obtain⟨hob,hrec⟩:=andO_iff.1 h
     have hw:=Ozc hs hg
     have hsnd:=yz7 hstep hob F w ρ X.Mine s.mem a hs.mem hs.good (Qz8 (by simp only[St.lt,Bool.and_eq_true]at hlt;exact hlt.1.2)) (fun _ _=>rfl)
      (fun x _ i hi=>xzu hi.1 (Oz1 hlt x)) (fun x _=>tzu hs x)
     rw[wpOpsIn_cons]
     unfold wpOpIn
     simp only[ho,hw,if_true]
     have hup:∀next Q,o.wpIn Fence.wide 0 P a w next Q->o.wpIn (rfn ro) 0 P a w next Q:=fun next Q h=>by
      rcases hro with hro|hro
      ·subst hro;exact h
      ·exact Pzd (hro o (List.mem_cons_self ..)) h
     refine hup _ _ (hsnd _ _ ?_)
     rintro v w' ⟨F',ρ',st,he,hv,hm⟩
     exact vzw rest (i+1) (id+64) _ _ F' w' ρ' _ hro' hrest' hrec (Izc hlt hc.2) (by omega) (hs.next hlt hn0 hc.1 st he hv hm) hK'
    ·exact h.elim
   ·exact h.elim
  have skip:∀ (s:St),s.lt id=true->Sat X F w ρ s a->czn ops s o=.skip->(if jzb X.nt o.dst then hz4 P X.nt ops hint (i+1) rest (id+64) (s.putD o.dst (.tup [])) (tr++[⟨o.dst,nzm ops o,id,.tup [],[],[]⟩]) K else False)->
   wpOpsIn (rfn ro) 0 P ops.toArray Q (i::(List.range' (i+1) rest.length++tail)) a w:=by
   intro s hlt hs hg h
   split at h
   ·rename_i hd
    have hw:=Nz6 hs hg
    rw[wpOpsIn_cons]
    unfold wpOpIn
    simp only[ho,hw,Bool.false_eq_true,if_false]
    refine⟨fun _ _=>trivial,?_⟩
    exact vzw rest (i+1) (id+64) _ _ F w ρ _ hro' hrest' h (St.lt_mono (by omega) (Fzu hlt rfl o.dst)) (by omega) (hs.skip o.dst hd) hK'
   ·exact h.elim
  simp only[hz4]at h
  split at h
  ·rename_i hg;exact run s hlt hs hg h
  ·rename_i hg;exact skip s hlt hs hg h
  ·exact h.elim
  ·rename_i t b want hg
   obtain⟨hx,_⟩:=Bzj hg
   have hv:=(hx▸hs.fr t).pure_inv.bool_inv
   cases b with
   |true=>
    have hs':=hs.known t .tt (by rw[hv];exact .tt)
    have hlt':=Fzu hlt (a:=.tt) rfl (some t)
    have hk:=oz6 (c:=true) hg
    have h':=h.1 rfl
    cases want with
    |true=>exact run _ hlt' hs' hk h'
    |false=>exact skip _ hlt' hs' hk h'
   |false=>
    have hs':=hs.known t .ff (by rw[hv];exact .ff)
    have hlt':=Fzu hlt (a:=.ff) rfl (some t)
    have hk:=oz6 (c:=false) hg
    have h':=h.2 rfl
    cases want with
    |true=>exact skip _ hlt' hs' hk h'
    |false=>exact run _ hlt' hs' hk h'
end Go.Abs
