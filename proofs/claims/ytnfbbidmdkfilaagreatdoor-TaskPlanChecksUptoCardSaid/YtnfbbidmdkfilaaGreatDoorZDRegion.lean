import Derived.Test.YtnfbbidmdkfilaaGreatDoorZDSoundN
open Array renaming getD_eq_getD_getElem?->xK
open Bool renaming and_eq_true->qm,or_self->xJ
open Classical renaming not_not->xO
open Go renaming World->qn
open List renaming cons_append->xW,range'->xX
namespace Go.Abs
variable {P:Program}
def DRel (F:Cells)(w:qn)(ρ:Env)(d:Deferred)(x:AVal):Prop:=
 ∃g a b e c,x=.func g a b/\d={target:=.fn (.func g) c,args:=e}/\Hzu F w ρ a e/\Hzu F w ρ b c
inductive All2B {α β:Type} (base:List α) (R:α->β->Prop):List α->List β->Prop
 |nil:All2B base R base []
 |cons {a:α} {b:β} {l:List α} {m:List β}:R a b->All2B base R l m->All2B base R (a::l) (b::m)
structure Cx where
 nt:Nat
 n0:Nat
 Mine:Nat->Prop
 F0:Cells
 w0:qn
 ρ0:Env
 base:List Deferred
structure Sat (X:Cx) (F:Cells) (w:qn) (ρ:Env) (s:St) (a:Act):Prop where
 size:a.tmps.size=X.nt
 fr:∀t,ARel F w ρ (s.get t) (a.tmps.getD t undef)
 mem:MemOk F w ρ X.Mine s.mem
 df:All2B X.base (DRel F w ρ) a.defers s.df
 good:Good F w X.Mine
 from0:Step X.Mine X.F0 X.w0 F w
 env0:∀i,i<X.n0->ρ.blk i=X.ρ0.blk i/\ρ.vec i=X.ρ0.vec i
mutual
theorem Oz8 {n i:Nat}(hi:n<=i):∀ {a:AVal},a.lt n=true->a.has i=false
 | .agg cs,h=>by simp only[AVal.lt]at h;simp only[AVal.has];exact zzt hi h
 | .tup cs,h=>by simp only[AVal.lt]at h;simp only[AVal.has];exact zzt hi h
 | .vec j,h=>by simp[AVal.lt]at h;simp[AVal.has];omega
 | .ptr j _,h=>by simp[AVal.lt]at h;simp[AVal.has];omega
 | .eptr j _ _ _,h=>by simp[AVal.lt]at h;simp[AVal.has];omega
 | .map j,h=>by simp[AVal.lt]at h;simp[AVal.has];omega
 | .bsl j _,h=>by simp[AVal.lt]at h;simp[AVal.has];omega
 | .view j _ _ _,h=>by simp[AVal.lt]at h;simp[AVal.has];omega
 | .iface _ a,h=>by simp only[AVal.lt]at h;simp only[AVal.has];exact Oz8 hi h
 | .func _ a b,h=>by
   simp only[AVal.lt,qm]at h;simp only[AVal.has,zzt hi h.1,zzt hi h.2,xJ]
 | .any,_=>rfl
 | .pure _,_=>rfl
 | .tt,_=>rfl
 | .ff,_=>rfl
 | .ref _,_=>rfl
 | .anyb,_=>rfl
 | .nilp,_=>rfl
 | .clip _,_=>rfl
 | .yld _,_=>rfl
theorem zzt {n i:Nat}(hi:n<=i):∀ {l:List AVal},AVal.ltL n l=true->AVal.hasL i l=false
 |[],_=>rfl
 |a::l,h=>by
  simp only[AVal.ltL,qm]at h;simp only[AVal.hasL,Oz8 hi h.1,zzt hi h.2,xJ]
end
mutual
theorem lt_mono {n k:Nat}(hi:n<=k):∀ {a:AVal},a.lt n=true->a.lt k=true
 | .agg cs,h=>by simp only[AVal.lt]at h⊢;exact uzj hi h
 | .tup cs,h=>by simp only[AVal.lt]at h⊢;exact uzj hi h
 | .vec j,h=>by simp[AVal.lt]at h⊢;omega
 | .ptr j _,h=>by simp[AVal.lt]at h⊢;omega
 | .eptr j _ _ _,h=>by simp[AVal.lt]at h⊢;omega
 | .map j,h=>by simp[AVal.lt]at h⊢;omega
 | .bsl j _,h=>by simp[AVal.lt]at h⊢;omega
 | .view j _ _ _,h=>by simp[AVal.lt]at h⊢;omega
 | .iface _ a,h=>by simp only[AVal.lt]at h⊢;exact lt_mono hi h
 | .func _ a b,h=>by
   simp only[AVal.lt,qm]at h⊢;exact⟨uzj hi h.1,uzj hi h.2⟩
 | .any,_=>rfl
 | .pure _,_=>rfl
 | .tt,_=>rfl
 | .ff,_=>rfl
 | .ref _,_=>rfl
 | .anyb,_=>rfl
 | .nilp,_=>rfl
 | .clip _,_=>rfl
 | .yld _,_=>rfl
theorem uzj {n k:Nat}(hi:n<=k):∀ {l:List AVal},AVal.ltL n l=true->AVal.ltL k l=true
 |[],_=>rfl
 |a::l,h=>by
  simp only[AVal.ltL,qm]at h⊢;exact⟨lt_mono hi h.1,uzj hi h.2⟩
end
theorem gzn {n:Nat}:∀ {m:Mem},hzt n m=true->∀ {i:Nat} {r:Res},m.get i=some r->i<n/\r.lt n=true
 |[],_,i,r,h=>by simp[Mem.get]at h
 |(k,q)::m,a,i,r,h=>by
  simp only[hzt,qm,qf]at a;simp only[Mem.get]at h;split at h
  ·simp_all
  ·exact gzn a.2 h
theorem az9h {n k:Nat}(h:n<=k){r:Res}(a:r.lt n=true):r.lt k=true:=by
 cases r<;>grind[uzj,Res.lt]
theorem Mzv {n k:Nat}(h:n<=k):∀ {m:Mem},hzt n m=true->hzt k m=true
 |[],_=>rfl
 |(i,r)::m,a=>by
  simp only[hzt,qm,qf]at a⊢;exact⟨⟨qa,az9h h a.1.2⟩,Mzv h a.2⟩
theorem Ozd {n:Nat}:∀ {a b:Mem},hzt n a=true->hzt n b=true->hzt n (a++b)=true
 |[],b,_,d=>d
 |(i,r)::a,b,c,d=>by
  simp only[hzt,qm,xW]at c⊢;exact⟨c.1,Ozd c.2 d⟩
theorem Jzz {n:Nat}:∀ {l:List (Nat×AVal)},frLt n l=true->∀t,(rzz l t).lt n=true
 |[],_,t=>rfl
 |(i,a)::l,h,t=>by
  simp only[frLt,qm]at h;simp only[rzz];split
  ·exact h.1
  ·exact Jzz h.2 t
theorem Rzt {n k:Nat}(h:n<=k):∀ {l:List (Nat×AVal)},frLt n l=true->frLt k l=true
 |[],_=>rfl
 |(i,a)::l,b=>by
  simp only[frLt,qm]at b⊢;exact⟨lt_mono h b.1,Rzt h b.2⟩
theorem yz8 {n i:Nat}(hi:n<=i){r:Res}(h:r.lt n=true):r.has i=false:=by
 cases r<;>grind[zzt,Res.lt,Res.has]
theorem azg8 {id:Nat}{m:Mem}(h:hzt id m=true):Fresh id m:=by
 refine⟨λi hi=>?_,λi j r hi b=>yz8 hi.1 (gzn h b).2⟩;cases a:m.get i with
 |none=>rfl
 |some r=>have:=(gzn h a).1;have:=hi.1;omega
def St.lt (n:Nat)(s:St):Bool:=frLt n s.fr&&hzt n s.mem&&AVal.ltL n s.df
theorem St.lt_mono {n k:Nat}(h:n<=k){s:St}(a:s.lt n=true):s.lt k=true:=by
 grind[St.lt,Rzt,Mzv,uzj]
theorem azbd {n:Nat}{s:St}(h:s.lt n=true)(x:Operand):(bzz s x).lt n=true:=by
 simp only[St.lt,qm]at h;cases x with
 |tmp t=>exact Jzz h.1.1 t
 |const v=>
  have hc:∀v,(fzc v).lt n=true:=by intro v;unfold fzc;split<;>rfl
  have hl:∀l:List Value,AVal.ltL n (l.map fzc)=true:=by
   intro l;induction l with
   |nil=>rfl
   |cons x l ih=>simp only[List.map_cons,AVal.ltL,hc,ih,Bool.and_self]
  simp only[bzz,az0x];split
  ·unfold mkAgg;split
   ·rfl
   ·exact hl _
  ·exact hc v
 |global g=>simp only[bzz];split<;>rfl
 |func f=>rfl
theorem Wzq {n:Nat}{s:St}(h:s.lt n=true){a:AVal}(b:a.lt n=true)(d:Option Nat):(s.putD d a).lt n=true:=by
 cases d<;>grind[St.lt,St.putD,St.put,frLt]
theorem Jzw {X:Cx}{F:Cells}{w:qn}{ρ:Env}{s:St}{a:Act}(h:Sat X F w ρ s a)(x:Operand):ARel F w ρ (bzz s x) (a.eval x):=by
 cases x with
 |tmp t=>exact h.fr t
 |const v=>exact Mzi v
 |global g=>
  simp only[bzz];split
  ·rename_i k l hg;refine .ref ⟨λj=>.int k (l.getD j 0),λj q hq=>?_⟩;simp only[PVal.cells,List.getElem?_map,Option.map_eq_some_iff]at hq;obtain⟨n,hn,rfl⟩:=hq;have:=h.good.tab g k l hg j n hn;have e:l.getD j 0=n:=by simp[hn]
   simp only[Nat.zero_add,e];exact⟨this.1,this.2,rfl,.int⟩
  ·exact .any
 |func f=>exact .func rfl jq rfl jq
theorem DRel.mono {F F':Cells}{w s:qn}{ρ ρ':Env}(N:Nat->Prop)(q:∀b o,F b o->F' b o)(n:∀b o,F b o->s.cell? ⟨b,o,none⟩=w.cell? ⟨b,o,none⟩)
 (l:∀id,N id->ρ'.blk id=ρ.blk id/\ρ'.vec id=ρ.vec id) {d:Deferred} {x:AVal} (h:DRel F w ρ d x) (y:∀id,¬N id->x.has id=false):DRel F' s ρ' d x:=by
 obtain⟨g,c,f,u,t,rfl,rfl,p,r⟩:=h;have i:∀id,¬N id->AVal.hasL id c=false/\AVal.hasL id f=false:=λid e=>by
  grind[AVal.has]
 exact⟨g,c,f,u,t,rfl,rfl,⟨p.1,λj a v k m=>(p.2 j a v k m).mono N q n l λid e=>qzl (i id e).1 k⟩,
  ⟨r.1,λj a v k m=>(r.2 j a v k m).mono N q n l λid e=>qzl (i id e).2 k⟩⟩
theorem Mz7 {F F':Cells}{w g:qn}{ρ ρ':Env}{c:List Deferred}(N:Nat->Prop)(k:∀b o,F b o->F' b o)(l:∀b o,F b o->g.cell? ⟨b,o,none⟩=w.cell? ⟨b,o,none⟩)
 (e:∀id,N id->ρ'.blk id=ρ.blk id/\ρ'.vec id=ρ.vec id) {ds:List Deferred} {xs:List AVal} (h:All2B c (DRel F w ρ) ds xs) (i:∀id,¬N id->AVal.hasL id xs=false):All2B c (DRel F' g ρ') ds xs:=by
 induction h with
 |nil=>exact .nil
 |cons h _ j=>
  have d:∀id,¬N id->AVal.has id _=false/\AVal.hasL id _=false:=λid a=>by
   have:=i id a;simp only[AVal.hasL,Bool.or_eq_false_iff]at this;omega
  exact .cons (h.mono N k l e λid a=>(d id a).1) (j λid a=>(d id a).2)
theorem Yz9 (a:Act)(d:Nat)(v:Value)(t:Nat)(h:d<a.tmps.size):(a.put (some d) v).tmps.getD t undef=if d=t then v else a.tmps.getD t undef:=by
 simp only[Act.put,xK,Array.getElem?_setIfInBounds]
 grind
theorem Sat.next {X:Cx}{F F':Cells}{w j:qn}{ρ ρ':Env}{s:St}{a:Act}{o:Oper}{id:Nat}{out:Out}{v:Value}(h:Sat X F w ρ s a)(c:s.lt id=true)(n:X.n0<=id)(m:oza X.nt o.dst=true)
 (f:Step X.Mine F w F' j) (k:dz4 id ρ ρ') (u:ARel F' j ρ' out.val v) (r:MemOk F' j ρ' X.Mine (out.wr++s.mem)):Sat X F' j ρ' (izt s o out) (a.put o.dst v):=by
 simp only[St.lt,qm]at c;have g:∀t,ARel F' j ρ' (s.get t) (a.tmps.getD t undef):=λt=>
  (h.fr t).mono (λi=>¬Own id i) f.sub f.cell k (λi hi=>Oz8 (xO.1 hi).1 (Jzz c.1.1 t))
 refine⟨?_,λt=>?_,r,?_,f.good h.good,h.from0.trans f,λi hi=>?_⟩
 ·cases b:o.dst with
  |none=>exact h.size
  |some d=>simpa[Act.put]using h.size
 ·cases b:o.dst with
  |none=>simp only[izt,b,St.putD,Act.put];exact g t
  |some d=>
   rw[b]at m;have q:d<a.tmps.size:=by rw[h.size];simpa[oza]using m
   grind[Yz9,izt,St.putD,St.put,St.get,rzz]
 ·have:(a.put o.dst v).defers=a.defers:=by cases o.dst<;>rfl
  rw[this];have e:(izt s o out).df=s.df:=by cases b:o.dst<;>simp[izt,St.putD,b,St.put]
  rw[e];exact Mz7 (λi=>¬Own id i) f.sub f.cell k h.df (λi hi=>zzt (xO.1 hi).1 c.2)
 ·have x:=k i (λp=>by have:=p.1;omega);have y:=h.env0 i hi
  simp_all
theorem Sat.known {X:Cx}{F:Cells}{w:qn}{ρ:Env}{s:St}{a:Act}(h:Sat X F w ρ s a)(t:Nat)(x:AVal)(c:ARel F w ρ x (a.tmps.getD t undef)):Sat X F w ρ (s.put t x) a:=by
 refine⟨h.size,λb=>?_,h.mem,h.df,h.good,h.from0,h.env0⟩;simp only[St.put,St.get,rzz];split
 ·simp_all
 ·exact h.fr b
theorem Sat.skip {X:Cx}{F:Cells}{w:qn}{ρ:Env}{s:St}{a:Act}(h:Sat X F w ρ s a)(d:Option Nat)(c:oza X.nt d=true):Sat X F w ρ (s.putD d (.tup [])) (a.put d undef):=by
 cases d with
 |none=>exact h
 |some d=>
  have b:d<a.tmps.size:=by rw[h.size];simpa[oza]using c
  refine⟨by simpa[Act.put]using h.size,λt=>?_,h.mem,h.df,h.good,h.from0,h.env0⟩;rw[Yz9 a d undef t b];simp only[St.putD,St.put,St.get,rzz];split
  ·exact .tup rfl jq
  ·exact h.fr t
theorem Gz8 {X:Cx}{F:Cells}{w:qn}{ρ:Env}{s:St}{a:Act}(h:Sat X F w ρ s a){ops:List Oper}{j t:Nat}{c:Oper}{x:AVal}{b:Bool}
 (g:ops[j]?=some c) (i:c.dst=some t) (e:s.get t=x) (f:∀v,ARel F w ρ x v->v=.bool b):yielded ops.toArray a.tmps j=some b:=by
 have d:=f _ (e▸h.fr t);have k:a.tmps[t]?=some (.bool b):=by
  rw[xK]at d
  grind[undef]
 grind[yielded]
theorem az3v {X:Cx}{F:Cells}{w:qn}{ρ:Env}{s:St}{a:Act}(h:Sat X F w ρ s a){ops:List Oper}{j t:Nat}{c:Oper}
 (f:ops[j]?=some c) (g:c.dst=some t) (d:s.get t=.tup []):yielded ops.toArray a.tmps j=none:=by
 have b:=d▸h.fr t;have e:a.tmps.getD t undef=.tuple #[]:=by
  generalize a.tmps.getD t undef=v at b;cases b<;>grind
 rw[xK]at e
 grind[yielded]
theorem azbu {X:Cx}{F:Cells}{w:qn}{ρ:Env}{s:St}{a:Act}(h:Sat X F w ρ s a){ops:List Oper}{o:Oper}(c:dzi ops s o=.run):
 Region.wanted o (yielded ops.toArray a.tmps)=true:=by
 unfold dzi at c;unfold Region.wanted;split at c
 ·simp_all
 ·rename_i j g k;rw[k];simp only;split at c
  ·rename_i l i;split at c
   ·rename_i t f;split at c
    ·rename_i e;rw[Gz8 h i f e (b:=true) (λv d=>by cases d;rfl)]
     simp_all
    ·rename_i e;rw[Gz8 h i f e (b:=false) (λv d=>by cases d;rfl)]
     simp_all
    all_goals simp_all
   simp_all
  simp_all
theorem az8u {X:Cx}{F:Cells}{w:qn}{ρ:Env}{s:St}{a:Act}(h:Sat X F w ρ s a){ops:List Oper}{o:Oper}(c:dzi ops s o=.skip):
 Region.wanted o (yielded ops.toArray a.tmps)=false:=by
 unfold dzi at c;unfold Region.wanted;split at c
 ·grind
 ·rename_i j g k;rw[k];simp only;split at c
  ·rename_i l i;split at c
   ·rename_i t f;split at c
    ·rename_i e;rw[Gz8 h i f e (b:=true) (λv d=>by cases d;rfl)]
     simp_all
    ·rename_i e;rw[Gz8 h i f e (b:=false) (λv d=>by cases d;rfl)]
     simp_all
    all_goals grind[az3v]
   simp_all
  simp_all
theorem Rzy {ops:List Oper}{s:St}{o:Oper}{t:Nat}{b a:Bool}(d:dzi ops s o=.ask t b a):
 s.get t=.pure (.bool b)/\∃j c,o.guard=some (j,a)/\ops[j]?=some c/\c.dst=some t:=by
 unfold dzi at d
 grind
theorem zzl {ops:List Oper}{s:St}{o:Oper}{t:Nat}{b a c:Bool}(d:dzi ops s o=.ask t b a):
 dzi ops (s.put t (if c then .tt else .ff)) o=if c=a then .run else .skip:=by
 obtain⟨_,j,e,h,f,g⟩:=Rzy d
 grind[dzi,St.put,St.get,rzz]
theorem az07 {s:St}{o:Oper}{id:Nat}{out:Out}(h:s.lt id=true)(c:Izi id out=true):(izt s o out).lt (id+64)=true:=by
 have b:=St.lt_mono (Nat.le_add_right id 64) h;simp only[Izi,qm]at c;have:=Wzq b c.1 o.dst;simp only[St.lt,qm]at this b⊢;refine⟨⟨this.1.1,?_⟩,this.2⟩;exact Ozd c.2 b.1.2
def rfn (ro:Option Nat):Fence:={Fence.wide with round:=ro}
theorem aze9 {P:Program}{ro:Option Nat}{o:Oper}{a:Act}{w:qn}{b:Act->qn->Prop}{Q:Exit->Act->qn->Prop}(e:∀c,o.op≠ .defer c)(h:o.wpIn Fence.wide 0 P a w b Q):
 o.wpIn (rfn ro) 0 P a w b Q:=by
 refine⟨λ_ _=>trivial,?_⟩;have d:o.uponIn Fence.wide 0 P a b Q ((execOp a.eval o).run P w):=h.2;show o.uponIn (rfn ro) 0 P a b Q ((o.semAt ro a.eval).run P w);rw[Oper.semAt_eq ro a.eval o e];generalize (execOp a.eval o).run P w=r at d;cases r with
 |ok x f=>cases x<;>exact d
 |halt x f=>cases x<;>exact d
theorem Mz4 {ro:Option Nat}{X:Cx}{ops:List Oper}{hint:Nat->Option Hint}{K:St->List Eff->Prop}{Q:Exit->Act->qn->Prop}{tail:List Nat}:
 ∀ (d:List Oper) (i id:Nat) (s:St) (tr:List Eff) (F:Cells) (w:qn) (ρ:Env) (a:Act),(ro=none\/∀o∈d,∀c,o.op≠ .defer c)->(∀j,j<d.length->d[j]?=ops[i+j]?)->kz5 P X.nt ops hint i d id s tr K->s.lt id=true->X.n0<=id->Sat X F w ρ s a->
   (∀u p F' r ρ' B,K u p->u.lt (id+64 * d.length)=true->Sat X F' r ρ' u B->wpOpsIn (rfn ro) 0 P ops.toArray Q tail B r)->wpOpsIn (rfn ro) 0 P ops.toArray Q (xX i d.length++tail) a w
 |[],i,id,s,tr,F,w,ρ,a,_,_,h,e,_,k,V=>by
  grind[kz5]
 |o::d,i,id,s,tr,F,w,ρ,a,n,q,h,e,R,k,V=>by
  have y:ro=none\/∀o∈d,∀c,o.op≠ .defer c:=n.imp (λh=>h) λh o N=>h o (List.mem_cons_of_mem _ N)
  have N:ops.toArray[i]?=some o:=by have:=q 0 jq;simp_all
  have g:∀j,j<d.length->d[j]?=ops[i+1+j]?:=λj hj=>by have:=q (j+1) jr;grind
  have G:∀u p F' r ρ' B,K u p->u.lt (id+64+64 * d.length)=true->Sat X F' r ρ' u B->wpOpsIn (rfn ro) 0 P ops.toArray Q tail B r:=λu p F' r ρ' B h1 h2 h3=>
   V u p F' r ρ' B h1 jt h3
  rw[List.length_cons,List.range'_succ,xW];have J:∀ (s:St),s.lt id=true->Sat X F w ρ s a->dzi ops s o=.run->(match gzv P hint i o id s with
   |some (out,_)=>if oza X.nt o.dst&&Izi id out then andO out.obl (kz5 P X.nt ops hint (i+1) d (id+64) (izt s o out) (tr++[Iz5 ops o id out]) K)else False
   |none=>False)->wpOpsIn (rfn ro) 0 P ops.toArray Q (i::(xX (i+1) d.length++tail)) a w:=by
   intro s e k C h;split at h
   ·rename_i out fl D;split at h
    ·rename_i T;simp only[qm]at T;obtain⟨S,L⟩:=andO_iff.1 h;have O:=azbu k C
     have H:=Ozz D S F w ρ X.Mine s.mem a k.mem k.good (azg8 (by grind[St.lt])) (λ_ _=>rfl)
      (λx _ i hi=>Oz8 hi.1 (azbd e x)) (λx _=>Jzw k x)
     rw[wpOpsIn_cons];unfold wpOpIn;simp only[N,O,if_true];have U:∀l Q,o.wpIn Fence.wide 0 P a w l Q->o.wpIn (rfn ro) 0 P a w l Q:=λl Q h=>by
      rcases n with n|n
      ·subst n;exact h
      grind[aze9]
     refine U _ _ (H _ _ ?_);rintro v r ⟨F',ρ',st,he,M,W⟩;exact Mz4 d (i+1) (id+64) _ _ F' r ρ' _ y g L (az07 e T.2) qa (k.next e R T.1 st he M W) G
    simp_all
   simp_all
  have A:∀ (s:St),s.lt id=true->Sat X F w ρ s a->dzi ops s o=.skip->(if oza X.nt o.dst then kz5 P X.nt ops hint (i+1) d (id+64) (s.putD o.dst (.tup [])) (tr++[⟨o.dst,yzk ops o,id,.tup [],[],[]⟩]) K else False)->
   wpOpsIn (rfn ro) 0 P ops.toArray Q (i::(xX (i+1) d.length++tail)) a w:=by
   intro s e k C h;split at h
   ·rename_i Z;have O:=az8u k C;rw[wpOpsIn_cons];unfold wpOpIn;simp only[N,O,Bool.false_eq_true,if_false];refine⟨λ_ _=>trivial,?_⟩;exact Mz4 d (i+1) (id+64) _ _ F w ρ _ y g h (St.lt_mono qa (Wzq e rfl o.dst)) qa (k.skip o.dst Z) G
   simp_all
  simp only[kz5]at h;split at h
  ·grind
  ·grind
  ·simp_all
  ·rename_i t b z C;obtain⟨Y,_⟩:=Rzy C;have M:=(Y▸k.fr t).pure_inv.bool_inv;cases b with
   |true=>
    have m:=k.known t .tt (by rw[M];exact .tt);have f:=Wzq e (a:=.tt) rfl (some t);have E:=zzl (c:=true) C;have I:=h.1 rfl;cases z with
    |true=>exact J _ f m E I
    |false=>exact A _ f m E I
   |false=>
    have m:=k.known t .ff (by rw[M];exact .ff);have f:=Wzq e (a:=.ff) rfl (some t);have E:=zzl (c:=false) C;have I:=h.2 rfl;cases z with
    |true=>exact A _ f m E I
    |false=>exact J _ f m E I
end Go.Abs
