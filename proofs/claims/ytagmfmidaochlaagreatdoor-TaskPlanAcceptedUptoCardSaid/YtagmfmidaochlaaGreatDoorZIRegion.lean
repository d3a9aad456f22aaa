import Derived.Test.YtagmfmidaochlaaGreatDoorZISoundN
open Bool renaming true->AD,false->AE
open Array renaming getD_eq_getD_getElem?->zn
open Bool renaming and_eq_true->ql,or_self->qR
open Classical renaming not_not->zt
open Go renaming World->qm
open List renaming cons_append->wD,range'->zE
namespace Go.Abs
variable {P:Program}
def DRel (F:Cells)(w:qm)(ρ:Env)(d:Deferred)(x:ac):Prop:=
 ∃g a b e c,x=.func g a b/\d={target:=.fn (.func g) c,args:=e}/\eh F w ρ a e/\eh F w ρ b c
inductive All2B {α β:Type} (base:List α) (R:α->β->Prop):List α->List β->Prop
 |nil:All2B base R base []
 |cons {a:α} {b:β} {l:List α} {m:List β}:R a b->All2B base R l m->All2B base R (a::l) (b::m)
structure Cx where
 nt:Nat
 n0:Nat
 Mine:Nat->Prop
 F0:Cells
 w0:qm
 ρ0:Env
 base:List Deferred
structure Sat (X:Cx) (F:Cells) (w:qm) (ρ:Env) (s:St) (a:Act):Prop where
 size:a.tmps.size=X.nt
 fr:∀t,ak F w ρ (s.get t) (a.tmps.getD t undef)
 mem:aG F w ρ X.Mine s.mem
 df:All2B X.base (DRel F w ρ) a.defers s.df
 good:bM F w X.Mine
 from0:Step X.Mine X.F0 X.w0 F w
 env0:∀i,i<X.n0->ρ.blk i=X.ρ0.blk i/\ρ.vec i=X.ρ0.vec i
mutual
theorem iZ {n i:Nat}(c:n<=i):∀ {a:ac},a.lt n=true->a.has i=AE
 | .agg cs,h=>by simp only[ac.lt]at h;simp only[ac.has];exact ia c h
 | .tup cs,h=>by simp only[ac.lt]at h;simp only[ac.has];exact ia c h
 | .vec j,h=>by simp[ac.lt]at h;simp[ac.has];omega
 | .ptr j _,h=>by simp[ac.lt]at h;simp[ac.has];omega
 | .eptr j _ _ _,h=>by simp[ac.lt]at h;simp[ac.has];omega
 | .map j,h=>by simp[ac.lt]at h;simp[ac.has];omega
 | .bsl j _,h=>by simp[ac.lt]at h;simp[ac.has];omega
 | .view j _ _ _,h=>by simp[ac.lt]at h;simp[ac.has];omega
 | .iface _ a,h=>by simp only[ac.lt]at h;simp only[ac.has];exact iZ c h
 | .func _ a b,h=>by
   simp only[ac.lt,ql]at h;simp only[ac.has,ia c h.1,ia c h.2,qR]
 | .any,_=>rfl
 | .pure _,_=>rfl
 | .tt,_=>rfl
 | .ff,_=>rfl
 | .ref _,_=>rfl
 | .anyb,_=>rfl
 | .nilp,_=>rfl
 | .clip _,_=>rfl
 | .yld _,_=>rfl
theorem ia {n i:Nat}(b:n<=i):∀ {l:List ac},ac.ltL n l=true->ac.hasL i l=AE
 |[],_=>rfl
 |a::l,h=>by
  simp only[ac.ltL,ql]at h;simp only[ac.hasL,iZ b h.1,ia b h.2,qR]
end
mutual
theorem lt_mono {n k:Nat}(c:n<=k):∀ {a:ac},a.lt n=true->a.lt k=AD
 | .agg cs,h=>by simp only[ac.lt]at h⊢;exact kY c h
 | .tup cs,h=>by simp only[ac.lt]at h⊢;exact kY c h
 | .vec j,h=>by simp[ac.lt]at h⊢;omega
 | .ptr j _,h=>by simp[ac.lt]at h⊢;omega
 | .eptr j _ _ _,h=>by simp[ac.lt]at h⊢;omega
 | .map j,h=>by simp[ac.lt]at h⊢;omega
 | .bsl j _,h=>by simp[ac.lt]at h⊢;omega
 | .view j _ _ _,h=>by simp[ac.lt]at h⊢;omega
 | .iface _ a,h=>by simp only[ac.lt]at h⊢;exact lt_mono c h
 | .func _ a b,h=>by
   simp only[ac.lt,ql]at h⊢;exact⟨kY c h.1,kY c h.2⟩
 | .any,_=>rfl
 | .pure _,_=>rfl
 | .tt,_=>rfl
 | .ff,_=>rfl
 | .ref _,_=>rfl
 | .anyb,_=>rfl
 | .nilp,_=>rfl
 | .clip _,_=>rfl
 | .yld _,_=>rfl
theorem kY {n k:Nat}(b:n<=k):∀ {l:List ac},ac.ltL n l=true->ac.ltL k l=AD
 |[],_=>rfl
 |a::l,h=>by
  simp only[ac.ltL,ql]at h⊢;exact⟨lt_mono b h.1,kY b h.2⟩
end
theorem ft {n:Nat}:∀ {m:Mem},b6 n m=true->∀ {i:Nat} {r:Res},m.get i=some r->i<n/\r.lt n=AD
 |[],_,i,r,h=>by simp[Mem.get]at h
 |(k,q)::m,a,i,r,h=>by
  simp only[b6,ql,qf]at a;simp only[Mem.get]at h;split at h;{simp_all};exact ft a.2 h
theorem acI {n k:Nat}(h:n<=k){r:Res}(a:r.lt n=AD):r.lt k=true:=by cases r<;>grind[kY,Res.lt]
theorem Dm {n k:Nat}(h:n<=k):∀ {m:Mem},b6 n m=true->b6 k m=AD
 |[],_=>rfl
 |(i,r)::m,a=>by
  simp only[b6,ql,qf]at a⊢;exact⟨⟨qa,acI h a.1.2⟩,Dm h a.2⟩
theorem Pu {n:Nat}:∀ {a b:Mem},b6 n a=true->b6 n b=true->b6 n (a++b)=AD
 |[],b,_,d=>d
 |(i,r)::a,b,c,d=>by
  simp only[b6,ql,wD]at c⊢;exact⟨c.1,Pu c.2 d⟩
theorem oc {n:Nat}:∀ {l:List (Nat×ac)},frLt n l=true->∀t,(di l t).lt n=AD
 |[],_,t=>rfl
 |(i,a)::l,h,t=>by
  simp only[frLt,ql]at h;simp only[di];split;{exact h.1};exact oc h.2 t
theorem DL {n k:Nat}(h:n<=k):∀ {l:List (Nat×ac)},frLt n l=true->frLt k l=AD
 |[],_=>rfl
 |(i,a)::l,b=>by
  simp only[frLt,ql]at b⊢;exact⟨lt_mono h b.1,DL h b.2⟩
theorem my {n i:Nat}(a:n<=i){r:Res}(h:r.lt n=AD):r.has i=false:=by cases r<;>grind[ia,Res.lt,Res.has]
theorem aeA {id:Nat}{m:Mem}(h:b6 id m=AD):dN id m:=by
 refine⟨λi c=>?_,λi j r c b=>my c.1 (ft h b).2⟩;cases a:m.get i with
 |none=>rfl
 |some r=>have:=(ft h a).1;have:=c.1;omega
def St.lt (n:Nat)(s:St):Bool:=frLt n s.fr&&b6 n s.mem&&ac.ltL n s.df
variable {s:St}
theorem St.lt_mono{n k:Nat}(h:n<=k)(a:s.lt n=AD):s.lt k=true:=by grind[St.lt,DL,Dm,kY]
theorem FE{n:Nat}(h:s.lt n=AD)(x:Operand):(aL s x).lt n=true:=by
 simp only[St.lt,ql]at h;cases x with
 |tmp t=>exact oc h.1.1 t
 |const v=>
  have a:∀v,(eX v).lt n=true:=by intro v;unfold eX;split<;>rfl
  have b:∀l:List Value,ac.ltL n (l.map eX)=true:=by
   intro l;induction l with
   |nil=>rfl
   |cons x l c=>simp only[List.map_cons,ac.ltL,a,c,Bool.and_self]
  simp only[aL,oI];split
  ·unfold mkAgg;split;{rfl};exact b _
  exact a v
 |global g=>simp only[aL];split<;>rfl
 |func f=>rfl
theorem mY{n:Nat}(h:s.lt n=AD){a:ac}(b:a.lt n=AD)(d:Option Nat):(s.putD d a).lt n=true:=by cases d<;>grind[St.lt,St.putD,St.put,frLt]
variable {X:Cx}{F:Cells}{w:qm}{a:Act}
theorem oa{ρ:Env}(h:Sat X F w ρ s a)(x:Operand):ak F w ρ (aL s x) (a.eval x):=by
 cases x with
 |tmp t=>exact h.fr t
 |const v=>exact Dc v
 |global g=>
  simp only[aL];split
  ·rename_i k l d;refine .ref ⟨λj=>.int k (l.getD j 0),λj q c=>?_⟩;simp only[ae.cells,List.getElem?_map,Option.map_eq_some_iff]at c;obtain⟨n,b,rfl⟩:=c;have:=h.good.tab g k l d j n b;have e:l.getD j 0=n:=by simp[b]
   simp only[Nat.zero_add,e];exact⟨this.1,this.2,rfl,.int⟩
  exact .any
 |func f=>exact .func rfl jV rfl jV
theorem DRel.mono {F F':Cells}{w s:qm}{ρ ρ':Env}(N:Nat->Prop)(q:∀b o,F b o->F' b o)(n:∀b o,F b o->s.cell? ⟨b,o,none⟩=w.cell? ⟨b,o,none⟩)
 (l:∀id,N id->ρ'.blk id=ρ.blk id/\ρ'.vec id=ρ.vec id) {d:Deferred} {x:ac} (h:DRel F w ρ d x) (y:∀id,¬N id->x.has id=AE):DRel F' s ρ' d x:=by
 obtain⟨g,c,f,u,t,rfl,rfl,p,r⟩:=h;have i:∀id,¬N id->ac.hasL id c=AE/\ac.hasL id f=false:=λid e=>by
  grind[ac.has]
 exact⟨g,c,f,u,t,rfl,rfl,⟨p.1,λj a v k m=>(p.2 j a v k m).mono N q n l λid e=>iO (i id e).1 k⟩,
  ⟨r.1,λj a v k m=>(r.2 j a v k m).mono N q n l λid e=>iO (i id e).2 k⟩⟩
variable {m:Cells}{g:qm}
theorem mG{ρ ρ':Env}{c:List Deferred}(N:Nat->Prop)(k:∀b o,F b o->m b o)(l:∀b o,F b o->g.cell? ⟨b,o,none⟩=w.cell? ⟨b,o,none⟩)
 (e:∀id,N id->ρ'.blk id=ρ.blk id/\ρ'.vec id=ρ.vec id) {p:List Deferred} {f:List ac} (h:All2B c (DRel F w ρ) p f) (i:∀id,¬N id->ac.hasL id f=AE):All2B c (DRel m g ρ') p f:=by
 induction h with
 |nil=>exact .nil
 |cons h _ j=>
  have d:∀id,¬N id->ac.has id _=AE/\ac.hasL id _=false:=λid a=>by
   have:=i id a;simp only[ac.hasL,Bool.or_eq_false_iff]at this;omega
  exact .cons (h.mono N k l e λid a=>(d id a).1) (j λid a=>(d id a).2)
theorem EK (a:Act)(d:Nat)(v:Value)(t:Nat)(h:d<a.tmps.size):(a.put (some d) v).tmps.getD t undef=if d=t then v else a.tmps.getD t undef:=by simp only[Act.put,zn,Array.getElem?_setIfInBounds];grind
variable {o:Oper}
theorem Sat.next{ρ ρ':Env}{id:Nat}{out:Out}{v:Value}(h:Sat X F w ρ s a)(c:s.lt id=AD)(n:X.n0<=id)(l:cY X.nt o.dst=AD)
 (f:Step X.Mine F w m g) (k:cA id ρ ρ') (u:ak m g ρ' out.val v) (r:aG m g ρ' X.Mine (out.wr++s.mem)):Sat X m g ρ' (dr s o out) (a.put o.dst v):=by
 simp only[St.lt,ql]at c;have j:∀t,ak m g ρ' (s.get t) (a.tmps.getD t undef):=λt=>
  (h.fr t).mono (λi=>¬Own id i) f.sub f.cell k (λi z=>iZ (zt.1 z).1 (oc c.1.1 t))
 refine⟨?_,λt=>?_,r,?_,f.good h.good,h.from0.trans f,λi z=>?_⟩
 ·cases b:o.dst with
  |none=>exact h.size
  |some d=>simpa[Act.put]using h.size
 ·cases b:o.dst with
  |none=>simp only[dr,b,St.putD,Act.put];exact j t
  |some d=>
   rw[b]at l;have q:d<a.tmps.size:=by rw[h.size];simpa[cY]using l
   grind[EK,dr,St.putD,St.put,St.get,di]
 ·have:(a.put o.dst v).defers=a.defers:=by cases o.dst<;>rfl
  rw[this];have e:(dr s o out).df=s.df:=by cases b:o.dst<;>simp[dr,St.putD,b,St.put]
  rw[e];exact mG (λi=>¬Own id i) f.sub f.cell k h.df (λi z=>ia (zt.1 z).1 c.2)
 have x:=k i (λp=>by have:=p.1;omega);have y:=h.env0 i z;simp_all
theorem Sat.known{ρ:Env}{a:Act}(h:Sat X F w ρ s a)(t:Nat)(x:ac)(c:ak F w ρ x (a.tmps.getD t undef)):Sat X F w ρ (s.put t x) a:=by refine⟨h.size,λb=>?_,h.mem,h.df,h.good,h.from0,h.env0⟩;simp only[St.put,St.get,di];split;{simp_all};exact h.fr b
theorem Sat.skip {X:Cx}{F:Cells}{w:qm}{ρ:Env}{s:St}{a:Act}(h:Sat X F w ρ s a)(d:Option Nat)(c:cY X.nt d=AD):Sat X F w ρ (s.putD d (.tup [])) (a.put d undef):=by
 cases d with
 |none=>exact h
 |some d=>
  have b:d<a.tmps.size:=by rw[h.size];simpa[cY]using c
  refine⟨by simpa[Act.put]using h.size,λt=>?_,h.mem,h.df,h.good,h.from0,h.env0⟩;rw[EK a d undef t b];simp only[St.putD,St.put,St.get,di];split;{exact .tup rfl jV};exact h.fr t
variable {l:List Oper}{j t:Nat}
theorem rV{ρ:Env}(h:Sat X F w ρ s a){x:ac}{b:Bool}
 (g:l[j]?=some o) (i:o.dst=some t) (e:s.get t=x) (f:∀v,ak F w ρ x v->v=.bool b):yielded l.toArray a.tmps j=some b:=by
 have d:=f _ (e▸h.fr t);have k:a.tmps[t]?=some (.bool b):=by
  rw[zn]at d;grind[undef]
 grind[yielded]
theorem abc{ρ:Env}(h:Sat X F w ρ s a)
 (f:l[j]?=some o) (g:o.dst=some t) (d:s.get t=.tup []):yielded l.toArray a.tmps j=none:=by
 have b:=d▸h.fr t;have e:a.tmps.getD t undef=.tuple #[]:=by
  generalize a.tmps.getD t undef=v at b;cases b<;>grind
 rw[zn]at e;grind[yielded]
theorem adm{ρ:Env}(h:Sat X F w ρ s a)(c:cB l s o=.run):
 Region.wanted o (yielded l.toArray a.tmps)=true:=by
 unfold cB at c;unfold Region.wanted;split at c;{simp_all};rename_i j g k;rw[k];simp only;split at c
 ·rename_i m i;split at c
  ·rename_i t f;split at c
   ·rename_i e;rw[rV h i f e (b:=AD) (λv d=>by cases d;rfl)];simp_all
   ·rename_i e;rw[rV h i f e (b:=AE) (λv d=>by cases d;rfl)];simp_all
   all_goals simp_all
  simp_all
 simp_all
theorem acs{ρ:Env}(h:Sat X F w ρ s a)(c:cB l s o=.skip):
 Region.wanted o (yielded l.toArray a.tmps)=false:=by
 unfold cB at c;unfold Region.wanted;split at c;{grind};rename_i j g k;rw[k];simp only;split at c
 ·rename_i m i;split at c
  ·rename_i t f;split at c
   ·rename_i e;rw[rV h i f e (b:=AD) (λv d=>by cases d;rfl)];simp_all
   ·rename_i e;rw[rV h i f e (b:=AE) (λv d=>by cases d;rfl)];simp_all
   all_goals grind[abc]
  simp_all
 simp_all
theorem DQ{b a:Bool}(d:cB l s o=.ask t b a):
 s.get t=.pure (.bool b)/\∃j c,o.guard=some (j,a)/\l[j]?=some c/\c.dst=some t:=by
 unfold cB at d;grind
theorem rJ{b a c:Bool}(d:cB l s o=.ask t b a):
 cB l (s.put t (if c then .tt else .ff)) o=if c=a then .run else .skip:=by
 obtain⟨_,j,e,h,f,g⟩:=DQ d;grind[cB,St.put,St.get,di]
theorem Q4{id:Nat}{out:Out}(h:s.lt id=AD)(c:eC id out=AD):(dr s o out).lt (id+64)=true:=by have b:=St.lt_mono (Nat.le_add_right id 64) h;simp only[eC,ql]at c;have:=mY b c.1 o.dst;simp only[St.lt,ql]at this b⊢;refine⟨⟨this.1.1,?_⟩,this.2⟩;exact Pu c.2 b.1.2
def rfn (b:Option Nat):Fence:={Fence.wide with round:=b}
theorem adZ{P:Program}{g:Option Nat}{b:Act->qm->Prop}{Q:Exit->Act->qm->Prop}(e:∀c,o.op≠ .defer c)(h:o.wpIn Fence.wide 0 P a w b Q):
 o.wpIn (rfn g) 0 P a w b Q:=by
 refine⟨λ_ _=>trivial,?_⟩;have d:o.uponIn Fence.wide 0 P a b Q ((execOp a.eval o).run P w):=h.2;show o.uponIn (rfn g) 0 P a b Q ((o.semAt g a.eval).run P w);rw[Oper.semAt_eq g a.eval o e];generalize (execOp a.eval o).run P w=r at d;cases r with
 |ok x f=>cases x<;>exact d
 |halt x f=>cases x<;>exact d
theorem sn {ro:Option Nat}{X:Cx}{ops:List Oper}{hint:Nat->Option Hint}{K:St->List aP->Prop}{Q:Exit->Act->qm->Prop}{tail:List Nat}:
 ∀ (d:List Oper) (i id:Nat) (s:St) (tr:List aP) (F:Cells) (w:qm) (ρ:Env) (a:Act),(ro=none\/∀o∈d,∀c,o.op≠ .defer c)->(∀j,j<d.length->d[j]?=ops[i+j]?)->cG P X.nt ops hint i d id s tr K->s.lt id=true->X.n0<=id->Sat X F w ρ s a->
   (∀u p F' r ρ' B,K u p->u.lt (id+64 * d.length)=true->Sat X F' r ρ' u B->wpOpsIn (rfn ro) 0 P ops.toArray Q tail B r)->wpOpsIn (rfn ro) 0 P ops.toArray Q (zE i d.length++tail) a w
 |[],i,id,s,tr,F,w,ρ,a,_,_,h,e,_,k,V=>by
  grind[cG]
 |o::d,i,id,s,tr,F,w,ρ,a,n,q,h,e,R,k,V=>by
  have y:ro=none\/∀o∈d,∀c,o.op≠ .defer c:=n.imp (λh=>h) λh o N=>h o (List.mem_cons_of_mem _ N)
  have N:ops.toArray[i]?=some o:=by have:=q 0 jV;simp_all
  have g:∀j,j<d.length->d[j]?=ops[i+1+j]?:=λj hj=>by have:=q (j+1) jW;grind
  have G:∀u p F' r ρ' B,K u p->u.lt (id+64+64 * d.length)=true->Sat X F' r ρ' u B->wpOpsIn (rfn ro) 0 P ops.toArray Q tail B r:=λu p F' r ρ' B h1 h2 h3=>
   V u p F' r ρ' B h1 jX h3
  rw[List.length_cons,List.range'_succ,wD];have J:∀ (s:St),s.lt id=true->Sat X F w ρ s a->cB ops s o=.run->(match cU P hint i o id s with
   |some (out,_)=>if cY X.nt o.dst&&eC id out then gc out.obl (cG P X.nt ops hint (i+1) d (id+64) (dr s o out) (tr++[ez ops o id out]) K)else False
   |none=>False)->wpOpsIn (rfn ro) 0 P ops.toArray Q (i::(zE (i+1) d.length++tail)) a w:=by
   intro s e k C h;split at h
   ·rename_i out fl D;split at h
    ·rename_i T;simp only[ql]at T;obtain⟨S,L⟩:=andO_iff.1 h;have O:=adm k C
     have H:=PP D S F w ρ X.Mine s.mem a k.mem k.good (aeA (by grind[St.lt])) (λ_ _=>rfl)
      (λx _ i hi=>iZ hi.1 (FE e x)) (λx _=>oa k x)
     rw[wpOpsIn_cons];unfold wpOpIn;simp only[N,O,if_true];have U:∀l Q,o.wpIn Fence.wide 0 P a w l Q->o.wpIn (rfn ro) 0 P a w l Q:=λl Q h=>by
      rcases n with n|n;{subst n;exact h};grind[adZ]
     refine U _ _ (H _ _ ?_);rintro v r ⟨F',ρ',st,he,M,W⟩;exact sn d (i+1) (id+64) _ _ F' r ρ' _ y g L (Q4 e T.2) qa (k.next e R T.1 st he M W) G
    simp_all
   simp_all
  have A:∀ (s:St),s.lt id=true->Sat X F w ρ s a->cB ops s o=.skip->(if cY X.nt o.dst then cG P X.nt ops hint (i+1) d (id+64) (s.putD o.dst (.tup [])) (tr++[⟨o.dst,fb ops o,id,.tup [],[],[]⟩]) K else False)->
   wpOpsIn (rfn ro) 0 P ops.toArray Q (i::(zE (i+1) d.length++tail)) a w:=by
   intro s e k C h;split at h;{rename_i Z;have O:=acs k C;rw[wpOpsIn_cons];unfold wpOpIn;simp only[N,O,Bool.false_eq_true,if_false];refine⟨λ_ _=>trivial,?_⟩;exact sn d (i+1) (id+64) _ _ F w ρ _ y g h (St.lt_mono qa (mY e rfl o.dst)) qa (k.skip o.dst Z) G};simp_all
  simp only[cG]at h;split at h;{grind};{grind};{simp_all};rename_i t b z C;obtain⟨Y,_⟩:=DQ C;have M:=(Y▸k.fr t).pure_inv.bool_inv;cases b with
  |true=>
   have m:=k.known t .tt (by rw[M];exact .tt);have f:=mY e (a:=.tt) rfl (some t);have E:=rJ (c:=AD) C;have I:=h.1 rfl;cases z with
   |true=>exact J _ f m E I
   |false=>exact A _ f m E I
  |false=>
   have m:=k.known t .ff (by rw[M];exact .ff);have f:=mY e (a:=.ff) rfl (some t);have E:=rJ (c:=AE) C;have I:=h.2 rfl;cases z with
   |true=>exact A _ f m E I
   |false=>exact J _ f m E I
end Go.Abs
