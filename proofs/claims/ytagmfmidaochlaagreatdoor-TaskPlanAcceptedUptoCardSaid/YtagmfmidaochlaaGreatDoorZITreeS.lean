import Derived.Test.YtagmfmidaochlaaGreatDoorZITree
import Derived.Scope
open List renaming length->AA
open Option renaming some->AB,none->AC
open Bool renaming and_eq_true->ql
open Go renaming World->qm,Program->qn
open List renaming range_eq_range'->jF,all_eq_true->qk
open Nat renaming zero_add->zq,lt_succ_self->wB
open Go.Abs.T renaming run->qj
namespace Go.Abs
def Uw {R:Type}(N:Nat)(r:R)(X:Cx)(K:Ex->T R->St->Ob)(Q:Exit->Act->qm->Prop):Prop:=
 ∀e t s F w ρ a,(K e t s).holds->qj N t=AB r->Sat X F w ρ s a->s.ok=true->X.n0<=s.nx->Q e.to a w
theorem Rq {e:Ex}(h:gw e=true):e=.normal:=by grind[gw]
def Ti:Oper->Bool:=λo=>match o.op with
 | .defer _=>true
 |_=>false
def rOk:Code->Bool
 | .skip| .label _| .exit _| .ret=>true
 | .region _ d c=> !c&&(mh d.toList).isNone&&d.toList.all λo=> !Ti o
 | .seq a b| .cond _ a b=>rOk a&&rOk b
 | .block _ b=>rOk b
 |_=>false
theorem eZ {a:Option Nat}{x y:Bool}(h:a=AC\/(x&&y)=true):(a=AC\/x=true)/\(a=AC\/y=true):=by grind
theorem dy {ro:Option Nat}{P:qn}{drawOk:List Oper->List aP->Bool}(hd:fp P drawOk){X:Cx}{N:Nat}:∀ (c:Code) {R:Type} (t:T R) (s:St) (K:Ex->T R->St->Ob) (Q:Exit->Act->qm->Prop) (r:R) (F:Cells) (w:qm) (ρ:Env) (a:Act),(ro=AC\/rOk c=true)->
 (vcT P X.nt X.n0 drawOk c t s K).holds->t.run N=AB r->Sat X F w ρ s a->s.ok=true->X.n0<=s.nx->Uw N r X K Q->c.wpIn (rfn ro) 0 P Q a w
 | .skip,R,t,s,K,Q,r,F,w,ρ,a,g,h,A,C,E,G,D=>wpIn_skip (D .normal t s F w ρ a h A C E G)
 | .label l,R,t,s,K,Q,r,F,w,ρ,a,g,h,A,C,E,G,D=>wpIn_label (D .normal t s F w ρ a h A C E G)
 | .exit id,R,t,s,K,Q,r,F,w,ρ,a,g,h,A,C,E,G,D=>wpIn_exit (D (.exit id) t s F w ρ a h A C E G)
 | .ret,R,t,s,K,Q,r,F,w,ρ,a,g,h,A,C,E,G,D=>wpIn_ret (D .ret t s F w ρ a h A C E G)
 | .region id V draw,R,t,s,K,Q,r,F,w,ρ,a,g,h,A,C,E,G,D=>by
   simp only[vcT]at h;have hx:=aho h A C E G;clear h A C E G;obtain⟨t,ρ,s,h,A,C,E,G⟩:=hx;have fin:∀U S H M ρ' O,qj N U=AB r->(K .normal U {S with nx:=s.nx+64 * AA V.toList}).holds->S.lt (s.nx+64 * AA V.toList)=true->Sat X H M ρ' S O->Q .normal O M:=by
    intro U S H M ρ' O m z Y d;exact D .normal U _ H M ρ' O z m ⟨d.size,d.fr,d.mem,d.df,d.good,d.from0,d.env0⟩ Y (by show X.n0<=s.nx+_;omega)
   split at h
   ·rename_i l x hsd;cases draw with
    |true=>simp at hsd
    |false=>
     simp only[Bool.false_eq_true,if_false]at hsd;have hrn:ro=none:=by
      rcases g with g|g;{exact g};simp[rOk,hsd]at g
     subst hrn;obtain⟨o,cc,hops,h1,h2,h3,h4,h5⟩:=NR hsd;obtain⟨hint,U,m,h⟩:=Ec (N:=N) (r:=r) _ _ _ _ _ _ h A;refine wpIn_region ?_;have hsz:V.size=AA l+1:=by rw[<-Array.length_toList,hops];simp
     have hlast:V[AA l]?=AB o:=by rw[<-Array.getElem?_toList,hops];simp
     have:=sn (Q:=Q) (tail:=[AA l]) l 0 s.nx s [] F w ρ a (.inl rfl) (λj hj=>by rw[hops,zq,List.getElem?_append_left hj]) h E G C (λS tr' H M ρ' O z Y d=>by
      simp only at z;split at z
      ·rename_i f c1 c2 hx;have hv:=hx▸oa d x;rw[wpOpsIn_cons];unfold wpOpIn;simp only[Array.toArray_toList,hlast,Region.wanted,h3,if_true];refine DD ?_;unfold Oper.wp;generalize hev:O.eval x=v at hv;cases hv with
       |@func _ _ _ v1 v2 q1 q2 q3 q4=>
        have hrun:(execOp O.eval o).run P M=.ok (.defer {target:=.fn (.func f) v2,args:=v1}) M:=by
         simp only[execOp,h1,resolve,h4,h5,hev,Deferred.ofValue];simp
        rw[hrun,Oper.upon_defer,h2];simp only[wpOpsIn,Act.put];have hlt2:=FE Y x;rw[hx]at hlt2;have hmono:s.nx+64 * AA l<=s.nx+64 * AA V.toList:=by simp[hsz];omega
        refine D .normal U _ H M ρ' _ z m ⟨d.size,d.fr,d.mem,.cons ⟨f,c1,c2,v1,v2,rfl,rfl,⟨q1,q2⟩,⟨q3,q4⟩⟩ d.df,d.good,d.from0,d.env0⟩ ?_ (by show X.n0<=s.nx+_;omega);have hl3:=St.lt_mono hmono Y;simp only[St.lt,ql]at hl3;simp only[St.ok,ql,ac.ltL];exact⟨hl3.1,lt_mono hmono hlt2,hl3.2⟩
      exact z.elim)
     rw[jF,hsz,List.range'_concat,Nat.one_mul,zq];simpa using this
   obtain⟨hint,U,m,h⟩:=Ec (N:=N) (r:=r) _ _ _ _ _ _ h A;cases draw with
   |false=>
    have hro2:ro=AC\/∀o∈V.toList,∀c,o.op≠ .defer c:=g.imp (λh=>h) λg o E c hc=>by
     simp only[rOk,ql,qk]at g;have:=g.2 o E;simp[Ti,hc]at this
    have:=sn (ro:=ro) (Q:=Q) (tail:=[]) V.toList 0 s.nx s [] F w ρ a hro2 jV h E G C (λS tr' H M ρ' O z Y d=>by simp at z;simp only[wpOpsIn];exact fin U S H M ρ' O m (by simpa using z) Y d);refine wpIn_region ?_;rw[jF];simpa using this
   |true=>
    have hrn:ro=none:=by
     rcases g with g|g;{exact g};simp[rOk]at g
    subst hrn;refine wpIn_wide.2 ?_;have:=hd X V.toList hint (λS _=>(K .normal U {S with nx:=s.nx+64 * AA V.toList}).holds) Q s.nx s F w ρ a id (DB (λS tr z=>by
     simp only[Bool.not_true,Bool.false_or]at z;split at z;{rename_i hd';exact⟨hd',z⟩};exact z.elim) _ _ _ _ _ h) E G C (λS tr' H M ρ' O z Y d=>fin U S H M ρ' O m z Y d)
    simpa using this
 | .seq x y,R,t,s,K,Q,r,F,w,ρ,a,g,h,A,C,E,G,D=>by
   have plain:∀t:T R,(vcT P X.nt X.n0 drawOk x t s (λe t s=>match e with
    | .normal=>vcT P X.nt X.n0 drawOk y t s K
    |e=>K e t s)).holds->t.run N=AB r->(Code.seq x y).wpIn (rfn ro) 0 P Q a w:=by
    intro t h A;refine wpIn_seq (dy hd x t s _ _ r F w ρ a (eZ g).1 h A C E G ?_);intro e U S H M ρ' O z m d p i;cases e with
    |normal=>exact dy hd y U S K Q r H M ρ' O (eZ g).2 z m d p i D
    |exit id=>exact D _ U S H M ρ' O z m d p i
    |ret=>exact D _ U S H M ρ' O z m d p i
   simp only[vcT]at h;split at h
   ·rename_i τ J L k;generalize J s=J at h;obtain⟨hok,h1,h2⟩:=h;have hok:=FQ hok;simp only[qj]at A;cases Z:L.run N with
    |none=>simp[Z,andC]at A
    |some st=>
     rw[Z]at A;refine wpIn_seq (dy hd x L s _ _ st F w ρ a (eZ g).1 h1 Z C E G ?_);intro e U S H M ρ' O z m d p i;simp only at z;have hK0:=sR U z m d p i;clear z m d p i;obtain⟨U,H,S,z,m,d,p,i⟩:=hK0;split at z
     ·rename_i y' s'' B;obtain⟨d,p,i⟩:=gZ B d p i;have m:=gY B m;split at z;{rename_i hn;have hn:=Rq hn;subst hn;subst m;obtain⟨ρ2,hs2⟩:=(sQ z).sat d;exact dy hd y (k y') (J y') K Q r H M ρ2 O (eZ g).2 (h2 y') A hs2 (hok y').1 (hok y').2 D};exact z.elim
     ·rename_i r' s'' B;obtain⟨d,p,i⟩:=gZ B d p i;have m:=gY B m;split at z;{exact z.elim};rename_i hn;subst m;simp only[andC,Option.some.injEq]at A;subst A;have:=D e (.ret r') s'' H M ρ' O z (by simp[qj]) d p i;cases e with
      |normal=>simp[gw]at hn
      |exit id=>exact this
      |ret=>exact this
     exact z.elim
   {exact plain _ h (by simpa only[qj]using A)};exact plain t h A
 | .cond c x y,R,t,s,K,Q,r,F,w,ρ,a,g,h,A,C,E,G,D=>by
   simp only[vcT]at h;have hc:=oa C c;split at h;{rename_i he;rw[he]at hc;exact wpIn_cond_true (by generalize a.eval c=v at hc⊢;cases hc;rfl) (dy hd x t s K Q r F w ρ a (eZ g).1 h A C E G D)};{rename_i he;rw[he]at hc;exact wpIn_cond_false (by generalize a.eval c=v at hc⊢;cases hc;rfl) (dy hd y t s K Q r F w ρ a (eZ g).2 h A C E G D)}
   ·rename_i he;rw[he]at hc;generalize hv:a.eval c=v at hc;cases hc with
    |anyb=>
     rename_i b;split at h
     ·rename_i t1 t2;obtain⟨he,h1,h2⟩:=h;have he:qj N t1=qj N t2:=he N;simp only[qj]at A;refine wpIn_cond_split hv (λZ=>?_) (λZ=>?_);{exact dy hd x t1 s K Q r F w ρ a (eZ g).1 h1 A C E G D};exact dy hd y t2 s K Q r F w ρ a (eZ g).2 h2 (he▸A) C E G D
     refine wpIn_cond_split hv (λZ=>?_) (λZ=>?_);{exact dy hd x t s K Q r F w ρ a (eZ g).1 h.1 A C E G D};exact dy hd y t s K Q r F w ρ a (eZ g).2 h.2 A C E G D
   ·rename_i b he;rw[he]at hc;split at h
    ·rename_i b' t1 t2;obtain⟨i,h1,h2⟩:=h;have i:b=b':=i;subst i;simp only[qj]at A;refine wpIn_cond_split hc.pure_inv.bool_inv (λZ=>?_) (λZ=>?_);{subst Z;exact dy hd x t1 s K Q r F w ρ a (eZ g).1 (h1 rfl) A C E G D};subst Z;exact dy hd y t2 s K Q r F w ρ a (eZ g).2 (h2 rfl) A C E G D
    {rename_i t1;obtain⟨i,h1⟩:=h;have i:b=true:=i;subst i;simp only[qj]at A;exact wpIn_cond_true hc.pure_inv.bool_inv (dy hd x t1 s K Q r F w ρ a (eZ g).1 h1 A C E G D)};{rename_i t1;obtain⟨i,h1⟩:=h;have i:b=false:=i;subst i;simp only[qj]at A;exact wpIn_cond_false hc.pure_inv.bool_inv (dy hd y t1 s K Q r F w ρ a (eZ g).2 h1 A C E G D)};exact h.elim
   exact h.elim
 | .block id L,R,t,s,K,Q,r,F,w,ρ,a,g,h,A,C,E,G,D=>by
   simp only[vcT]at h;refine wpIn_block (dy hd L t s _ _ r F w ρ a g h A C E G ?_);intro e U S H M ρ' O z m d p i;cases e with
   |normal=>exact D .normal U S H M ρ' O z m d p i
   |exit j=>
    simp only at z;simp only[Ex.to,Exit.inBlock];split at z;{rename_i e;rw[qc e];exact D .normal U S H M ρ' O z m d p i};rename_i e;rw[qb e];exact D (.exit j) U S H M ρ' O z m d p i
   |ret=>exact D .ret U S H M ρ' O z m d p i
 | .loop L,R,t,s,K,Q,r,F,w,ρ,a,g,h,A,C,E,G,D=>by
   have hrn:ro=none:=by
    rcases g with g|g;{exact g};simp[rOk]at g
   subst hrn;refine wpIn_wide.2 ?_;simp only[vcT]at h;split at h
   ·rename_i k tu;refine wp_loop' (σ:=Nat) (λj a w=>∃t s F ρ,(sj (vcT P X.nt X.n0 drawOk L) j t s K).holds/\qj N t=AB r/\Sat X F w ρ s a/\s.ok=true/\X.n0<=s.nx) id k ⟨tu,s,F,ρ,h,by simpa[qj]using A,C,E,G⟩ ?_;rintro j a w ⟨t,s,F,ρ,hu,A,C,E,G⟩;cases j with
    |zero=>exact hu.elim
    |succ j=>
     simp only[sj]at hu;refine wpIn_wide.1 (dy (ro:=AC) hd L t s _ _ r F w ρ a (.inl rfl) hu A C E G ?_);intro e U S H M ρ' O z m d p i;cases e with
     |normal=>exact⟨j,⟨U,S,H,ρ',z,m,d,p,i⟩,wB j⟩
     |exit id=>exact D _ U S H M ρ' O z m d p i
     |ret=>exact D _ U S H M ρ' O z m d p i
   ·rename_i σ τ I e J bodyT x0 wl k;generalize I s=I at h;generalize J s=J at h;obtain⟨hokI,hokJ,hent,hround,hout⟩:=h;have hokI:=FQ hokI;have hokJ:=FQ hokJ;obtain⟨ρ1,hs1⟩:=(sQ hent).sat (St.weak_sat C);simp only[qj]at A;cases hit:iter (λx=>(bodyT x).run N) N x0 with
    |none=>simp[hit,andK]at A
    |some res=>
     rw[hit]at A;refine wp_loop' (σ:=Nat×σ) (λx a w=>∃F ρ,iter (λx=>(bodyT x).run N) x.1 x.2=AB res/\Sat X F w ρ (I x.2) a) (λx=>x.1) (N,x0) ⟨F,ρ1,hit,hs1⟩ ?_;rintro⟨n,x⟩ a w ⟨F,ρ,hi,C⟩;cases n with
     |zero=>simp[iter]at hi
     |succ n=>
      simp only[iter]at hi;cases Z:(bodyT x).run N with
      |none=>simp[Z]at hi
      |some st=>
       rw[Z]at hi;refine wpIn_wide.1 (dy (ro:=AC) hd L (bodyT x) (I x) _ _ st F w ρ a (.inl rfl) (hround x) Z C (hokI x).1 (hokI x).2 ?_);intro e' U S H M ρ' O z m d p i;simp only at z;have hK0:=sR U z m d p i;clear z m d p i;obtain⟨U,H,S,z,m,d,p,i⟩:=hK0;split at z
       ·rename_i x' s'' B;obtain⟨d,p,i⟩:=gZ B d p i;have m:=gY B m;split at z;{rename_i hn;have hn:=Rq hn;subst hn;subst m;obtain⟨ρ2,hs2⟩:=(sQ z).sat d;exact⟨(n,x'),⟨H,ρ2,hi,hs2⟩,wB n⟩};exact z.elim
       ·rename_i y' s'' B;obtain⟨d,p,i⟩:=gZ B d p i;have m:=gY B m;split at z
        ·rename_i hn;simp only[ql,Bool.not_eq_true']at hn;have he:=agS hn.1;subst he;subst m;simp only[Option.some.injEq]at hi;subst hi;obtain⟨ρ2,hs2⟩:=(sQ z).sat d;obtain⟨t3,hK3,hr3⟩:=QY (k y') (hout y') A;have:=D e' t3 (J y') H M ρ2 O hK3 hr3 hs2 (hokJ y').1 (hokJ y').2;cases e' with
         |normal=>simp[gw]at hn
         |exit id=>exact this
         |ret=>exact this
        exact z.elim
       ·rename_i r' s'' B;obtain⟨d,p,i⟩:=gZ B d p i;have m:=gY B m;split at z;{exact z.elim};rename_i hn;subst m;simp only[Option.some.injEq]at hi;subst hi;simp only[andK,Option.some.injEq]at A;subst A;have:=D e' (.ret r') s'' H M ρ' O z (by simp[qj]) d p i;cases e' with
        |normal=>simp[gw]at hn
        |exit id=>exact this
        |ret=>exact this
       exact z.elim
   exact h.elim
 | .scope L,R,t,s,K,Q,r,F,w,ρ,a,g,h,A,C,E,G,D=>by
   have hrn:ro=none:=by
    rcases g with g|g;{exact g};simp[rOk]at g
   subst hrn;refine wpIn_wide.2 ?_;simp only[vcT]at h;refine wp_scope_straight (wpIn_wide.1 (dy (ro:=AC) hd L t s K _ r F w ρ a (.inl rfl) h A C E G ?_));intro e U S H M ρ' O z m d p i;have:=D e U S H M ρ' O z m d p i;cases e<;>exact this
 | .rangeFunc _ _ _ _,_,_,_,_,_,_,_,_,_,_,_,h,_,_,_,_,_=>by simp[vcT,Ob.holds]at h
 | .goto _,_,_,_,_,_,_,_,_,_,_,_,h,_,_,_,_,_=>by simp[vcT,Ob.holds]at h
 | .refuse _,_,_,_,_,_,_,_,_,_,_,_,h,_,_,_,_,_=>by simp[vcT,Ob.holds]at h
variable {P:qn}{b:List Oper->List aP->Bool}{N:Nat}{R:Type}
theorem mA(i:fp P b){X:Cx}(c:Code)(t:T R)(s:St)(K:Ex->T R->St->Ob)(Q:Exit->Act->qm->Prop)(r:R)(F:Cells)(w:qm)(ρ:Env)(a:Act)
 (h:(vcT P X.nt X.n0 b c t s K).holds) (f:t.run N=AB r) (g:Sat X F w ρ s a) (d:s.ok=true) (e:X.n0<=s.nx) (j:Uw N r X K Q):c.wp P Q a w:=
 wpIn_wide.1 (dy (ro:=AC) i c t s K Q r F w ρ a (.inl rfl) h f g d e j)
def fy (P:qn)(g:List (GuardS P))(a:List Oper->List aP->Bool)(fn:Func)(b:Code)(c k:Nat){R:Type}(t:T R)(h:List ac)(m:Mem)(d:R->ac)(f:R->Mem):Ob:=
 if decide (AA h<=fn.ntmps)&&St.ok ⟨fz 0 h,m,[],c⟩then
  vcT P fn.ntmps c a b t ⟨fz 0 h,m,[],c⟩ λe t s=>match e with
   | .exit _=>.no
   |_=>finO t s λt s=>match finT t s with
    |some (r,s)=>retO P g c k fn.results.toList (d r) (f r) s
    |_=>.no
 else .no
variable {C:Mem}
theorem T5{X:Cx}{fn:Func}{a:ac}{s:St}{F':Cells}{f:qm}{ρ':Env}{a':Act}(c:il P X.n0 N fn.results.toList a C s)(D:Sat X F' f ρ' s a'):
 ∃v,(results fn a'.tmps).run P f=.ok v f/\k9 P s.df/\∃B d,Step X.Mine X.F0 X.w0 B f/\cA N X.ρ0 d/\ak B f d a v/\aG B f d X.Mine C:=by
 unfold il at c;split at c;{simp_all};rename_i avs T;simp only at c;generalize Z:fP s.mem avs (et a)=k at c;generalize hτ:idOf X.n0 (ER X.n0 s k.1 (et a) C)=τ at c;split at c
 ·rename_i g;simp only[ql,bne_iff_ne,ne_eq]at g;obtain⟨⟨⟨S,E⟩,R⟩,W⟩:=g;obtain⟨h1,h2,h3⟩:=c;obtain⟨us,Q,hl1,hl2,V⟩:=abP (P:=P) D T;refine⟨_,Q,h3,?_⟩;obtain⟨st1,z⟩:=k8 (m:=s.mem) D.mem D.good (is:=k.2) (λ_ _=>rfl);have n:=AU D.mem D.good (js:=k.2) (rs:=et a) hl1 V jW;rw[Z]at n;let B:=cM F' f ρ' s.mem k.2;let d:Env:=⟨λj=>if N<=j/\j<N+64 then ρ'.blk (τ j)else X.ρ0.blk j,λj=>if N<=j/\j<N+64 then ρ'.vec (τ j)else X.ρ0.vec j⟩;have hlow:∀i,i<X.n0->τ i=i:=λi hi=>by rw[<-hτ];simp[idOf,hi]
  have I:∀i,(i<X.n0\/Own N i)->d.blk i=(ρ'.pull τ).blk i/\d.vec i=(ρ'.pull τ).vec i:=by
   intro i hi;by_cases O:Own N i;{exact⟨qc O,qc O⟩};have hlt:=hi.resolve_right O;have he:=D.env0 i hlt;refine⟨(qb O).trans ?_,(qb O).trans ?_⟩;{show _=ρ'.blk (τ i);simp_all};show _=ρ'.vec (τ i);simp_all
  refine⟨B,d,D.from0.trans st1,λi hi=>⟨qb hi,qb hi⟩,?_,?_⟩
  ·obtain⟨A,u⟩:=mi (F:=B) (w:=f) (ρ:=ρ') h1;have H:∀ (j:Nat) (r:ac) (v:Value),(et a)[j]?=AB r->us[j]?=AB v->ak B f d r v:=by
    intro j r v Y hv;obtain⟨b,p,o⟩:=u j (r.ren τ) (by rw[gt,Y];rfl);have h5:=ak.unren r v (o v (n.2 j b v p hv));exact h5.mono (λi=>i<X.n0\/Own N i) (λ_ _ h=>h) (λ_ _ _=>rfl) I (λi hi=>FJ hi (Tg R Y))
   have hlen2:AA (et a)=AA us:=by grind[fN]
   by_cases U:AA us=1
   ·rw[dif_pos U];have hrl:et a=[a]:=by cases a<;>simp_all [et,oT]
    exact H 0 a _ jW jV
   rw[dif_neg U];have hnt:oT a=true:=by
    grind
   cases a<;>simp[oT]at hnt
   exact .tup (by grind[et]) (λj r v Y hv=>H j r v Y jW)
  have M:∀x∈C,∀y∈C,τ x.1=τ y.1->fT x.2=false->fT y.2=false->x.1=y.1:=λx hx y hy he h1 h2=>Th S hx hy he h1 h2
  have G:∀i r,C.get i=AB r->∃t,(bG s.mem k.2++s.mem).get (τ i)=AB t/\RSub t (r.ren τ):=λi r hi=>k0 h2 (sT (dK hi))
  have q:∀i r b,C.get i=AB r->aE f (ρ'.pull τ) i r b->∃t,(bG s.mem k.2++s.mem).get (τ i)=AB t/\aE f ρ' (τ i) t b:=by
   intro i r b hi K;obtain⟨t,A,u⟩:=G i r hi;refine⟨t,A,(u.rel B f ρ' (τ i) (z.ok _ _ A)).2 b ?_⟩;rw[iK (ρ:=ρ'.pull τ) (ρ':=ρ') ⟨rfl,rfl⟩];omega
  have l:∀i r,C.get i=AB r->∀b,aE f d i r b↔aE f (ρ'.pull τ) i r b:=λi r hi=>h6 (I i (DY E hi).1) (λ_ _=>rfl)
  refine⟨λi r hi=>?_,λi r b hi K=>?_,λi i' r r' b hi L p o=>?_⟩
  ·obtain⟨t,A,u⟩:=G i r hi;have h5:=(u.rel B f ρ' (τ i) (z.ok _ _ A)).1.unren;obtain⟨q3,J⟩:=DY E hi;refine h5.keep (λi=>i<X.n0\/Own N i) (λ_ _ h=>h) (λ_ _ _=>rfl) I q3 (λj hj=>?_) (λb _=>⟨rfl,λ_ h=>h⟩);cases r with
   |box cs=>exact mJ hj J
   |vecX _ _ _ _ _ _ i=>simp[Res.inIds]at J;simp[Res.has];exact λe=>hj (by subst e;exact J)
   |vecU _ _ _ _ _ _ _ _ D=>
    simp only[Res.inIds,qk,Bool.or_eq_true,ql,qf]at J;simp only[Res.has,List.any_eq_false,beq_iff_eq];exact λx hx e=>hj (by subst e;exact J x hx)
   |_=>rfl
  {rw[l i r hi]at K;obtain⟨t,A,u⟩:=q i r b hi K;exact z.mine _ _ _ A u};rw[l i r hi]at p;rw[l i' r' L]at o;obtain⟨t,A,u⟩:=q i r b hi p;obtain⟨r1,q3,J⟩:=q i' r' b L o;exact M _ (dK hi) _ (dK L) (z.disj _ _ _ _ b A q3 u J) (vt p) (vt o)
 simp_all
variable {H k:Nat}
theorem abW{t:T R}{r:R}(B:t.run N=AB r){f:FuncId}{fn:Func}{l:Code}{gs:List (GuardS P)}{args:List ac}{p:R->ac}{I:R->Mem}(U:fp P b)
 (O:P.funcs[f]?=AB fn) (hb:fn.body=AB l) (q:(fn.name== "runtime.NumGoroutine")=false) (h:(fy P gs b fn l H k t args C p I).holds):eD P f k args C (p r) (I r):=by
 refine⟨⟨fn,O,q,jW⟩,λF w ρ Mine vs hm Q j=>?_⟩;unfold fy at h;split at h
 ·rename_i L;simp only[ql,qf]at L;obtain⟨M,K⟩:=L;let X:Cx:=⟨fn.ntmps,H,Mine,F,w,ρ,[]⟩;refine calls_of_wp_defers O hb ?_;have V:=j.1;have D:Sat X F w ρ ⟨fz 0 args,C,[],H⟩ {tmps:=vs++Array.replicate (fn.ntmps-vs.size) undef,defers:=[]}:=by
   refine⟨jX,λt=>?_,hm,.nil,Q,Step.refl Q,λi _=>⟨rfl,rfl⟩⟩;show ak F w ρ (di (fz 0 args) t) _;rw[Da];cases Y:args[t]? with
   |none=>exact .any
   |some d=>
    have hlt:t<vs.size:=jX;refine j.2 t d _ Y ?_;simp_all[Array.getElem?_append_left]
  refine mA U l t _ _ _ r F w ρ _ h B D K (Nat.le_refl _) ?_
  have E:∀ (s:St) (F':Cells) (o:qm) (ρ':Env) (u:Act),il P H k fn.results.toList (p r) (I r) s->Sat X F' o ρ' s u->
   Leaves P fn u.tmps (λe o=>∃v F' ρ',e=.returned v/\Step Mine F w F' o/\cA k ρ ρ'/\ak F' o ρ' (p r) v/\aG F' o ρ' Mine (I r)) u.defers .returning o:=by
   intro s F' o ρ' u m g;obtain⟨v,h1,Z,F2,J,S⟩:=T5 (X:=X) m g;exact N7 h1 ⟨v,F2,J,rfl,S⟩ g.df Z
  intro e G s F' o ρ' u n a g z A;cases e with
  |exit id=>exact n.elim
  |normal=>
   have y:=sR G n a g z A;obtain⟨G,F',s,n,a,g,z,A⟩:=y;split at n;{rename_i W x c;obtain⟨g,_,_⟩:=gZ c g z A;have a:=gY c a;subst a;exact E x F' o ρ' u (sZ n) g};exact n.elim
  |ret=>
   have y:=sR G n a g z A;obtain⟨G,F',s,n,a,g,z,A⟩:=y;split at n;{rename_i W x c;obtain⟨g,_,_⟩:=gZ c g z A;have a:=gY c a;subst a;exact E x F' o ρ' u (sZ n) g};exact n.elim
 exact h.elim
theorem EZ(t:T R){r:R}(e:t.run N=AB r){f:FuncId}{fn:Func}{i:List (GuardS P)}{o:List ac}{a:R->ac}{d:R->Mem}(l:fp P b)
 (j:P.funcs[f]?=AB fn) (n:fn.body.isSome=true) (c:(fn.name== "runtime.NumGoroutine")=false) (h:(fy P i b fn (fn.body.getD .skip) H k t o C a d).holds):eD P f k o C (a r) (d r):=by
 grind[Option.isSome_iff_exists,abW]
end Go.Abs
