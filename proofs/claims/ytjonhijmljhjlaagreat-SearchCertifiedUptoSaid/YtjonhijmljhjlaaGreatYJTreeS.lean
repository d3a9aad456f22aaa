import Derived.Test.YtjonhijmljhjlaaGreatYJTree
import Derived.Scope
open Array renaming replicate->zJ
open Bool renaming and_eq_true->qm
open Go renaming World->qn,Program->qo
open List renaming range_eq_range'->j1,all_eq_true->ql
open Nat renaming zero_add->qE,lt_succ_self->xj
open Go.Abs.T renaming run->qk
namespace Go.Abs
def azac {R:Type}(N:Nat)(r:R)(X:Cx)(K:Ex->T R->St->Ob)(Q:Exit->Act->qn->Prop):Prop:=
 ∀e t s F w ρ a,(K e t s).holds->qk N t=some r->Sat X F w ρ s a->s.ok=true->X.n0<=s.nx->Q e.to a w
theorem Szv {e:Ex}(h:Cz9 e=true):e=.normal:=by cases e<;>simp_all [Cz9]
def az1d:Oper->Bool:=λo=>match o.op with
 | .defer _=>true
 |_=>false
def rOk:Code->Bool
 | .skip| .label _| .exit _| .ret=>true
 | .region _ ops draw=> !draw&&(mzx ops.toList).isNone&&ops.toList.all λo=> !az1d o
 | .seq a b| .cond _ a b=>rOk a&&rOk b
 | .block _ b=>rOk b
 |_=>false
theorem lz5 {ro:Option Nat}{x y:Bool}(h:ro=none\/(x&&y)=true):(ro=none\/x=true)/\(ro=none\/y=true):=by
 rcases h with h|h
 ·exact⟨.inl h,.inl h⟩
 ·rw[qm]at h;exact⟨.inr h.1,.inr h.2⟩
theorem czs {ro:Option Nat}{P:qo}{drawOk:List Oper->List Eff->Bool}(hd:gzd P drawOk){X:Cx}{N:Nat}:∀ (c:Code) {R:Type} (t:T R) (s:St) (K:Ex->T R->St->Ob) (Q:Exit->Act->qn->Prop) (r:R) (F:Cells) (w:qn) (ρ:Env) (a:Act),(ro=none\/rOk c=true)->
 (vcT P X.nt X.n0 drawOk c t s K).holds->t.run N=some r->Sat X F w ρ s a->s.ok=true->X.n0<=s.nx->azac N r X K Q->c.wpIn (rfn ro) 0 P Q a w
 | .skip,R,t,s,K,Q,r,F,w,ρ,a,hro,h,hr,hs,ho,h0,hp=>wpIn_skip (hp .normal t s F w ρ a h hr hs ho h0)
 | .label l,R,t,s,K,Q,r,F,w,ρ,a,hro,h,hr,hs,ho,h0,hp=>wpIn_label (hp .normal t s F w ρ a h hr hs ho h0)
 | .exit id,R,t,s,K,Q,r,F,w,ρ,a,hro,h,hr,hs,ho,h0,hp=>wpIn_exit (hp (.exit id) t s F w ρ a h hr hs ho h0)
 | .ret,R,t,s,K,Q,r,F,w,ρ,a,hro,h,hr,hs,ho,h0,hp=>wpIn_ret (hp .ret t s F w ρ a h hr hs ho h0)
 | .region id ops draw,R,t,s,K,Q,r,F,w,ρ,a,hro,h,hr,hs,ho,h0,hp=>by
   simp only[vcT]at h;have hx:=az93 h hr hs ho h0;clear h hr hs ho h0;obtain⟨t,ρ,s,h,hr,hs,ho,h0⟩:=hx;have fin:∀t' s' F' w' ρ' a',qk N t'=some r->(K .normal t' {s' with nx:=s.nx+64 * ops.toList.length}).holds->s'.lt (s.nx+64 * ops.toList.length)=true->Sat X F' w' ρ' s' a'->Q .normal a' w':=by
    intro t' s' F' w' ρ' a' hr' hK hlt hs';exact hp .normal t' _ F' w' ρ' a' hK hr' ⟨hs'.size,hs'.fr,hs'.mem,hs'.df,hs'.good,hs'.from0,hs'.env0⟩ hlt (by show X.n0<=s.nx+_;omega)
   split at h
   ·rename_i l x hsd;cases draw with
    |true=>simp at hsd
    |false=>
     simp only[Bool.false_eq_true,if_false]at hsd;have hrn:ro=none:=by
      rcases hro with hro|hro
      ·exact hro
      ·simp[rOk,hsd]at hro
     subst hrn;obtain⟨o,cc,hops,h1,h2,h3,h4,h5⟩:=Bz2 hsd;obtain⟨hint,t',hr',h⟩:=Mzt (N:=N) (r:=r) _ _ _ _ _ _ h hr;refine wpIn_region ?_;have hsz:ops.size=l.length+1:=by rw[<-Array.length_toList,hops];simp
     have hlast:ops[l.length]?=some o:=by rw[<-Array.getElem?_toList,hops];simp
     have:=Gzl (Q:=Q) (tail:=[l.length]) l 0 s.nx s [] F w ρ a (.inl rfl) (λj hj=>by rw[hops,qE,List.getElem?_append_left hj]) h ho h0 hs (λs' tr' F' w' ρ' a' hK hlt hs'=>by
      simp only at hK;split at hK
      ·rename_i f c1 c2 hx;have hv:=hx▸Jzx hs' x;rw[wpOpsIn_cons];unfold wpOpIn;simp only[Array.toArray_toList,hlast,Region.wanted,h3,if_true];refine Iz4 ?_;unfold Oper.wp;generalize hev:a'.eval x=v at hv;cases hv with
       |@func _ _ _ v1 v2 q1 q2 q3 q4=>
        have hrun:(execOp a'.eval o).run P w'=.ok (.defer {target:=.fn (.func f) v2,args:=v1}) w':=by
         simp only[execOp,h1,resolve,h4,h5,hev,Deferred.ofValue];simp
        rw[hrun,Oper.upon_defer,h2];simp only[wpOpsIn,Act.put];have hlt2:=az0t hlt x;rw[hx]at hlt2;have hmono:s.nx+64 * l.length<=s.nx+64 * ops.toList.length:=by simp[hsz];omega
        refine hp .normal t' _ F' w' ρ' _ hK hr' ⟨hs'.size,hs'.fr,hs'.mem,.cons ⟨f,c1,c2,v1,v2,rfl,rfl,⟨q1,q2⟩,⟨q3,q4⟩⟩ hs'.df,hs'.good,hs'.from0,hs'.env0⟩ ?_ (by show X.n0<=s.nx+_;omega);have hl3:=St.lt_mono hmono hlt;simp only[St.lt,qm]at hl3;simp only[St.ok,qm,AVal.ltL];exact⟨hl3.1,lt_mono hmono hlt2,hl3.2⟩
      ·exact hK.elim)
     rw[j1,hsz,List.range'_concat,Nat.one_mul,qE];simpa using this
   ·obtain⟨hint,t',hr',h⟩:=Mzt (N:=N) (r:=r) _ _ _ _ _ _ h hr;cases draw with
    |false=>
     have hro2:ro=none\/∀o∈ops.toList,∀c,o.op≠ .defer c:=hro.imp (λh=>h) λhro o ho c hc=>by
      simp only[rOk,qm,ql]at hro;have:=hro.2 o ho;simp[az1d,hc]at this
     have:=Gzl (ro:=ro) (Q:=Q) (tail:=[]) ops.toList 0 s.nx s [] F w ρ a hro2 (by simp) h ho h0 hs (λs' tr' F' w' ρ' a' hK hlt hs'=>by simp at hK;simp only[wpOpsIn];exact fin t' s' F' w' ρ' a' hr' (by simpa using hK) hlt hs');refine wpIn_region ?_;rw[j1];simpa using this
    |true=>
     have hrn:ro=none:=by
      rcases hro with hro|hro
      ·exact hro
      ·simp[rOk]at hro
     subst hrn;refine wpIn_wide.2 ?_;have:=hd X ops.toList hint (λs' _=>(K .normal t' {s' with nx:=s.nx+64 * ops.toList.length}).holds) Q s.nx s F w ρ a id (Iz2 (λs' tr hK=>by
      simp only[Bool.not_true,Bool.false_or]at hK;split at hK
      ·rename_i hd';exact⟨hd',hK⟩
      ·exact hK.elim) _ _ _ _ _ h) ho h0 hs (λs' tr' F' w' ρ' a' hK hlt hs'=>fin t' s' F' w' ρ' a' hr' hK hlt hs')
     simpa using this
 | .seq x y,R,t,s,K,Q,r,F,w,ρ,a,hro,h,hr,hs,ho,h0,hp=>by
   have plain:∀t:T R,(vcT P X.nt X.n0 drawOk x t s (λe t s=>match e with
    | .normal=>vcT P X.nt X.n0 drawOk y t s K
    |e=>K e t s)).holds->t.run N=some r->(Code.seq x y).wpIn (rfn ro) 0 P Q a w:=by
    intro t h hr;refine wpIn_seq (czs hd x t s _ _ r F w ρ a (lz5 hro).1 h hr hs ho h0 ?_);intro e t' s' F' w' ρ' a' hK hr' hs' ho' h0';cases e with
    |normal=>exact czs hd y t' s' K Q r F' w' ρ' a' (lz5 hro).2 hK hr' hs' ho' h0' hp
    |exit id=>exact hp _ t' s' F' w' ρ' a' hK hr' hs' ho' h0'
    |ret=>exact hp _ t' s' F' w' ρ' a' hK hr' hs' ho' h0'
   simp only[vcT]at h;split at h
   ·rename_i τ J body k;obtain⟨hok,h1,h2⟩:=h;have hok:=az2d hok;simp only[qk]at hr;cases hb:body.run N with
    |none=>simp[hb,andC]at hr
    |some st=>
     rw[hb]at hr;refine wpIn_seq (czs hd x body s _ _ st F w ρ a (lz5 hro).1 h1 hb hs ho h0 ?_);intro e t' s' F' w' ρ' a' hK hr' hs' ho' h0';simp only at hK;have hK0:=Pzz t' hK hr' hs' ho' h0';clear hK hr' hs' ho' h0';obtain⟨t',F',s',hK,hr',hs',ho',h0'⟩:=hK0;split at hK
     ·rename_i y' s'' hfin;obtain⟨hs',ho',h0'⟩:=nz5 hfin hs' ho' h0';have hr':=nz4 hfin hr';split at hK
      ·rename_i hn;have hn:=Szv hn;subst hn;subst hr';obtain⟨ρ2,hs2⟩:=(Pzk hK).sat hs';exact czs hd y (k y') (J y') K Q r F' w' ρ2 a' (lz5 hro).2 (h2 y') hr hs2 (hok y').1 (hok y').2 hp
      ·exact hK.elim
     ·rename_i r' s'' hfin;obtain⟨hs',ho',h0'⟩:=nz5 hfin hs' ho' h0';have hr':=nz4 hfin hr';split at hK
      ·exact hK.elim
      ·rename_i hn;subst hr';simp only[andC,Option.some.injEq]at hr;subst hr;have:=hp e (.ret r') s'' F' w' ρ' a' hK (by simp[qk]) hs' ho' h0';cases e with
       |normal=>simp[Cz9]at hn
       |exit id=>exact this
       |ret=>exact this
     ·exact hK.elim
   ·exact plain _ h (by simpa only[qk]using hr)
   ·exact plain t h hr
 | .cond c x y,R,t,s,K,Q,r,F,w,ρ,a,hro,h,hr,hs,ho,h0,hp=>by
   simp only[vcT]at h;have hc:=Jzx hs c;split at h
   ·rename_i he;rw[he]at hc;exact wpIn_cond_true (by generalize a.eval c=v at hc⊢;cases hc;rfl) (czs hd x t s K Q r F w ρ a (lz5 hro).1 h hr hs ho h0 hp)
   ·rename_i he;rw[he]at hc;exact wpIn_cond_false (by generalize a.eval c=v at hc⊢;cases hc;rfl) (czs hd y t s K Q r F w ρ a (lz5 hro).2 h hr hs ho h0 hp)
   ·rename_i he;rw[he]at hc;generalize hv:a.eval c=v at hc;cases hc with
    |anyb=>
     rename_i b;split at h
     ·rename_i t1 t2;obtain⟨he,h1,h2⟩:=h;have he:qk N t1=qk N t2:=he N;simp only[qk]at hr;refine wpIn_cond_split hv (λhb=>?_) (λhb=>?_)
      ·exact czs hd x t1 s K Q r F w ρ a (lz5 hro).1 h1 hr hs ho h0 hp
      ·exact czs hd y t2 s K Q r F w ρ a (lz5 hro).2 h2 (he▸hr) hs ho h0 hp
     ·refine wpIn_cond_split hv (λhb=>?_) (λhb=>?_)
      ·exact czs hd x t s K Q r F w ρ a (lz5 hro).1 h.1 hr hs ho h0 hp
      ·exact czs hd y t s K Q r F w ρ a (lz5 hro).2 h.2 hr hs ho h0 hp
   ·rename_i b he;rw[he]at hc;split at h
    ·rename_i b' t1 t2;obtain⟨h0',h1,h2⟩:=h;have h0':b=b':=h0';subst h0';simp only[qk]at hr;refine wpIn_cond_split hc.pure_inv.bool_inv (λhb=>?_) (λhb=>?_)
     ·subst hb;exact czs hd x t1 s K Q r F w ρ a (lz5 hro).1 (h1 rfl) hr hs ho h0 hp
     ·subst hb;exact czs hd y t2 s K Q r F w ρ a (lz5 hro).2 (h2 rfl) hr hs ho h0 hp
    ·rename_i t1;obtain⟨h0',h1⟩:=h;have h0':b=true:=h0';subst h0';simp only[qk]at hr;exact wpIn_cond_true hc.pure_inv.bool_inv (czs hd x t1 s K Q r F w ρ a (lz5 hro).1 h1 hr hs ho h0 hp)
    ·rename_i t1;obtain⟨h0',h1⟩:=h;have h0':b=false:=h0';subst h0';simp only[qk]at hr;exact wpIn_cond_false hc.pure_inv.bool_inv (czs hd y t1 s K Q r F w ρ a (lz5 hro).2 h1 hr hs ho h0 hp)
    ·exact h.elim
   ·exact h.elim
 | .block id body,R,t,s,K,Q,r,F,w,ρ,a,hro,h,hr,hs,ho,h0,hp=>by
   simp only[vcT]at h;refine wpIn_block (czs hd body t s _ _ r F w ρ a hro h hr hs ho h0 ?_);intro e t' s' F' w' ρ' a' hK hr' hs' ho' h0';cases e with
   |normal=>exact hp .normal t' s' F' w' ρ' a' hK hr' hs' ho' h0'
   |exit j=>
    simp only at hK;simp only[Ex.to,Exit.inBlock];split at hK
    ·rename_i e;rw[qc e];exact hp .normal t' s' F' w' ρ' a' hK hr' hs' ho' h0'
    ·rename_i e;rw[qb e];exact hp (.exit j) t' s' F' w' ρ' a' hK hr' hs' ho' h0'
   |ret=>exact hp .ret t' s' F' w' ρ' a' hK hr' hs' ho' h0'
 | .loop body,R,t,s,K,Q,r,F,w,ρ,a,hro,h,hr,hs,ho,h0,hp=>by
   have hrn:ro=none:=by
    rcases hro with hro|hro
    ·exact hro
    ·simp[rOk]at hro
   subst hrn;refine wpIn_wide.2 ?_;simp only[vcT]at h;split at h
   ·rename_i k tu;refine wp_loop' (σ:=Nat) (λj a w=>∃t s F ρ,(Gzk (vcT P X.nt X.n0 drawOk body) j t s K).holds/\qk N t=some r/\Sat X F w ρ s a/\s.ok=true/\X.n0<=s.nx) id k ⟨tu,s,F,ρ,h,by simpa[qk]using hr,hs,ho,h0⟩ ?_;rintro j a w ⟨t,s,F,ρ,hu,hr,hs,ho,h0⟩;cases j with
    |zero=>exact hu.elim
    |succ j=>
     simp only[Gzk]at hu;refine wpIn_wide.1 (czs (ro:=none) hd body t s _ _ r F w ρ a (.inl rfl) hu hr hs ho h0 ?_);intro e t' s' F' w' ρ' a' hK hr' hs' ho' h0';cases e with
     |normal=>exact⟨j,⟨t',s',F',ρ',hK,hr',hs',ho',h0'⟩,xj j⟩
     |exit id=>exact hp _ t' s' F' w' ρ' a' hK hr' hs' ho' h0'
     |ret=>exact hp _ t' s' F' w' ρ' a' hK hr' hs' ho' h0'
   ·rename_i σ τ I e J bodyT x0 wl k;obtain⟨hokI,hokJ,hent,hround,hout⟩:=h;have hokI:=az2d hokI;have hokJ:=az2d hokJ;obtain⟨ρ1,hs1⟩:=(Pzk hent).sat (St.weak_sat hs);simp only[qk]at hr;cases hit:iter (λx=>(bodyT x).run N) N x0 with
    |none=>simp[hit,andK]at hr
    |some res=>
     rw[hit]at hr;refine wp_loop' (σ:=Nat×σ) (λx a w=>∃F ρ,iter (λx=>(bodyT x).run N) x.1 x.2=some res/\Sat X F w ρ (I x.2) a) (λx=>x.1) (N,x0) ⟨F,ρ1,hit,hs1⟩ ?_;rintro⟨n,x⟩ a w ⟨F,ρ,hi,hs⟩;cases n with
     |zero=>simp[iter]at hi
     |succ n=>
      simp only[iter]at hi;cases hb:(bodyT x).run N with
      |none=>simp[hb]at hi
      |some st=>
       rw[hb]at hi;refine wpIn_wide.1 (czs (ro:=none) hd body (bodyT x) (I x) _ _ st F w ρ a (.inl rfl) (hround x) hb hs (hokI x).1 (hokI x).2 ?_);intro e' t' s' F' w' ρ' a' hK hr' hs' ho' h0';simp only at hK;have hK0:=Pzz t' hK hr' hs' ho' h0';clear hK hr' hs' ho' h0';obtain⟨t',F',s',hK,hr',hs',ho',h0'⟩:=hK0;split at hK
       ·rename_i x' s'' hfin;obtain⟨hs',ho',h0'⟩:=nz5 hfin hs' ho' h0';have hr':=nz4 hfin hr';split at hK
        ·rename_i hn;have hn:=Szv hn;subst hn;subst hr';obtain⟨ρ2,hs2⟩:=(Pzk hK).sat hs';exact⟨(n,x'),⟨F',ρ2,hi,hs2⟩,xj n⟩
        ·exact hK.elim
       ·rename_i y' s'' hfin;obtain⟨hs',ho',h0'⟩:=nz5 hfin hs' ho' h0';have hr':=nz4 hfin hr';split at hK
        ·rename_i hn;simp only[qm,Bool.not_eq_true']at hn;have he:=az87 hn.1;subst he;subst hr';simp only[Option.some.injEq]at hi;subst hi;obtain⟨ρ2,hs2⟩:=(Pzk hK).sat hs';obtain⟨t3,hK3,hr3⟩:=Ozy (k y') (hout y') hr;have:=hp e' t3 (J y') F' w' ρ2 a' hK3 hr3 hs2 (hokJ y').1 (hokJ y').2;cases e' with
         |normal=>simp[Cz9]at hn
         |exit id=>exact this
         |ret=>exact this
        ·exact hK.elim
       ·rename_i r' s'' hfin;obtain⟨hs',ho',h0'⟩:=nz5 hfin hs' ho' h0';have hr':=nz4 hfin hr';split at hK
        ·exact hK.elim
        ·rename_i hn;subst hr';simp only[Option.some.injEq]at hi;subst hi;simp only[andK,Option.some.injEq]at hr;subst hr;have:=hp e' (.ret r') s'' F' w' ρ' a' hK (by simp[qk]) hs' ho' h0';cases e' with
         |normal=>simp[Cz9]at hn
         |exit id=>exact this
         |ret=>exact this
       ·exact hK.elim
   ·exact h.elim
 | .scope body,R,t,s,K,Q,r,F,w,ρ,a,hro,h,hr,hs,ho,h0,hp=>by
   have hrn:ro=none:=by
    rcases hro with hro|hro
    ·exact hro
    ·simp[rOk]at hro
   subst hrn;refine wpIn_wide.2 ?_;simp only[vcT]at h;refine wp_scope_straight (wpIn_wide.1 (czs (ro:=none) hd body t s K _ r F w ρ a (.inl rfl) h hr hs ho h0 ?_));intro e t' s' F' w' ρ' a' hK hr' hs' ho' h0';have:=hp e t' s' F' w' ρ' a' hK hr' hs' ho' h0';cases e<;>exact this
 | .rangeFunc _ _ _ _,_,_,_,_,_,_,_,_,_,_,_,h,_,_,_,_,_=>by simp[vcT,Ob.holds]at h
 | .goto _,_,_,_,_,_,_,_,_,_,_,_,h,_,_,_,_,_=>by simp[vcT,Ob.holds]at h
 | .refuse _,_,_,_,_,_,_,_,_,_,_,_,h,_,_,_,_,_=>by simp[vcT,Ob.holds]at h
theorem vzf {P:qo}{drawOk:List Oper->List Eff->Bool}(hd:gzd P drawOk){X:Cx}{N:Nat}(c:Code){R:Type}(t:T R)(s:St)(K:Ex->T R->St->Ob)(Q:Exit->Act->qn->Prop)(r:R)(F:Cells)(w:qn)(ρ:Env)(a:Act)
 (h:(vcT P X.nt X.n0 drawOk c t s K).holds) (hr:t.run N=some r) (hs:Sat X F w ρ s a) (ho:s.ok=true) (h0:X.n0<=s.nx) (hp:azac N r X K Q):c.wp P Q a w:=
 wpIn_wide.1 (czs (ro:=none) hd c t s K Q r F w ρ a (.inl rfl) h hr hs ho h0 hp)
def Bz7 (P:qo)(gs:List (GuardS P))(drawOk:List Oper->List Eff->Bool)(fn:Func)(body:Code)(n0 k:Nat){R:Type}(t:T R)(args:List AVal)(m:Mem)(res:R->AVal)(m':R->Mem):Ob:=
 if decide (args.length<=fn.ntmps)&&St.ok ⟨xzn 0 args,m,[],n0⟩then
  vcT P fn.ntmps n0 drawOk body t ⟨xzn 0 args,m,[],n0⟩ λe t s=>match e with
   | .exit _=>.no
   |_=>finO t s λt s=>match finT t s with
    |some (r,s)=>retO P gs n0 k fn.results.toList (res r) (m' r) s
    |_=>.no
 else .no
theorem az6z {P:qo}{X:Cx}{fn:Func}{k:Nat}{res:AVal}{m':Mem}{s:St}{F':Cells}{w':qn}{ρ':Env}{a':Act}(hret:Rz7 P X.n0 k fn.results.toList res m' s)(hs:Sat X F' w' ρ' s a'):
 ∃v,(results fn a'.tmps).run P w'=.ok v w'/\vzg P s.df/\∃F2 ρ2,Step X.Mine X.F0 X.w0 F2 w'/\dzr k X.ρ0 ρ2/\ARel F2 w' ρ2 res v/\MemOk F2 w' ρ2 X.Mine m':=by
 unfold Rz7 at hret;split at hret
 ·exact hret.elim
 ·rename_i avs havs;simp only at hret;generalize hhb:izm s.mem avs (jz4 res)=hb at hret;generalize hτ:idOf X.n0 (Qzf X.n0 s hb.1 (jz4 res) m')=τ at hret;split at hret
  ·rename_i hcond;simp only[qm,bne_iff_ne,ne_eq]at hcond;obtain⟨⟨⟨hinj,hmin⟩,hrin⟩,hcount⟩:=hcond;obtain⟨h1,h2,h3⟩:=hret;obtain⟨us,hrun,hl1,hl2,hrel⟩:=Wzm (P:=P) hs havs;refine⟨_,hrun,h3,?_⟩;obtain⟨st1,hm1⟩:=nzj (m:=s.mem) hs.mem hs.good (is:=hb.2) (λ_ _=>rfl);have hrel2:=zz7 hs.mem hs.good (js:=hb.2) (rs:=jz4 res) hl1 hrel (by rw[hhb];exact λ_ h=>h);rw[hhb]at hrel2;let F2:=ez0 F' w' ρ' s.mem hb.2;let ρ2:Env:=⟨λj=>if k<=j/\j<k+64 then ρ'.blk (τ j)else X.ρ0.blk j,λj=>if k<=j/\j<k+64 then ρ'.vec (τ j)else X.ρ0.vec j⟩;have hlow:∀i,i<X.n0->τ i=i:=λi hi=>by rw[<-hτ];simp[idOf,hi]
   have hag:∀i,(i<X.n0\/Own k i)->ρ2.blk i=(ρ'.pull τ).blk i/\ρ2.vec i=(ρ'.pull τ).vec i:=by
    intro i hi;by_cases ho:Own k i
    ·exact⟨qc ho,qc ho⟩
    ·have hlt:=hi.resolve_right ho;have he:=hs.env0 i hlt;refine⟨(qb ho).trans ?_,(qb ho).trans ?_⟩
     ·show _=ρ'.blk (τ i);rw[hlow i hlt];exact he.1.symm
     ·show _=ρ'.vec (τ i);rw[hlow i hlt];exact he.2.symm
   refine⟨F2,ρ2,hs.from0.trans st1,λi hi=>⟨qb hi,qb hi⟩,?_,?_⟩
   ·obtain⟨q1,q2⟩:=qz3 (F:=F2) (w:=w') (ρ:=ρ') h1;have each:∀ (j:Nat) (r:AVal) (v:Value),(jz4 res)[j]?=some r->us[j]?=some v->ARel F2 w' ρ2 r v:=by
     intro j r v hr hv;obtain⟨b,hb1,hb2⟩:=q2 j (r.ren τ) (by rw[lzi,hr];rfl);have h5:=ARel.unren r v (hb2 v (hrel2.2 j b v hb1 hv));exact h5.mono (λi=>i<X.n0\/Own k i) (λ_ _ h=>h) (λ_ _ _=>rfl) hag (λi hi=>az19 hi (az18 hrin hr))
    have hlen2:(jz4 res).length=us.length:=by rw[fz2]at q1;omega
    by_cases h1r:us.length=1
    ·rw[dif_pos h1r];have hnt:Szw res=false:=by
      have:(fn.results.toList.length==1)=true:=by simp;simp at hl2;omega
      rw[this]at hcount;cases hh:Szw res<;>simp_all
     have hrl:jz4 res=[res]:=by cases res<;>simp_all [jz4,Szw]
     exact each 0 res _ (by rw[hrl];rfl) (by simp[h1r])
    ·rw[dif_neg h1r];have hnt:Szw res=true:=by
      have:(fn.results.toList.length==1)=false:=by simp;simp at hl2;omega
      rw[this]at hcount;cases hh:Szw res<;>simp_all
     cases res<;>simp[Szw]at hnt
     exact .tup (by simpa[jz4]using hlen2) (λj r v hr hv=>each j r v hr (by simpa using hv))
   ·have hinj':∀x∈m',∀y∈m',τ x.1=τ y.1->xzu x.2=false->xzu y.2=false->x.1=y.1:=λx hx y hy he h1 h2=>az1a hinj hx hy he h1 h2
    have hget:∀i r,m'.get i=some r->∃r0,(bzp s.mem hb.2++s.mem).get (τ i)=some r0/\RSub r0 (r.ren τ):=λi r hi=>rzu h2 (Qzj (hz3 hi))
    have hblk:∀i r b,m'.get i=some r->Owns w' (ρ'.pull τ) i r b->∃r0,(bzp s.mem hb.2++s.mem).get (τ i)=some r0/\Owns w' ρ' (τ i) r0 b:=by
     intro i r b hi hb';obtain⟨r0,q1,q2⟩:=hget i r hi;refine⟨r0,q1,(q2.rel F2 w' ρ' (τ i) (hm1.ok _ _ q1)).2 b ?_⟩;rw[pz9 (ρ:=ρ'.pull τ) (ρ':=ρ') ⟨rfl,rfl⟩];exact hb'
    have hbeq:∀i r,m'.get i=some r->∀b,Owns w' ρ2 i r b↔Owns w' (ρ'.pull τ) i r b:=λi r hi=>vzh (hag i (Lzi hmin hi).1) (λ_ _=>rfl)
    refine⟨λi r hi=>?_,λi r b hi hb'=>?_,λi i' r r' b hi hi' hb1 hb2=>?_⟩
    ·obtain⟨r0,q1,q2⟩:=hget i r hi;have h5:=(q2.rel F2 w' ρ' (τ i) (hm1.ok _ _ q1)).1.unren;obtain⟨q3,q4⟩:=Lzi hmin hi;refine h5.keep (λi=>i<X.n0\/Own k i) (λ_ _ h=>h) (λ_ _ _=>rfl) hag q3 (λj hj=>?_) (λb _=>⟨rfl,λ_ h=>h⟩);cases r with
     |box cs=>exact Hz4 hj q4
     |vecX _ _ _ _ _ _ i=>simp[Res.inIds]at q4;simp[Res.has];exact λe=>hj (by subst e;exact q4)
     |vecU _ _ _ _ _ _ _ _ hs=>
      simp only[Res.inIds,ql,Bool.or_eq_true,qm,qf]at q4;simp only[Res.has,List.any_eq_false,qj];exact λx hx e=>hj (by subst e;exact q4 x hx)
     |_=>rfl
    ·rw[hbeq i r hi]at hb';obtain⟨r0,q1,q2⟩:=hblk i r b hi hb';exact hm1.mine _ _ _ q1 q2
    ·rw[hbeq i r hi]at hb1;rw[hbeq i' r' hi']at hb2;obtain⟨r0,q1,q2⟩:=hblk i r b hi hb1;obtain⟨r1,q3,q4⟩:=hblk i' r' b hi' hb2;exact hinj' _ (hz3 hi) _ (hz3 hi') (hm1.disj _ _ _ _ b q1 q3 q2 q4) (rzv hb1) (rzv hb2)
  ·exact hret.elim
theorem Wzz {P:qo}{N:Nat}{R:Type}{t:T R}{r:R}(hrun:t.run N=some r){f:FuncId}{fn:Func}{body:Code}{drawOk:List Oper->List Eff->Bool}{n0 k:Nat}{gs:List (GuardS P)}{args:List AVal}{m:Mem}{res:R->AVal}{m':R->Mem}(hd:gzd P drawOk)
 (hf:P.funcs[f]?=some fn) (hb:fn.body=some body) (hname:(fn.name== "runtime.NumGoroutine")=false) (h:(Bz7 P gs drawOk fn body n0 k t args m res m').holds):Spec P f k args m (res r) (m' r):=by
 refine⟨⟨fn,hf,hname,by rw[hb];rfl⟩,λF w ρ Mine vs hm hg hargs=>?_⟩;unfold Bz7 at h;split at h
 ·rename_i hc;simp only[qm,qf]at hc;obtain⟨hlen,hok⟩:=hc;let X:Cx:=⟨fn.ntmps,n0,Mine,F,w,ρ,[]⟩;refine calls_of_wp_defers hf hb ?_;have hsz:=hargs.1;have hsat:Sat X F w ρ ⟨xzn 0 args,m,[],n0⟩ {tmps:=vs++zJ (fn.ntmps-vs.size) undef,defers:=[]}:=by
   refine⟨by show(vs++zJ _ _).size=fn.ntmps;simp;omega,λt=>?_,hm,.nil,hg,Step.refl hg,λi _=>⟨rfl,rfl⟩⟩;show ARel F w ρ (qze (xzn 0 args) t) _;rw[Gzq];simp only[Nat.zero_le,if_true,Nat.sub_zero];cases ht:args[t]? with
   |none=>exact .any
   |some b=>
    have hlt:t<vs.size:=by have:=(List.getElem?_eq_some_iff.1 ht).1;omega
    refine hargs.2 t b _ ht ?_;rw[Array.getD_eq_getD_getElem?,Array.getElem?_append_left hlt];simp[hlt]
  refine vzf hd body t _ _ _ r F w ρ _ h hrun hsat hok (Nat.le_refl _) ?_
  have fin:∀ (s:St) (F':Cells) (w':qn) (ρ':Env) (a':Act),Rz7 P n0 k fn.results.toList (res r) (m' r) s->Sat X F' w' ρ' s a'->
   Leaves P fn a'.tmps (λe w'=>∃v F' ρ',e=.returned v/\Step Mine F w F' w'/\dzr k ρ ρ'/\ARel F' w' ρ' (res r) v/\MemOk F' w' ρ' Mine (m' r)) a'.defers .returning w':=by
   intro s F' w' ρ' a' hret hs;obtain⟨v,h1,h2,F2,ρ2,h3⟩:=az6z (X:=X) hret hs;exact Czb h1 ⟨v,F2,ρ2,rfl,h3⟩ hs.df h2
  intro e t' s F' w' ρ' a' hK hr' hs ho h0;cases e with
  |exit id=>exact hK.elim
  |normal=>
   simp only at hK;have hK0:=Pzz t' hK hr' hs ho h0;clear hK hr' hs ho h0;obtain⟨t',F',s,hK,hr',hs,ho,h0⟩:=hK0;split at hK
   ·rename_i r' s'' hfin;obtain⟨hs,_,_⟩:=nz5 hfin hs ho h0;have hr':=nz4 hfin hr';subst hr';exact fin s'' F' w' ρ' a' (Rz6 hK) hs
   ·exact hK.elim
  |ret=>
   simp only at hK;have hK0:=Pzz t' hK hr' hs ho h0;clear hK hr' hs ho h0;obtain⟨t',F',s,hK,hr',hs,ho,h0⟩:=hK0;split at hK
   ·rename_i r' s'' hfin;obtain⟨hs,_,_⟩:=nz5 hfin hs ho h0;have hr':=nz4 hfin hr';subst hr';exact fin s'' F' w' ρ' a' (Rz6 hK) hs
   ·exact hK.elim
 ·exact h.elim
theorem Rzh {P:qo}{N:Nat}{R:Type}(t:T R){r:R}(hrun:t.run N=some r){f:FuncId}{fn:Func}{drawOk:List Oper->List Eff->Bool}{n0 k:Nat}{gs:List (GuardS P)}{args:List AVal}{m:Mem}{res:R->AVal}{m':R->Mem}(hd:gzd P drawOk)
 (hf:P.funcs[f]?=some fn) (hb:fn.body.isSome=true) (hname:(fn.name== "runtime.NumGoroutine")=false) (h:(Bz7 P gs drawOk fn (fn.body.getD .skip) n0 k t args m res m').holds):Spec P f k args m (res r) (m' r):=by
 obtain⟨b,hb'⟩:=Option.isSome_iff_exists.1 hb;rw[hb']at h;exact Wzz hrun hd hf hb' hname h
end Go.Abs
