import Derived.Test.YtnfbbidmdkfilaaGreatDoorZDTree
import Derived.Scope
open Bool renaming and_eq_true->qm
open Go renaming World->qn,Program->qo
open List renaming range_eq_range'->z6,all_eq_true->ql
open Nat renaming zero_add->xM,lt_succ_self->w8
open Go.Abs.T renaming run->qj
namespace Go.Abs
def azny {R:Type}(N:Nat)(r:R)(X:Cx)(K:Ex->T R->St->Ob)(Q:Exit->Act->qn->Prop):Prop:=
 ∀e t s F w ρ a,(K e t s).holds->qj N t=some r->Sat X F w ρ s a->s.ok=true->X.n0<=s.nx->Q e.to a w
theorem az1j {e:Ex}(h:Hz3 e=true):e=.normal:=by grind[Hz3]
def azc0:Oper->Bool:=λo=>match o.op with
 | .defer _=>true
 |_=>false
def rOk:Code->Bool
 | .skip| .label _| .exit _| .ret=>true
 | .region _ ops c=> !c&&(nzq ops.toList).isNone&&ops.toList.all λo=> !azc0 o
 | .seq a b| .cond _ a b=>rOk a&&rOk b
 | .block _ b=>rOk b
 |_=>false
theorem lz8 {ro:Option Nat}{x y:Bool}(h:ro=none\/(x&&y)=true):(ro=none\/x=true)/\(ro=none\/y=true):=by
 grind
theorem czg {ro:Option Nat}{P:qo}{drawOk:List Oper->List Eff->Bool}(hd:gzb P drawOk){X:Cx}{N:Nat}:∀ (c:Code) {R:Type} (t:T R) (s:St) (K:Ex->T R->St->Ob) (Q:Exit->Act->qn->Prop) (r:R) (F:Cells) (w:qn) (ρ:Env) (a:Act),(ro=none\/rOk c=true)->
 (vcT P X.nt X.n0 drawOk c t s K).holds->t.run N=some r->Sat X F w ρ s a->s.ok=true->X.n0<=s.nx->azny N r X K Q->c.wpIn (rfn ro) 0 P Q a w
 | .skip,R,t,s,K,Q,r,F,w,ρ,a,hro,h,hr,hs,ho,h0,hp=>wpIn_skip (hp .normal t s F w ρ a h hr hs ho h0)
 | .label l,R,t,s,K,Q,r,F,w,ρ,a,hro,h,hr,hs,ho,h0,hp=>wpIn_label (hp .normal t s F w ρ a h hr hs ho h0)
 | .exit id,R,t,s,K,Q,r,F,w,ρ,a,hro,h,hr,hs,ho,h0,hp=>wpIn_exit (hp (.exit id) t s F w ρ a h hr hs ho h0)
 | .ret,R,t,s,K,Q,r,F,w,ρ,a,hro,h,hr,hs,ho,h0,hp=>wpIn_ret (hp .ret t s F w ρ a h hr hs ho h0)
 | .region id ops draw,R,t,s,K,Q,r,F,w,ρ,a,hro,h,hr,hs,ho,h0,hp=>by
   simp only[vcT]at h;have hx:=azm3 h hr hs ho h0;clear h hr hs ho h0;obtain⟨t,ρ,s,h,hr,hs,ho,h0⟩:=hx;have fin:∀t' s' F' w' ρ' a',qj N t'=some r->(K .normal t' {s' with nx:=s.nx+64 * ops.toList.length}).holds->s'.lt (s.nx+64 * ops.toList.length)=true->Sat X F' w' ρ' s' a'->Q .normal a' w':=by
    intro t' s' F' w' ρ' a' hr' hK hlt hs';exact hp .normal t' _ F' w' ρ' a' hK hr' ⟨hs'.size,hs'.fr,hs'.mem,hs'.df,hs'.good,hs'.from0,hs'.env0⟩ hlt (by show X.n0<=s.nx+_;omega)
   split at h
   ·rename_i l x hsd;cases draw with
    |true=>simp at hsd
    |false=>
     simp only[Bool.false_eq_true,if_false]at hsd;have hrn:ro=none:=by
      rcases hro with hro|hro
      ·exact hro
      ·simp[rOk,hsd]at hro
     subst hrn;obtain⟨o,cc,hops,h1,h2,h3,h4,h5⟩:=Fzj hsd;obtain⟨hint,t',hr',h⟩:=Uz3 (N:=N) (r:=r) _ _ _ _ _ _ h hr;refine wpIn_region ?_;have hsz:ops.size=l.length+1:=by rw[<-Array.length_toList,hops];simp
     have hlast:ops[l.length]?=some o:=by rw[<-Array.getElem?_toList,hops];simp
     have:=Mz4 (Q:=Q) (tail:=[l.length]) l 0 s.nx s [] F w ρ a (.inl rfl) (λj hj=>by rw[hops,xM,List.getElem?_append_left hj]) h ho h0 hs (λs' tr' F' w' ρ' a' hK hlt hs'=>by
      simp only at hK;split at hK
      ·rename_i f c1 c2 hx;have hv:=hx▸Jzw hs' x;rw[wpOpsIn_cons];unfold wpOpIn;simp only[Array.toArray_toList,hlast,Region.wanted,h3,if_true];refine Nzv ?_;unfold Oper.wp;generalize hev:a'.eval x=v at hv;cases hv with
       |@func _ _ _ v1 v2 q1 q2 q3 q4=>
        have hrun:(execOp a'.eval o).run P w'=.ok (.defer {target:=.fn (.func f) v2,args:=v1}) w':=by
         simp only[execOp,h1,resolve,h4,h5,hev,Deferred.ofValue];simp
        rw[hrun,Oper.upon_defer,h2];simp only[wpOpsIn,Act.put];have hlt2:=azbd hlt x;rw[hx]at hlt2;have hmono:s.nx+64 * l.length<=s.nx+64 * ops.toList.length:=by simp[hsz];omega
        refine hp .normal t' _ F' w' ρ' _ hK hr' ⟨hs'.size,hs'.fr,hs'.mem,.cons ⟨f,c1,c2,v1,v2,rfl,rfl,⟨q1,q2⟩,⟨q3,q4⟩⟩ hs'.df,hs'.good,hs'.from0,hs'.env0⟩ ?_ (by show X.n0<=s.nx+_;omega);have hl3:=St.lt_mono hmono hlt;simp only[St.lt,qm]at hl3;simp only[St.ok,qm,AVal.ltL];exact⟨hl3.1,lt_mono hmono hlt2,hl3.2⟩
      ·exact hK.elim)
     rw[z6,hsz,List.range'_concat,Nat.one_mul,xM];simpa using this
   ·obtain⟨hint,t',hr',h⟩:=Uz3 (N:=N) (r:=r) _ _ _ _ _ _ h hr;cases draw with
    |false=>
     have hro2:ro=none\/∀o∈ops.toList,∀c,o.op≠ .defer c:=hro.imp (λh=>h) λhro o ho c hc=>by
      simp only[rOk,qm,ql]at hro;have:=hro.2 o ho;simp[azc0,hc]at this
     have:=Mz4 (ro:=ro) (Q:=Q) (tail:=[]) ops.toList 0 s.nx s [] F w ρ a hro2 jq h ho h0 hs (λs' tr' F' w' ρ' a' hK hlt hs'=>by simp at hK;simp only[wpOpsIn];exact fin t' s' F' w' ρ' a' hr' (by simpa using hK) hlt hs');refine wpIn_region ?_;rw[z6];simpa using this
    |true=>
     have hrn:ro=none:=by
      rcases hro with hro|hro
      ·exact hro
      ·simp[rOk]at hro
     subst hrn;refine wpIn_wide.2 ?_;have:=hd X ops.toList hint (λs' _=>(K .normal t' {s' with nx:=s.nx+64 * ops.toList.length}).holds) Q s.nx s F w ρ a id (Nzt (λs' tr hK=>by
      simp only[Bool.not_true,Bool.false_or]at hK;split at hK
      ·rename_i hd';exact⟨hd',hK⟩
      ·exact hK.elim) _ _ _ _ _ h) ho h0 hs (λs' tr' F' w' ρ' a' hK hlt hs'=>fin t' s' F' w' ρ' a' hr' hK hlt hs')
     simpa using this
 | .seq x y,R,t,s,K,Q,r,F,w,ρ,a,hro,h,hr,hs,ho,h0,hp=>by
   have plain:∀t:T R,(vcT P X.nt X.n0 drawOk x t s (λe t s=>match e with
    | .normal=>vcT P X.nt X.n0 drawOk y t s K
    |e=>K e t s)).holds->t.run N=some r->(Code.seq x y).wpIn (rfn ro) 0 P Q a w:=by
    intro t h hr;refine wpIn_seq (czg hd x t s _ _ r F w ρ a (lz8 hro).1 h hr hs ho h0 ?_);intro e t' s' F' w' ρ' a' hK hr' hs' ho' h0';cases e with
    |normal=>exact czg hd y t' s' K Q r F' w' ρ' a' (lz8 hro).2 hK hr' hs' ho' h0' hp
    |exit id=>exact hp _ t' s' F' w' ρ' a' hK hr' hs' ho' h0'
    |ret=>exact hp _ t' s' F' w' ρ' a' hK hr' hs' ho' h0'
   simp only[vcT]at h;split at h
   ·rename_i τ J body k;generalize J s=J at h;obtain⟨hok,h1,h2⟩:=h;have hok:=azd3 hok;simp only[qj]at hr;cases hb:body.run N with
    |none=>simp[hb,andC]at hr
    |some st=>
     rw[hb]at hr;refine wpIn_seq (czg hd x body s _ _ st F w ρ a (lz8 hro).1 h1 hb hs ho h0 ?_);intro e t' s' F' w' ρ' a' hK hr' hs' ho' h0';simp only at hK;have hK0:=Yz2 t' hK hr' hs' ho' h0';clear hK hr' hs' ho' h0';obtain⟨t',F',s',hK,hr',hs',ho',h0'⟩:=hK0;split at hK
     ·rename_i y' s'' hfin;obtain⟨hs',ho',h0'⟩:=nzw hfin hs' ho' h0';have hr':=nzv hfin hr';split at hK
      ·rename_i hn;have hn:=az1j hn;subst hn;subst hr';obtain⟨ρ2,hs2⟩:=(Xzk hK).sat hs';exact czg hd y (k y') (J y') K Q r F' w' ρ2 a' (lz8 hro).2 (h2 y') hr hs2 (hok y').1 (hok y').2 hp
      ·exact hK.elim
     ·rename_i r' s'' hfin;obtain⟨hs',ho',h0'⟩:=nzw hfin hs' ho' h0';have hr':=nzv hfin hr';split at hK
      ·exact hK.elim
      ·rename_i hn;subst hr';simp only[andC,Option.some.injEq]at hr;subst hr;have:=hp e (.ret r') s'' F' w' ρ' a' hK (by simp[qj]) hs' ho' h0';cases e with
       |normal=>simp[Hz3]at hn
       |exit id=>exact this
       |ret=>exact this
     ·exact hK.elim
   ·exact plain _ h (by simpa only[qj]using hr)
   ·exact plain t h hr
 | .cond c x y,R,t,s,K,Q,r,F,w,ρ,a,hro,h,hr,hs,ho,h0,hp=>by
   simp only[vcT]at h;have hc:=Jzw hs c;split at h
   ·rename_i he;rw[he]at hc;exact wpIn_cond_true (by generalize a.eval c=v at hc⊢;cases hc;rfl) (czg hd x t s K Q r F w ρ a (lz8 hro).1 h hr hs ho h0 hp)
   ·rename_i he;rw[he]at hc;exact wpIn_cond_false (by generalize a.eval c=v at hc⊢;cases hc;rfl) (czg hd y t s K Q r F w ρ a (lz8 hro).2 h hr hs ho h0 hp)
   ·rename_i he;rw[he]at hc;generalize hv:a.eval c=v at hc;cases hc with
    |anyb=>
     rename_i b;split at h
     ·rename_i t1 t2;obtain⟨he,h1,h2⟩:=h;have he:qj N t1=qj N t2:=he N;simp only[qj]at hr;refine wpIn_cond_split hv (λhb=>?_) (λhb=>?_)
      ·exact czg hd x t1 s K Q r F w ρ a (lz8 hro).1 h1 hr hs ho h0 hp
      ·exact czg hd y t2 s K Q r F w ρ a (lz8 hro).2 h2 (he▸hr) hs ho h0 hp
     ·refine wpIn_cond_split hv (λhb=>?_) (λhb=>?_)
      ·exact czg hd x t s K Q r F w ρ a (lz8 hro).1 h.1 hr hs ho h0 hp
      ·exact czg hd y t s K Q r F w ρ a (lz8 hro).2 h.2 hr hs ho h0 hp
   ·rename_i b he;rw[he]at hc;split at h
    ·rename_i b' t1 t2;obtain⟨h0',h1,h2⟩:=h;have h0':b=b':=h0';subst h0';simp only[qj]at hr;refine wpIn_cond_split hc.pure_inv.bool_inv (λhb=>?_) (λhb=>?_)
     ·subst hb;exact czg hd x t1 s K Q r F w ρ a (lz8 hro).1 (h1 rfl) hr hs ho h0 hp
     ·subst hb;exact czg hd y t2 s K Q r F w ρ a (lz8 hro).2 (h2 rfl) hr hs ho h0 hp
    ·rename_i t1;obtain⟨h0',h1⟩:=h;have h0':b=true:=h0';subst h0';simp only[qj]at hr;exact wpIn_cond_true hc.pure_inv.bool_inv (czg hd x t1 s K Q r F w ρ a (lz8 hro).1 h1 hr hs ho h0 hp)
    ·rename_i t1;obtain⟨h0',h1⟩:=h;have h0':b=false:=h0';subst h0';simp only[qj]at hr;exact wpIn_cond_false hc.pure_inv.bool_inv (czg hd y t1 s K Q r F w ρ a (lz8 hro).2 h1 hr hs ho h0 hp)
    ·exact h.elim
   ·exact h.elim
 | .block id body,R,t,s,K,Q,r,F,w,ρ,a,hro,h,hr,hs,ho,h0,hp=>by
   simp only[vcT]at h;refine wpIn_block (czg hd body t s _ _ r F w ρ a hro h hr hs ho h0 ?_);intro e t' s' F' w' ρ' a' hK hr' hs' ho' h0';cases e with
   |normal=>exact hp .normal t' s' F' w' ρ' a' hK hr' hs' ho' h0'
   |exit j=>
    simp only at hK;simp only[Ex.to,Exit.inBlock];split at hK
    ·rename_i e;rw[qc e];exact hp .normal t' s' F' w' ρ' a' hK hr' hs' ho' h0'
    ·rename_i e;rw[qb e];exact hp (.exit j) t' s' F' w' ρ' a' hK hr' hs' ho' h0'
   |ret=>exact hp .ret t' s' F' w' ρ' a' hK hr' hs' ho' h0'
 | .loop body,R,t,s,K,Q,r,F,w,ρ,a,hro,h,hr,hs,ho,h0,hp=>by
   have hrn:ro=none:=by
    rcases hro with hro|hro
    ·exact hro
    ·simp[rOk]at hro
   subst hrn;refine wpIn_wide.2 ?_;simp only[vcT]at h;split at h
   ·rename_i k tu;refine wp_loop' (σ:=Nat) (λj a w=>∃t s F ρ,(Mz3 (vcT P X.nt X.n0 drawOk body) j t s K).holds/\qj N t=some r/\Sat X F w ρ s a/\s.ok=true/\X.n0<=s.nx) id k ⟨tu,s,F,ρ,h,by simpa[qj]using hr,hs,ho,h0⟩ ?_;rintro j a w ⟨t,s,F,ρ,hu,hr,hs,ho,h0⟩;cases j with
    |zero=>exact hu.elim
    |succ j=>
     simp only[Mz3]at hu;refine wpIn_wide.1 (czg (ro:=none) hd body t s _ _ r F w ρ a (.inl rfl) hu hr hs ho h0 ?_);intro e t' s' F' w' ρ' a' hK hr' hs' ho' h0';cases e with
     |normal=>exact⟨j,⟨t',s',F',ρ',hK,hr',hs',ho',h0'⟩,w8 j⟩
     |exit id=>exact hp _ t' s' F' w' ρ' a' hK hr' hs' ho' h0'
     |ret=>exact hp _ t' s' F' w' ρ' a' hK hr' hs' ho' h0'
   ·rename_i σ τ I e J bodyT x0 wl k;generalize I s=I at h;generalize J s=J at h;obtain⟨hokI,hokJ,hent,hround,hout⟩:=h;have hokI:=azd3 hokI;have hokJ:=azd3 hokJ;obtain⟨ρ1,hs1⟩:=(Xzk hent).sat (St.weak_sat hs);simp only[qj]at hr;cases hit:iter (λx=>(bodyT x).run N) N x0 with
    |none=>simp[hit,andK]at hr
    |some res=>
     rw[hit]at hr;refine wp_loop' (σ:=Nat×σ) (λx a w=>∃F ρ,iter (λx=>(bodyT x).run N) x.1 x.2=some res/\Sat X F w ρ (I x.2) a) (λx=>x.1) (N,x0) ⟨F,ρ1,hit,hs1⟩ ?_;rintro⟨n,x⟩ a w ⟨F,ρ,hi,hs⟩;cases n with
     |zero=>simp[iter]at hi
     |succ n=>
      simp only[iter]at hi;cases hb:(bodyT x).run N with
      |none=>simp[hb]at hi
      |some st=>
       rw[hb]at hi;refine wpIn_wide.1 (czg (ro:=none) hd body (bodyT x) (I x) _ _ st F w ρ a (.inl rfl) (hround x) hb hs (hokI x).1 (hokI x).2 ?_);intro e' t' s' F' w' ρ' a' hK hr' hs' ho' h0';simp only at hK;have hK0:=Yz2 t' hK hr' hs' ho' h0';clear hK hr' hs' ho' h0';obtain⟨t',F',s',hK,hr',hs',ho',h0'⟩:=hK0;split at hK
       ·rename_i x' s'' hfin;obtain⟨hs',ho',h0'⟩:=nzw hfin hs' ho' h0';have hr':=nzv hfin hr';split at hK
        ·rename_i hn;have hn:=az1j hn;subst hn;subst hr';obtain⟨ρ2,hs2⟩:=(Xzk hK).sat hs';exact⟨(n,x'),⟨F',ρ2,hi,hs2⟩,w8 n⟩
        ·exact hK.elim
       ·rename_i y' s'' hfin;obtain⟨hs',ho',h0'⟩:=nzw hfin hs' ho' h0';have hr':=nzv hfin hr';split at hK
        ·rename_i hn;simp only[qm,Bool.not_eq_true']at hn;have he:=azlb hn.1;subst he;subst hr';simp only[Option.some.injEq]at hi;subst hi;obtain⟨ρ2,hs2⟩:=(Xzk hK).sat hs';obtain⟨t3,hK3,hr3⟩:=Wzy (k y') (hout y') hr;have:=hp e' t3 (J y') F' w' ρ2 a' hK3 hr3 hs2 (hokJ y').1 (hokJ y').2;cases e' with
         |normal=>simp[Hz3]at hn
         |exit id=>exact this
         |ret=>exact this
        ·exact hK.elim
       ·rename_i r' s'' hfin;obtain⟨hs',ho',h0'⟩:=nzw hfin hs' ho' h0';have hr':=nzv hfin hr';split at hK
        ·exact hK.elim
        ·rename_i hn;subst hr';simp only[Option.some.injEq]at hi;subst hi;simp only[andK,Option.some.injEq]at hr;subst hr;have:=hp e' (.ret r') s'' F' w' ρ' a' hK (by simp[qj]) hs' ho' h0';cases e' with
         |normal=>simp[Hz3]at hn
         |exit id=>exact this
         |ret=>exact this
       ·exact hK.elim
   ·exact h.elim
 | .scope body,R,t,s,K,Q,r,F,w,ρ,a,hro,h,hr,hs,ho,h0,hp=>by
   have hrn:ro=none:=by
    rcases hro with hro|hro
    ·exact hro
    ·simp[rOk]at hro
   subst hrn;refine wpIn_wide.2 ?_;simp only[vcT]at h;refine wp_scope_straight (wpIn_wide.1 (czg (ro:=none) hd body t s K _ r F w ρ a (.inl rfl) h hr hs ho h0 ?_));intro e t' s' F' w' ρ' a' hK hr' hs' ho' h0';have:=hp e t' s' F' w' ρ' a' hK hr' hs' ho' h0';cases e<;>exact this
 | .rangeFunc _ _ _ _,_,_,_,_,_,_,_,_,_,_,_,h,_,_,_,_,_=>by simp[vcT,Ob.holds]at h
 | .goto _,_,_,_,_,_,_,_,_,_,_,_,h,_,_,_,_,_=>by simp[vcT,Ob.holds]at h
 | .refuse _,_,_,_,_,_,_,_,_,_,_,_,h,_,_,_,_,_=>by simp[vcT,Ob.holds]at h
theorem yzl {P:qo}{b:List Oper->List Eff->Bool}(i:gzb P b){X:Cx}{N:Nat}(c:Code){R:Type}(t:T R)(s:St)(K:Ex->T R->St->Ob)(Q:Exit->Act->qn->Prop)(r:R)(F:Cells)(w:qn)(ρ:Env)(a:Act)
 (h:(vcT P X.nt X.n0 b c t s K).holds) (f:t.run N=some r) (g:Sat X F w ρ s a) (d:s.ok=true) (e:X.n0<=s.nx) (j:azny N r X K Q):c.wp P Q a w:=
 wpIn_wide.1 (czg (ro:=none) i c t s K Q r F w ρ a (.inl rfl) h f g d e j)
def xzn (P:qo)(g:List (GuardS P))(a:List Oper->List Eff->Bool)(fn:Func)(b:Code)(c k:Nat){R:Type}(t:T R)(args:List AVal)(m:Mem)(d:R->AVal)(f:R->Mem):Ob:=
 if decide (args.length<=fn.ntmps)&&St.ok ⟨Bzu 0 args,m,[],c⟩then
  vcT P fn.ntmps c a b t ⟨Bzu 0 args,m,[],c⟩ λe t s=>match e with
   | .exit _=>.no
   |_=>finO t s λt s=>match finT t s with
    |some (r,s)=>retO P g c k fn.results.toList (d r) (f r) s
    |_=>.no
 else .no
theorem azjh {P:qo}{X:Cx}{fn:Func}{k:Nat}{a:AVal}{C:Mem}{s:St}{F':Cells}{f:qn}{ρ':Env}{a':Act}(c:Zze P X.n0 k fn.results.toList a C s)(D:Sat X F' f ρ' s a'):
 ∃v,(results fn a'.tmps).run P f=.ok v f/\yzn P s.df/\∃B d,Step X.Mine X.F0 X.w0 B f/\dz4 k X.ρ0 d/\ARel B f d a v/\MemOk B f d X.Mine C:=by
 unfold Zze at c;split at c
 ·simp_all
 ·rename_i avs T;simp only at c;generalize Z:jzk s.mem avs (izz a)=N at c;generalize hτ:idOf X.n0 (Yzn X.n0 s N.1 (izz a) C)=τ at c;split at c
  ·rename_i g;simp only[qm,bne_iff_ne,ne_eq]at g;obtain⟨⟨⟨S,E⟩,R⟩,W⟩:=g;obtain⟨h1,h2,h3⟩:=c;obtain⟨us,Q,hl1,hl2,V⟩:=az5q (P:=P) D T;refine⟨_,Q,h3,?_⟩;obtain⟨st1,z⟩:=qzx (m:=s.mem) D.mem D.good (is:=N.2) (λ_ _=>rfl);have n:=Dzm D.mem D.good (js:=N.2) (rs:=izz a) hl1 V jr;rw[Z]at n;let B:=dzv F' f ρ' s.mem N.2;let d:Env:=⟨λj=>if k<=j/\j<k+64 then ρ'.blk (τ j)else X.ρ0.blk j,λj=>if k<=j/\j<k+64 then ρ'.vec (τ j)else X.ρ0.vec j⟩;have hlow:∀i,i<X.n0->τ i=i:=λi hi=>by rw[<-hτ];simp[idOf,hi]
   have I:∀i,(i<X.n0\/Own k i)->d.blk i=(ρ'.pull τ).blk i/\d.vec i=(ρ'.pull τ).vec i:=by
    intro i hi;by_cases O:Own k i
    ·exact⟨qc O,qc O⟩
    ·have hlt:=hi.resolve_right O;have he:=D.env0 i hlt;refine⟨(qb O).trans ?_,(qb O).trans ?_⟩
     ·show _=ρ'.blk (τ i);simp_all
     ·show _=ρ'.vec (τ i);simp_all
   refine⟨B,d,D.from0.trans st1,λi hi=>⟨qb hi,qb hi⟩,?_,?_⟩
   ·obtain⟨A,u⟩:=rzo (F:=B) (w:=f) (ρ:=ρ') h1;have H:∀ (j:Nat) (r:AVal) (v:Value),(izz a)[j]?=some r->us[j]?=some v->ARel B f d r v:=by
     intro j r v Y hv;obtain⟨b,p,o⟩:=u j (r.ren τ) (by rw[lzm,Y];rfl);have h5:=ARel.unren r v (o v (n.2 j b v p hv));exact h5.mono (λi=>i<X.n0\/Own k i) (λ_ _ h=>h) (λ_ _ _=>rfl) I (λi hi=>azbx hi (azbw R Y))
    have hlen2:(izz a).length=us.length:=by grind[ezt]
    by_cases U:us.length=1
    ·rw[dif_pos U];have hrl:izz a=[a]:=by cases a<;>simp_all [izz,azc2]
     exact H 0 a _ jr jq
    ·rw[dif_neg U];have hnt:azc2 a=true:=by
      grind
     cases a<;>simp[azc2]at hnt
     exact .tup (by grind[izz]) (λj r v Y hv=>H j r v Y jr)
   ·have M:∀x∈C,∀y∈C,τ x.1=τ y.1->Dzp x.2=false->Dzp y.2=false->x.1=y.1:=λx hx y hy he h1 h2=>azby S hx hy he h1 h2
    have G:∀i r,C.get i=some r->∃t,(bzk s.mem N.2++s.mem).get (τ i)=some t/\RSub t (r.ren τ):=λi r hi=>uzl h2 (Yzr (gzz hi))
    have q:∀i r b,C.get i=some r->Owns f (ρ'.pull τ) i r b->∃t,(bzk s.mem N.2++s.mem).get (τ i)=some t/\Owns f ρ' (τ i) t b:=by
     intro i r b hi K;obtain⟨t,A,u⟩:=G i r hi;refine⟨t,A,(u.rel B f ρ' (τ i) (z.ok _ _ A)).2 b ?_⟩;rw[qzf (ρ:=ρ'.pull τ) (ρ':=ρ') ⟨rfl,rfl⟩];omega
    have l:∀i r,C.get i=some r->∀b,Owns f d i r b↔Owns f (ρ'.pull τ) i r b:=λi r hi=>yzo (I i (Sz8 E hi).1) (λ_ _=>rfl)
    refine⟨λi r hi=>?_,λi r b hi K=>?_,λi i' r r' b hi L p o=>?_⟩
    ·obtain⟨t,A,u⟩:=G i r hi;have h5:=(u.rel B f ρ' (τ i) (z.ok _ _ A)).1.unren;obtain⟨q3,J⟩:=Sz8 E hi;refine h5.keep (λi=>i<X.n0\/Own k i) (λ_ _ h=>h) (λ_ _ _=>rfl) I q3 (λj hj=>?_) (λb _=>⟨rfl,λ_ h=>h⟩);cases r with
     |box cs=>exact Mzp hj J
     |vecX _ _ _ _ _ _ i=>simp[Res.inIds]at J;simp[Res.has];exact λe=>hj (by subst e;exact J)
     |vecU _ _ _ _ _ _ _ _ D=>
      simp only[Res.inIds,ql,Bool.or_eq_true,qm,qf]at J;simp only[Res.has,List.any_eq_false,beq_iff_eq];exact λx hx e=>hj (by subst e;exact J x hx)
     |_=>rfl
    ·rw[l i r hi]at K;obtain⟨t,A,u⟩:=q i r b hi K;exact z.mine _ _ _ A u
    ·rw[l i r hi]at p;rw[l i' r' L]at o;obtain⟨t,A,u⟩:=q i r b hi p;obtain⟨r1,q3,J⟩:=q i' r' b L o;exact M _ (gzz hi) _ (gzz L) (z.disj _ _ _ _ b A q3 u J) (uzm p) (uzm o)
  simp_all
theorem az62 {P:qo}{N:Nat}{R:Type}{t:T R}{r:R}(B:t.run N=some r){f:FuncId}{fn:Func}{l:Code}{d:List Oper->List Eff->Bool}{H k:Nat}{gs:List (GuardS P)}{args:List AVal}{m:Mem}{p:R->AVal}{I:R->Mem}(U:gzb P d)
 (O:P.funcs[f]?=some fn) (hb:fn.body=some l) (q:(fn.name== "runtime.NumGoroutine")=false) (h:(xzn P gs d fn l H k t args m p I).holds):Spec P f k args m (p r) (I r):=by
 refine⟨⟨fn,O,q,jr⟩,λF w ρ Mine vs hm Q j=>?_⟩;unfold xzn at h;split at h
 ·rename_i L;simp only[qm,qf]at L;obtain⟨M,K⟩:=L;let X:Cx:=⟨fn.ntmps,H,Mine,F,w,ρ,[]⟩;refine calls_of_wp_defers O hb ?_;have V:=j.1;have D:Sat X F w ρ ⟨Bzu 0 args,m,[],H⟩ {tmps:=vs++Array.replicate (fn.ntmps-vs.size) undef,defers:=[]}:=by
   refine⟨jt,λt=>?_,hm,.nil,Q,Step.refl Q,λi _=>⟨rfl,rfl⟩⟩;show ARel F w ρ (rzz (Bzu 0 args) t) _;rw[Mza];cases Y:args[t]? with
   |none=>exact .any
   |some b=>
    have hlt:t<vs.size:=jt
    refine j.2 t b _ Y ?_
    simp_all[Array.getElem?_append_left]
  refine yzl U l t _ _ _ r F w ρ _ h B D K (Nat.le_refl _) ?_
  have E:∀ (s:St) (F':Cells) (o:qn) (ρ':Env) (u:Act),Zze P H k fn.results.toList (p r) (I r) s->Sat X F' o ρ' s u->
   Leaves P fn u.tmps (λe o=>∃v F' ρ',e=.returned v/\Step Mine F w F' o/\dz4 k ρ ρ'/\ARel F' o ρ' (p r) v/\MemOk F' o ρ' Mine (I r)) u.defers .returning o:=by
   intro s F' o ρ' u C g;obtain⟨v,h1,Z,F2,J,S⟩:=azjh (X:=X) C g;exact Hz4 h1 ⟨v,F2,J,rfl,S⟩ g.df Z
  intro e G s F' o ρ' u n a g z A;cases e with
  |exit id=>exact n.elim
  |normal=>
   have y:=Yz2 G n a g z A;obtain⟨G,F',s,n,a,g,z,A⟩:=y;split at n
   ·rename_i W x c;obtain⟨g,_,_⟩:=nzw c g z A;have a:=nzv c a;subst a;exact E x F' o ρ' u (Zzd n) g
   ·exact n.elim
  |ret=>
   have y:=Yz2 G n a g z A;obtain⟨G,F',s,n,a,g,z,A⟩:=y;split at n
   ·rename_i W x c;obtain⟨g,_,_⟩:=nzw c g z A;have a:=nzv c a;subst a;exact E x F' o ρ' u (Zzd n) g
   ·exact n.elim
 ·exact h.elim
theorem Zzx {P:qo}{N:Nat}{R:Type}(t:T R){r:R}(e:t.run N=some r){f:FuncId}{fn:Func}{a:List Oper->List Eff->Bool}{g k:Nat}{i:List (GuardS P)}{args:List AVal}{m:Mem}{b:R->AVal}{d:R->Mem}(l:gzb P a)
 (j:P.funcs[f]?=some fn) (n:fn.body.isSome=true) (c:(fn.name== "runtime.NumGoroutine")=false) (h:(xzn P i a fn (fn.body.getD .skip) g k t args m b d).holds):Spec P f k args m (b r) (d r):=by
 grind[Option.isSome_iff_exists,az62]
end Go.Abs
