/-
  TreeS (a part of a claim: our own text).
-/
import Derived.Test.YtkbjjlfpbebiaaaGreatDoorYKTree
import Derived.Scope
namespace Go.Abs
def Uzk {R:Type}(N:Nat)(r:R)(X:Cx)(K:Ex->T R->St->Ob)(Q:Exit->Act->World->Prop):Prop:=
 ∀e t s F w ρ a,(K e t s).holds->T.run N t=some r->Sat X F w ρ s a->s.ok=true->X.n0≤s.nx->Q e.to a w
theorem Jz5 {e:Ex}(h:sz6 e=true):e=.normal:=by cases e<;>simp_all [sz6]
def Ozg:Oper->Bool:=fun o=>match o.op with
 | .defer _=>true
 |_=>false
def rOk:Code->Bool
 | .skip| .label _| .exit _| .ret=>true
 | .region _ ops draw=> !draw&&(jz4 ops.toList).isNone&&ops.toList.all fun o=> !Ozg o
 | .seq a b| .cond _ a b=>rOk a&&rOk b
 | .block _ b=>rOk b
 |_=>false
theorem hzy {ro:Option Nat}{x y:Bool}(h:ro=none\/(x&&y)=true):(ro=none\/x=true)/\(ro=none\/y=true):=by
 rcases h with h|h
 ·exact⟨.inl h,.inl h⟩
 ·rw[Bool.and_eq_true]at h;exact⟨.inr h.1,.inr h.2⟩
theorem cz9 {ro:Option Nat}{P:Program}{drawOk:List Oper->List Eff->Bool}(hd:ezp P drawOk){X:Cx}{N:Nat}:∀ (c:Code) {R:Type} (t:T R) (s:St) (K:Ex->T R->St->Ob) (Q:Exit->Act->World->Prop) (r:R) (F:Cells) (w:World) (ρ:Env) (a:Act),(ro=none\/rOk c=true)->
 (vcT P X.nt X.n0 drawOk c t s K).holds->t.run N=some r->Sat X F w ρ s a->s.ok=true->X.n0≤s.nx->Uzk N r X K Q->c.wpIn (rfn ro) 0 P Q a w
 | .skip,R,t,s,K,Q,r,F,w,ρ,a,hro,h,hr,hs,ho,h0,hp=>wpIn_skip (hp .normal t s F w ρ a h hr hs ho h0)
 | .label l,R,t,s,K,Q,r,F,w,ρ,a,hro,h,hr,hs,ho,h0,hp=>wpIn_label (hp .normal t s F w ρ a h hr hs ho h0)
 | .exit id,R,t,s,K,Q,r,F,w,ρ,a,hro,h,hr,hs,ho,h0,hp=>wpIn_exit (hp (.exit id) t s F w ρ a h hr hs ho h0)
 | .ret,R,t,s,K,Q,r,F,w,ρ,a,hro,h,hr,hs,ho,h0,hp=>wpIn_ret (hp .ret t s F w ρ a h hr hs ho h0)
 | .region id ops draw,R,t,s,K,Q,r,F,w,ρ,a,hro,h,hr,hs,ho,h0,hp=>by
   simp only[vcT]at h
   have hx:=Tzy h hr hs ho h0
   clear h hr hs ho h0
   obtain⟨t,ρ,s,h,hr,hs,ho,h0⟩:=hx
   have fin:∀t' s' F' w' ρ' a',T.run N t'=some r->(K .normal t' {s' with nx:=s.nx+64 * ops.toList.length}).holds->s'.lt (s.nx+64 * ops.toList.length)=true->Sat X F' w' ρ' s' a'->Q .normal a' w':=by
    intro t' s' F' w' ρ' a' hr' hK hlt hs'
    exact hp .normal t' _ F' w' ρ' a' hK hr' ⟨hs'.size,hs'.fr,hs'.mem,hs'.df,hs'.good,hs'.from0,hs'.env0⟩ hlt (by show X.n0≤s.nx+_;omega)
   split at h
   ·rename_i l x hsd
    cases draw with
    |true=>simp at hsd
    |false=>
     simp only[Bool.false_eq_true,if_false]at hsd
     have hrn:ro=none:=by
      rcases hro with hro|hro
      ·exact hro
      ·simp[rOk,hsd]at hro
     subst hrn
     obtain⟨o,cc,hops,h1,h2,h3,h4,h5⟩:=qzs hsd
     obtain⟨hint,t',hr',h⟩:=Dzc (N:=N) (r:=r) _ _ _ _ _ _ h hr
     refine wpIn_region ?_
     have hsz:ops.size=l.length+1:=by rw[←Array.length_toList,hops];simp
     have hlast:ops[l.length]?=some o:=by rw[←Array.getElem?_toList,hops];simp
     have:=vzw (Q:=Q) (tail:=[l.length]) l 0 s.nx s [] F w ρ a (.inl rfl) (fun j hj=>by rw[hops,Nat.zero_add,List.getElem?_append_left hj]) h ho h0 hs (fun s' tr' F' w' ρ' a' hK hlt hs'=>by
      simp only at hK
      split at hK
      ·rename_i f c1 c2 hx
       have hv:=hx▸tzu hs' x
       rw[wpOpsIn_cons]
       unfold wpOpIn
       simp only[Array.toArray_toList,hlast,Region.wanted,h3,if_true]
       refine xzl ?_
       unfold Oper.wp
       generalize hev:a'.eval x=v at hv
       cases hv with
       |@func _ _ _ v1 v2 q1 q2 q3 q4=>
        have hrun:(execOp a'.eval o).run P w'=.ok (.defer {target:=.fn (.func f) v2,args:=v1}) w':=by
         simp only[execOp,h1,resolve,h4,h5,hev,Deferred.ofValue]
         simp
        rw[hrun,Oper.upon_defer,h2]
        simp only[wpOpsIn,Act.put]
        have hlt2:=Oz1 hlt x
        rw[hx]at hlt2
        have hmono:s.nx+64 * l.length≤s.nx+64 * ops.toList.length:=by simp[hsz];omega
        refine hp .normal t' _ F' w' ρ' _ hK hr' ⟨hs'.size,hs'.fr,hs'.mem,.cons ⟨f,c1,c2,v1,v2,rfl,rfl,⟨q1,q2⟩,⟨q3,q4⟩⟩ hs'.df,hs'.good,hs'.from0,hs'.env0⟩ ?_ (by show X.n0≤s.nx+_;omega)
        have hl3:=St.lt_mono hmono hlt
        simp only[St.lt,Bool.and_eq_true]at hl3
        simp only[St.ok,Bool.and_eq_true,AVal.ltL]
        exact⟨hl3.1,lt_mono hmono hlt2,hl3.2⟩
      ·exact hK.elim)
     rw[List.range_eq_range',hsz,List.range'_concat,Nat.one_mul,Nat.zero_add]
     simpa using this
   ·obtain⟨hint,t',hr',h⟩:=Dzc (N:=N) (r:=r) _ _ _ _ _ _ h hr
    cases draw with
    |false=>
     have hro2:ro=none\/∀o∈ops.toList,∀c,o.op≠ .defer c:=hro.imp (fun h=>h) fun hro o ho c hc=>by
      simp only[rOk,Bool.and_eq_true,List.all_eq_true]at hro
      have:=hro.2 o ho
      simp[Ozg,hc]at this
     have:=vzw (ro:=ro) (Q:=Q) (tail:=[]) ops.toList 0 s.nx s [] F w ρ a hro2 (by simp) h ho h0 hs (fun s' tr' F' w' ρ' a' hK hlt hs'=>by simp at hK;simp only[wpOpsIn];exact fin t' s' F' w' ρ' a' hr' (by simpa using hK) hlt hs')
     refine wpIn_region ?_
     rw[List.range_eq_range']
     simpa using this
    |true=>
     have hrn:ro=none:=by
      rcases hro with hro|hro
      ·exact hro
      ·simp[rOk]at hro
     subst hrn
     refine wpIn_wide.2 ?_
     have:=hd X ops.toList hint (fun s' _=>(K .normal t' {s' with nx:=s.nx+64 * ops.toList.length}).holds) Q s.nx s F w ρ a id (xzj (fun s' tr hK=>by
      simp only[Bool.not_true,Bool.false_or]at hK
      split at hK
      ·rename_i hd';exact⟨hd',hK⟩
      ·exact hK.elim) _ _ _ _ _ h) ho h0 hs (fun s' tr' F' w' ρ' a' hK hlt hs'=>fin t' s' F' w' ρ' a' hr' hK hlt hs')
     simpa using this
 | .seq x y,R,t,s,K,Q,r,F,w,ρ,a,hro,h,hr,hs,ho,h0,hp=>by
   have plain:∀t:T R,(vcT P X.nt X.n0 drawOk x t s (fun e t s=>match e with
    | .normal=>vcT P X.nt X.n0 drawOk y t s K
    |e=>K e t s)).holds->t.run N=some r->(Code.seq x y).wpIn (rfn ro) 0 P Q a w:=by
    intro t h hr
    refine wpIn_seq (cz9 hd x t s _ _ r F w ρ a (hzy hro).1 h hr hs ho h0 ?_)
    intro e t' s' F' w' ρ' a' hK hr' hs' ho' h0'
    cases e with
    |normal=>exact cz9 hd y t' s' K Q r F' w' ρ' a' (hzy hro).2 hK hr' hs' ho' h0' hp
    |exit id=>exact hp _ t' s' F' w' ρ' a' hK hr' hs' ho' h0'
    |ret=>exact hp _ t' s' F' w' ρ' a' hK hr' hs' ho' h0'
   simp only[vcT]at h
   split at h
   ·rename_i τ J body k
    obtain⟨hok,h1,h2⟩:=h
    have hok:=Pz4 hok
    simp only[T.run]at hr
    cases hb:body.run N with
    |none=>simp[hb,andC]at hr
    |some st=>
     rw[hb]at hr
     refine wpIn_seq (cz9 hd x body s _ _ st F w ρ a (hzy hro).1 h1 hb hs ho h0 ?_)
     intro e t' s' F' w' ρ' a' hK hr' hs' ho' h0'
     simp only at hK
     have hK0:=Gzr t' hK hr' hs' ho' h0'
     clear hK hr' hs' ho' h0'
     obtain⟨t',F',s',hK,hr',hs',ho',h0'⟩:=hK0
     split at hK
     ·rename_i y' s'' hfin
      obtain⟨hs',ho',h0'⟩:=jz6 hfin hs' ho' h0'
      have hr':=jz5 hfin hr'
      split at hK
      ·rename_i hn
       have hn:=Jz5 hn;subst hn
       subst hr'
       obtain⟨ρ2,hs2⟩:=(Gzb hK).sat hs'
       exact cz9 hd y (k y') (J y') K Q r F' w' ρ2 a' (hzy hro).2 (h2 y') hr hs2 (hok y').1 (hok y').2 hp
      ·exact hK.elim
     ·rename_i r' s'' hfin
      obtain⟨hs',ho',h0'⟩:=jz6 hfin hs' ho' h0'
      have hr':=jz5 hfin hr'
      split at hK
      ·exact hK.elim
      ·rename_i hn
       subst hr'
       simp only[andC,Option.some.injEq]at hr
       subst hr
       have:=hp e (.ret r') s'' F' w' ρ' a' hK (by simp[T.run]) hs' ho' h0'
       cases e with
       |normal=>simp[sz6]at hn
       |exit id=>exact this
       |ret=>exact this
     ·exact hK.elim
   ·exact plain _ h (by simpa only[T.run]using hr)
   ·exact plain t h hr
 | .cond c x y,R,t,s,K,Q,r,F,w,ρ,a,hro,h,hr,hs,ho,h0,hp=>by
   simp only[vcT]at h
   have hc:=tzu hs c
   split at h
   ·rename_i he
    rw[he]at hc
    exact wpIn_cond_true (by generalize a.eval c=v at hc⊢;cases hc;rfl) (cz9 hd x t s K Q r F w ρ a (hzy hro).1 h hr hs ho h0 hp)
   ·rename_i he
    rw[he]at hc
    exact wpIn_cond_false (by generalize a.eval c=v at hc⊢;cases hc;rfl) (cz9 hd y t s K Q r F w ρ a (hzy hro).2 h hr hs ho h0 hp)
   ·rename_i he
    rw[he]at hc
    generalize hv:a.eval c=v at hc
    cases hc with
    |anyb=>
     rename_i b
     split at h
     ·rename_i t1 t2
      obtain⟨he,h1,h2⟩:=h
      have he:T.run N t1=T.run N t2:=he N
      simp only[T.run]at hr
      refine wpIn_cond_split hv (fun hb=>?_) (fun hb=>?_)
      ·exact cz9 hd x t1 s K Q r F w ρ a (hzy hro).1 h1 hr hs ho h0 hp
      ·exact cz9 hd y t2 s K Q r F w ρ a (hzy hro).2 h2 (he▸hr) hs ho h0 hp
     ·refine wpIn_cond_split hv (fun hb=>?_) (fun hb=>?_)
      ·exact cz9 hd x t s K Q r F w ρ a (hzy hro).1 h.1 hr hs ho h0 hp
      ·exact cz9 hd y t s K Q r F w ρ a (hzy hro).2 h.2 hr hs ho h0 hp
   ·rename_i b he
    rw[he]at hc
    split at h
    ·rename_i b' t1 t2
     obtain⟨h0',h1,h2⟩:=h
     have h0':b=b':=h0'
     subst h0'
     simp only[T.run]at hr
     refine wpIn_cond_split hc.pure_inv.bool_inv (fun hb=>?_) (fun hb=>?_)
     ·subst hb;exact cz9 hd x t1 s K Q r F w ρ a (hzy hro).1 (h1 rfl) hr hs ho h0 hp
     ·subst hb;exact cz9 hd y t2 s K Q r F w ρ a (hzy hro).2 (h2 rfl) hr hs ho h0 hp
    ·rename_i t1
     obtain⟨h0',h1⟩:=h
     have h0':b=true:=h0'
     subst h0'
     simp only[T.run]at hr
     exact wpIn_cond_true hc.pure_inv.bool_inv (cz9 hd x t1 s K Q r F w ρ a (hzy hro).1 h1 hr hs ho h0 hp)
    ·rename_i t1
     obtain⟨h0',h1⟩:=h
     have h0':b=false:=h0'
     subst h0'
     simp only[T.run]at hr
     exact wpIn_cond_false hc.pure_inv.bool_inv (cz9 hd y t1 s K Q r F w ρ a (hzy hro).2 h1 hr hs ho h0 hp)
    ·exact h.elim
   ·exact h.elim
 | .block id body,R,t,s,K,Q,r,F,w,ρ,a,hro,h,hr,hs,ho,h0,hp=>by
   simp only[vcT]at h
   refine wpIn_block (cz9 hd body t s _ _ r F w ρ a hro h hr hs ho h0 ?_)
   intro e t' s' F' w' ρ' a' hK hr' hs' ho' h0'
   cases e with
   |normal=>exact hp .normal t' s' F' w' ρ' a' hK hr' hs' ho' h0'
   |exit j=>
    simp only at hK
    simp only[Ex.to,Exit.inBlock]
    split at hK
    ·rename_i e;rw[if_pos e];exact hp .normal t' s' F' w' ρ' a' hK hr' hs' ho' h0'
    ·rename_i e;rw[if_neg e];exact hp (.exit j) t' s' F' w' ρ' a' hK hr' hs' ho' h0'
   |ret=>exact hp .ret t' s' F' w' ρ' a' hK hr' hs' ho' h0'
 | .loop body,R,t,s,K,Q,r,F,w,ρ,a,hro,h,hr,hs,ho,h0,hp=>by
   have hrn:ro=none:=by
    rcases hro with hro|hro
    ·exact hro
    ·simp[rOk]at hro
   subst hrn
   refine wpIn_wide.2 ?_
   simp only[vcT]at h
   split at h
   ·rename_i k tu
    refine wp_loop' (σ:=Nat) (fun j a w=>∃t s F ρ,(vzv (vcT P X.nt X.n0 drawOk body) j t s K).holds/\T.run N t=some r/\Sat X F w ρ s a/\s.ok=true/\X.n0≤s.nx) id k ⟨tu,s,F,ρ,h,by simpa[T.run]using hr,hs,ho,h0⟩ ?_
    rintro j a w ⟨t,s,F,ρ,hu,hr,hs,ho,h0⟩
    cases j with
    |zero=>exact hu.elim
    |succ j=>
     simp only[vzv]at hu
     refine wpIn_wide.1 (cz9 (ro:=none) hd body t s _ _ r F w ρ a (.inl rfl) hu hr hs ho h0 ?_)
     intro e t' s' F' w' ρ' a' hK hr' hs' ho' h0'
     cases e with
     |normal=>exact⟨j,⟨t',s',F',ρ',hK,hr',hs',ho',h0'⟩,Nat.lt_succ_self j⟩
     |exit id=>exact hp _ t' s' F' w' ρ' a' hK hr' hs' ho' h0'
     |ret=>exact hp _ t' s' F' w' ρ' a' hK hr' hs' ho' h0'
   ·rename_i σ τ I e J bodyT x0 wl k
    obtain⟨hokI,hokJ,hent,hround,hout⟩:=h
    have hokI:=Pz4 hokI
    have hokJ:=Pz4 hokJ
    obtain⟨ρ1,hs1⟩:=(Gzb hent).sat (St.weak_sat hs)
    simp only[T.run]at hr
    cases hit:iter (fun x=>(bodyT x).run N) N x0 with
    |none=>simp[hit,andK]at hr
    |some res=>
     rw[hit]at hr
     refine wp_loop' (σ:=Nat×σ) (fun x a w=>∃F ρ,iter (fun x=>(bodyT x).run N) x.1 x.2=some res/\Sat X F w ρ (I x.2) a) (fun x=>x.1) (N,x0) ⟨F,ρ1,hit,hs1⟩ ?_
     rintro⟨n,x⟩ a w ⟨F,ρ,hi,hs⟩
     cases n with
     |zero=>simp[iter]at hi
     |succ n=>
      simp only[iter]at hi
      cases hb:(bodyT x).run N with
      |none=>simp[hb]at hi
      |some st=>
       rw[hb]at hi
       refine wpIn_wide.1 (cz9 (ro:=none) hd body (bodyT x) (I x) _ _ st F w ρ a (.inl rfl) (hround x) hb hs (hokI x).1 (hokI x).2 ?_)
       intro e' t' s' F' w' ρ' a' hK hr' hs' ho' h0'
       simp only at hK
       have hK0:=Gzr t' hK hr' hs' ho' h0'
       clear hK hr' hs' ho' h0'
       obtain⟨t',F',s',hK,hr',hs',ho',h0'⟩:=hK0
       split at hK
       ·rename_i x' s'' hfin
        obtain⟨hs',ho',h0'⟩:=jz6 hfin hs' ho' h0'
        have hr':=jz5 hfin hr'
        split at hK
        ·rename_i hn
         have hn:=Jz5 hn;subst hn
         subst hr'
         obtain⟨ρ2,hs2⟩:=(Gzb hK).sat hs'
         exact⟨(n,x'),⟨F',ρ2,hi,hs2⟩,Nat.lt_succ_self n⟩
        ·exact hK.elim
       ·rename_i y' s'' hfin
        obtain⟨hs',ho',h0'⟩:=jz6 hfin hs' ho' h0'
        have hr':=jz5 hfin hr'
        split at hK
        ·rename_i hn
         simp only[Bool.and_eq_true,Bool.not_eq_true']at hn
         have he:=Tzh hn.1;subst he
         subst hr'
         simp only[Option.some.injEq]at hi
         subst hi
         obtain⟨ρ2,hs2⟩:=(Gzb hK).sat hs'
         obtain⟨t3,hK3,hr3⟩:=Fzx (k y') (hout y') hr
         have:=hp e' t3 (J y') F' w' ρ2 a' hK3 hr3 hs2 (hokJ y').1 (hokJ y').2
         cases e' with
         |normal=>simp[sz6]at hn
         |exit id=>exact this
         |ret=>exact this
        ·exact hK.elim
       ·rename_i r' s'' hfin
        obtain⟨hs',ho',h0'⟩:=jz6 hfin hs' ho' h0'
        have hr':=jz5 hfin hr'
        split at hK
        ·exact hK.elim
        ·rename_i hn
         subst hr'
         simp only[Option.some.injEq]at hi
         subst hi
         simp only[andK,Option.some.injEq]at hr
         subst hr
         have:=hp e' (.ret r') s'' F' w' ρ' a' hK (by simp[T.run]) hs' ho' h0'
         cases e' with
         |normal=>simp[sz6]at hn
         |exit id=>exact this
         |ret=>exact this
       ·exact hK.elim
   ·exact h.elim
 | .scope body,R,t,s,K,Q,r,F,w,ρ,a,hro,h,hr,hs,ho,h0,hp=>by
   have hrn:ro=none:=by
    rcases hro with hro|hro
    ·exact hro
    ·simp[rOk]at hro
   subst hrn
   refine wpIn_wide.2 ?_
   simp only[vcT]at h
   refine wp_scope_straight (wpIn_wide.1 (cz9 (ro:=none) hd body t s K _ r F w ρ a (.inl rfl) h hr hs ho h0 ?_))
   intro e t' s' F' w' ρ' a' hK hr' hs' ho' h0'
   have:=hp e t' s' F' w' ρ' a' hK hr' hs' ho' h0'
   cases e<;>exact this
 | .rangeFunc _ _ _ _,_,_,_,_,_,_,_,_,_,_,_,h,_,_,_,_,_=>by simp[vcT,Ob.holds]at h
 | .goto _,_,_,_,_,_,_,_,_,_,_,_,h,_,_,_,_,_=>by simp[vcT,Ob.holds]at h
 | .refuse _,_,_,_,_,_,_,_,_,_,_,_,h,_,_,_,_,_=>by simp[vcT,Ob.holds]at h
theorem nzn {P:Program}{drawOk:List Oper->List Eff->Bool}(hd:ezp P drawOk){X:Cx}{N:Nat}(c:Code){R:Type}(t:T R)(s:St)(K:Ex->T R->St->Ob)(Q:Exit->Act->World->Prop)(r:R)(F:Cells)(w:World)(ρ:Env)(a:Act)
 (h:(vcT P X.nt X.n0 drawOk c t s K).holds) (hr:t.run N=some r) (hs:Sat X F w ρ s a) (ho:s.ok=true) (h0:X.n0≤s.nx) (hp:Uzk N r X K Q):c.wp P Q a w:=
 wpIn_wide.1 (cz9 (ro:=none) hd c t s K Q r F w ρ a (.inl rfl) h hr hs ho h0 hp)
def qzz (P:Program)(gs:List (GuardS P))(drawOk:List Oper->List Eff->Bool)(fn:Func)(body:Code)(n0 k:Nat){R:Type}(t:T R)(args:List AVal)(m:Mem)(res:R->AVal)(m':R->Mem):Ob:=
 if decide (args.length≤fn.ntmps)&&St.ok ⟨ozv 0 args,m,[],n0⟩then
  vcT P fn.ntmps n0 drawOk body t ⟨ozv 0 args,m,[],n0⟩ fun e t s=>match e with
   | .exit _=>.no
   |_=>finO t s fun t s=>match finT t s with
    |some (r,s)=>retO P gs n0 k fn.results.toList (res r) (m' r) s
    |_=>.no
 else .no
theorem Szs {P:Program}{X:Cx}{fn:Func}{k:Nat}{res:AVal}{m':Mem}{s:St}{F':Cells}{w':World}{ρ':Env}{a':Act}(hret:Hzm P X.n0 k fn.results.toList res m' s)(hs:Sat X F' w' ρ' s a'):
 ∃v,(results fn a'.tmps).run P w'=.ok v w'/\nzo P s.df/\∃F2 ρ2,Step X.Mine X.F0 X.w0 F2 w'/\czm k X.ρ0 ρ2/\ARel F2 w' ρ2 res v/\MemOk F2 w' ρ2 X.Mine m':=by
 unfold Hzm at hret
 split at hret
 ·exact hret.elim
 ·rename_i avs havs
  simp only at hret
  generalize hhb:gz5 s.mem avs (gzd res)=hb at hret
  generalize hτ:idOf X.n0 (Hz8 X.n0 s hb.1 (gzd res) m')=τ at hret
  split at hret
  ·rename_i hcond
   simp only[Bool.and_eq_true,bne_iff_ne,ne_eq]at hcond
   obtain⟨⟨⟨hinj,hmin⟩,hrin⟩,hcount⟩:=hcond
   obtain⟨h1,h2,h3⟩:=hret
   obtain⟨us,hrun,hl1,hl2,hrel⟩:=Lzn (P:=P) hs havs
   refine⟨_,hrun,h3,?_⟩
   obtain⟨st1,hm1⟩:=iz4 (m:=s.mem) hs.mem hs.good (is:=hb.2) (fun _ _=>rfl)
   have hrel2:=qz7 hs.mem hs.good (js:=hb.2) (rs:=gzd res) hl1 hrel (by rw[hhb];exact fun _ h=>h)
   rw[hhb]at hrel2
   let F2:=czu F' w' ρ' s.mem hb.2
   let ρ2:Env:=⟨fun j=>if k≤j/\j<k+64 then ρ'.blk (τ j)else X.ρ0.blk j,fun j=>if k≤j/\j<k+64 then ρ'.vec (τ j)else X.ρ0.vec j⟩
   have hlow:∀i,i<X.n0->τ i=i:=fun i hi=>by rw[←hτ];simp[idOf,hi]
   have hag:∀i,(i<X.n0\/Own k i)->ρ2.blk i=(ρ'.pull τ).blk i/\ρ2.vec i=(ρ'.pull τ).vec i:=by
    intro i hi
    by_cases ho:Own k i
    ·exact⟨if_pos ho,if_pos ho⟩
    ·have hlt:=hi.resolve_right ho
     have he:=hs.env0 i hlt
     refine⟨(if_neg ho).trans ?_,(if_neg ho).trans ?_⟩
     ·show _=ρ'.blk (τ i);rw[hlow i hlt];exact he.1.symm
     ·show _=ρ'.vec (τ i);rw[hlow i hlt];exact he.2.symm
   refine⟨F2,ρ2,hs.from0.trans st1,fun i hi=>⟨if_neg hi,if_neg hi⟩,?_,?_⟩
   ·obtain⟨q1,q2⟩:=lz1 (F:=F2) (w:=w') (ρ:=ρ') h1
    have each:∀ (j:Nat) (r:AVal) (v:Value),(gzd res)[j]?=some r->us[j]?=some v->ARel F2 w' ρ2 r v:=by
     intro j r v hr hv
     obtain⟨b,hb1,hb2⟩:=q2 j (r.ren τ) (by rw[iz0,hr];rfl)
     have h5:=ARel.unren r v (hb2 v (hrel2.2 j b v hb1 hv))
     exact h5.mono (fun i=>i<X.n0\/Own k i) (fun _ _ h=>h) (fun _ _ _=>rfl) hag (fun i hi=>Oze hi (Ozd hrin hr))
    have hlen2:(gzd res).length=us.length:=by rw[dzl]at q1;omega
    by_cases h1r:us.length=1
    ·rw[dif_pos h1r]
     have hnt:Jz6 res=false:=by
      have:(fn.results.toList.length==1)=true:=by simp;simp at hl2;omega
      rw[this]at hcount
      cases hh:Jz6 res<;>simp_all
     have hrl:gzd res=[res]:=by cases res<;>simp_all [gzd,Jz6]
     exact each 0 res _ (by rw[hrl];rfl) (by simp[h1r])
    ·rw[dif_neg h1r]
     have hnt:Jz6 res=true:=by
      have:(fn.results.toList.length==1)=false:=by simp;simp at hl2;omega
      rw[this]at hcount
      cases hh:Jz6 res<;>simp_all
     cases res<;>simp[Jz6]at hnt
     exact .tup (by simpa[gzd]using hlen2) (fun j r v hr hv=>each j r v hr (by simpa using hv))
   ·have hinj':∀x∈m',∀y∈m',τ x.1=τ y.1->ozz x.2=false->ozz y.2=false->x.1=y.1:=fun x hx y hy he h1 h2=>Ozf hinj hx hy he h1 h2
    have hget:∀i r,m'.get i=some r->∃r0,(bz6 s.mem hb.2++s.mem).get (τ i)=some r0/\RSub r0 (r.ren τ):=fun i r hi=>mz9 h2 (Hzb (fz4 hi))
    have hblk:∀i r b,m'.get i=some r->Owns w' (ρ'.pull τ) i r b->∃r0,(bz6 s.mem hb.2++s.mem).get (τ i)=some r0/\Owns w' ρ' (τ i) r0 b:=by
     intro i r b hi hb'
     obtain⟨r0,q1,q2⟩:=hget i r hi
     refine⟨r0,q1,(q2.rel F2 w' ρ' (τ i) (hm1.ok _ _ q1)).2 b ?_⟩
     rw[kzd (ρ:=ρ'.pull τ) (ρ':=ρ') ⟨rfl,rfl⟩];exact hb'
    have hbeq:∀i r,m'.get i=some r->∀b,Owns w' ρ2 i r b↔Owns w' (ρ'.pull τ) i r b:=fun i r hi=>nzp (hag i (Bzu hmin hi).1) (fun _ _=>rfl)
    refine⟨fun i r hi=>?_,fun i r b hi hb'=>?_,fun i i' r r' b hi hi' hb1 hb2=>?_⟩
    ·obtain⟨r0,q1,q2⟩:=hget i r hi
     have h5:=(q2.rel F2 w' ρ' (τ i) (hm1.ok _ _ q1)).1.unren
     obtain⟨q3,q4⟩:=Bzu hmin hi
     refine h5.keep (fun i=>i<X.n0\/Own k i) (fun _ _ h=>h) (fun _ _ _=>rfl) hag q3 (fun j hj=>?_) (fun b _=>⟨rfl,fun _ h=>h⟩)
     cases r with
     |box cs=>exact wzg hj q4
     |vecX _ _ _ _ _ _ i=>simp[Res.inIds]at q4;simp[Res.has];exact fun e=>hj (by subst e;exact q4)
     |vecU _ _ _ _ _ _ _ _ hs=>
      simp only[Res.inIds,List.all_eq_true,Bool.or_eq_true,Bool.and_eq_true,decide_eq_true_eq]at q4
      simp only[Res.has,List.any_eq_false,beq_iff_eq]
      exact fun x hx e=>hj (by subst e;exact q4 x hx)
     |_=>rfl
    ·rw[hbeq i r hi]at hb'
     obtain⟨r0,q1,q2⟩:=hblk i r b hi hb'
     exact hm1.mine _ _ _ q1 q2
    ·rw[hbeq i r hi]at hb1
     rw[hbeq i' r' hi']at hb2
     obtain⟨r0,q1,q2⟩:=hblk i r b hi hb1
     obtain⟨r1,q3,q4⟩:=hblk i' r' b hi' hb2
     exact hinj' _ (fz4 hi) _ (fz4 hi') (hm1.disj _ _ _ _ b q1 q3 q2 q4) (mzc hb1) (mzc hb2)
  ·exact hret.elim
theorem Lzy {P:Program}{N:Nat}{R:Type}{t:T R}{r:R}(hrun:t.run N=some r){f:FuncId}{fn:Func}{body:Code}{drawOk:List Oper->List Eff->Bool}{n0 k:Nat}{gs:List (GuardS P)}{args:List AVal}{m:Mem}{res:R->AVal}{m':R->Mem}(hd:ezp P drawOk)
 (hf:P.funcs[f]?=some fn) (hb:fn.body=some body) (hname:(fn.name== "runtime.NumGoroutine")=false) (h:(qzz P gs drawOk fn body n0 k t args m res m').holds):Spec P f k args m (res r) (m' r):=by
 refine⟨⟨fn,hf,hname,by rw[hb];rfl⟩,fun F w ρ Mine vs hm hg hargs=>?_⟩
 unfold qzz at h
 split at h
 ·rename_i hc
  simp only[Bool.and_eq_true,decide_eq_true_eq]at hc
  obtain⟨hlen,hok⟩:=hc
  let X:Cx:=⟨fn.ntmps,n0,Mine,F,w,ρ,[]⟩
  refine calls_of_wp_defers hf hb ?_
  have hsz:=hargs.1
  have hsat:Sat X F w ρ ⟨ozv 0 args,m,[],n0⟩ {tmps:=vs++Array.replicate (fn.ntmps-vs.size) undef,defers:=[]}:=by
   refine⟨by show(vs++Array.replicate _ _).size=fn.ntmps;simp;omega,fun t=>?_,hm,.nil,hg,Step.refl hg,fun i _=>⟨rfl,rfl⟩⟩
   show ARel F w ρ (lz8 (ozv 0 args) t) _
   rw[wz2]
   simp only[Nat.zero_le,if_true,Nat.sub_zero]
   cases ht:args[t]? with
   |none=>exact .any
   |some b=>
    have hlt:t<vs.size:=by have:=(List.getElem?_eq_some_iff.1 ht).1;omega
    refine hargs.2 t b _ ht ?_
    rw[Array.getD_eq_getD_getElem?,Array.getElem?_append_left hlt]
    simp[hlt]
  refine nzn hd body t _ _ _ r F w ρ _ h hrun hsat hok (Nat.le_refl _) ?_
  have fin:∀ (s:St) (F':Cells) (w':World) (ρ':Env) (a':Act),Hzm P n0 k fn.results.toList (res r) (m' r) s->Sat X F' w' ρ' s a'->
   Leaves P fn a'.tmps (fun e w'=>∃v F' ρ',e=.returned v/\Step Mine F w F' w'/\czm k ρ ρ'/\ARel F' w' ρ' (res r) v/\MemOk F' w' ρ' Mine (m' r)) a'.defers .returning w':=by
   intro s F' w' ρ' a' hret hs
   obtain⟨v,h1,h2,F2,ρ2,h3⟩:=Szs (X:=X) hret hs
   exact sz7 h1 ⟨v,F2,ρ2,rfl,h3⟩ hs.df h2
  intro e t' s F' w' ρ' a' hK hr' hs ho h0
  cases e with
  |exit id=>exact hK.elim
  |normal=>
   simp only at hK
   have hK0:=Gzr t' hK hr' hs ho h0
   clear hK hr' hs ho h0
   obtain⟨t',F',s,hK,hr',hs,ho,h0⟩:=hK0
   split at hK
   ·rename_i r' s'' hfin
    obtain⟨hs,_,_⟩:=jz6 hfin hs ho h0
    have hr':=jz5 hfin hr'
    subst hr';exact fin s'' F' w' ρ' a' (Hzl hK) hs
   ·exact hK.elim
  |ret=>
   simp only at hK
   have hK0:=Gzr t' hK hr' hs ho h0
   clear hK hr' hs ho h0
   obtain⟨t',F',s,hK,hr',hs,ho,h0⟩:=hK0
   split at hK
   ·rename_i r' s'' hfin
    obtain⟨hs,_,_⟩:=jz6 hfin hs ho h0
    have hr':=jz5 hfin hr'
    subst hr';exact fin s'' F' w' ρ' a' (Hzl hK) hs
   ·exact hK.elim
 ·exact h.elim
theorem Iz7 {P:Program}{N:Nat}{R:Type}(t:T R){r:R}(hrun:t.run N=some r){f:FuncId}{fn:Func}{drawOk:List Oper->List Eff->Bool}{n0 k:Nat}{gs:List (GuardS P)}{args:List AVal}{m:Mem}{res:R->AVal}{m':R->Mem}(hd:ezp P drawOk)
 (hf:P.funcs[f]?=some fn) (hb:fn.body.isSome=true) (hname:(fn.name== "runtime.NumGoroutine")=false) (h:(qzz P gs drawOk fn (fn.body.getD .skip) n0 k t args m res m').holds):Spec P f k args m (res r) (m' r):=by
 obtain⟨b,hb'⟩:=Option.isSome_iff_exists.1 hb
 rw[hb']at h
 exact Lzy hrun hd hf hb' hname h
end Go.Abs
