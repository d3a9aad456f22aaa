/-
  SoundK (a part of a claim: our own text).
-/
import Derived.Test.YtlmicknhpllbdaaGreatDoorYMSoundT
import Derived.Laws.CopyRow
import Derived.Laws.Pointers
namespace Go.Abs
variable {P:Program} {o:Oper} {env:Operand->AVal} {m:Mem} {id:Nat}
theorem openB_true {a:List (Nat×Nat)}{i:Nat}:rzk a i=true↔∃k,(i,k)∈a:=by
 grind[rzk]
theorem azen {t:TypeId}{x:Operand}{q:Nat}{out:Out}(ho:o.op=.load t x)(h:az0o P t q (env x) m=some out)(J:holds out.obl):Sound1 P o env m id out:=by
 unfold az0o at h
 split at h
 ·rename_i j sz i hx
  split at h
  ·rename_i sz' n f k e off s' e' S Z
   split at h
   ·rename_i hc
    simp only[Bool.and_eq_true,decide_eq_true_eq]at hc
    obtain⟨⟨rfl,V⟩,R⟩:=hc
    have H:∀ (z:AVal) (ob:Option Prop),i<n->(∀ (F:Cells) (w:World) (ρ:Env) (c:Array Value),UOk F w ρ c sz n f k off s' e' S->off<sz->∀vs:Array Value,vs.size=sz->(∀l,l<sz->vs[l]?=c[i * sz+l]?)->ARel F w ρ z (.agg vs))->
     Sound1 P o env m id ⟨z,[j],[],ob⟩:=by
     intro z ob d E
     refine Sound1.still fun F w ρ Mine M a L s U=>?_
     have D:=U x (by simp[ho,Op.operands])
     rw[hx]at D
     obtain⟨r,hkn,⟨_,hn0,_⟩|⟨b,cap,c,q1,q2,q3,q4,Y,q6,Q,q8⟩⟩:=L.ok j _ ((s j (by simp)).trans Z)
     ·omega
     generalize hu:a.eval x=u at D
     cases D with
     |eptr W=>
      have hsub:i * sz+sz≤c.size:=by rw[Y,←Nat.succ_mul];exact Nat.mul_le_mul_right _ (by omega)
      have hr:=qzt (P:=P) (t:=t) (b:=b) (off:=i * sz+0) q2 (.inl ⟨R,sz,V,by omega,rfl⟩)
      refine⟨.agg (c.extract (i * sz+0) (i * sz+0+sz)),.value (by grind[execOp,Instr.loadAt,Instr.sureAddr,Sem.run_bind,Sem.run_pure,Result.andThen_ok]),E F w ρ c Q r _ (by simp_all) fun l B=>?_⟩
      simp_all
    split at h
    ·split at h
     ·have I:S=[]:=by simp_all
      subst I
      cases h
      obtain⟨hki,d⟩:=J
      refine H _ _ d fun F w ρ c A r vs O hg=>.pure (.agg (by rw[A.len i d,O]) fun l p v C E=>?_)
      have B:l<sz:=by grind
      by_cases G:l=off
      ·subst G
       obtain⟨X,N,_,_,v4⟩:=A.own i p d rfl C
       simp_all
      ·obtain⟨X,N,_,v3⟩:=A.cell i l p d G C
       simp_all
     grind
    ·split at h
     ·rename_i h' k' K
      cases h
      obtain rfl:i=h':=J
      have y:(i,k')∈S:=List.mem_of_getElem? K
      intro F w ρ Mine M a L g fr s T U
      obtain⟨_,_,⟨_,_,he⟩|⟨b,cap,c,q1,q2,q3,q4,Y,q6,Q,q8⟩⟩:=L.ok j _ ((s j (by simp)).trans Z)
      ·simp_all
      have d:=(Q.hole _ y).1
      refine H _ _ d (fun F w ρ c A r vs O hg=>.agg (by rw[List.length_set,List.length_map,A.len i d,O]) fun l a v C E=>?_) F w ρ Mine M a L g fr s T U
      have B:l<sz:=by grind
      rw[hg l B]at E
      by_cases G:l=off
      ·subst G
       rw[(A.hole _ y).2]at E;grind[Tzw]
      ·rw[List.getElem?_set_ne (Ne.symm G),List.getElem?_map,Option.map_eq_some_iff]at C
       obtain⟨p,C,rfl⟩:=C
       obtain⟨X,N,_,v3⟩:=A.cell i l p d G C
       rw[N]at E;cases E;exact .pure v3
     grind
   grind
  grind
 grind
theorem azcs {t:TypeId}{x y:Operand}{j sz n i k off s' kk:Nat}{f:Nat->PVal}{e e':TypeId}{hs G:List (Nat×Nat)}{ps:List PVal}{ob:Option Prop}{rk:Res}(ho:o.op=.store t x y)(hsz:bz9 P t=some sz)
 (hx:env x=.eptr j sz i 0) (hj:m.get j=some (.vecU sz n f k e off s' e' hs)) (hk:m.get kk=some rk) (O:(env y).cells[off]?=some (.vec kk)) (hps:allP ((env y).cells.set off (.pure .unk))=some ps) (hpl:ps.length=sz) (hpsc:ps.all (·.scalar)=true)
 (hin:i<n) (h1:∀q,q≠i->rzk G q=rzk hs q) (h2:rzk G i=true) (h3:∀z∈G,z=(i,kk)\/(z∈hs/\z.1≠i)) (h4:(hs.map (·.1)).Nodup->(G.map (·.1)).Nodup):
 Sound1 P o env m id ⟨.any,[j,kk],[(j,.vecU sz n (fun q=>if q=i then .agg ps else f q) k e off s' e' G)],ob⟩:=by
 have run:∀ {a:Act} {w w':World} {b off:Nat},a.eval x=.pointer (some ⟨b,off,none⟩)->(storeVar t ⟨b,off,none⟩ (a.eval y)).run P w=.ok () w'->Ran P o a w undef w':=by
  intro a w w' b off hx hr
  exact .inr ⟨by simp_all[execOp,Instr.storeAt,Instr.sureAddr],rfl⟩
 intro F w ρ Mine M a hm g fr hrd hfe ha
 have hM:=(hrd j (by simp)).trans hj
 have hax:=ha x (by simp[ho,Op.operands])
 have hay:=ha y (by simp[ho,Op.operands])
 rw[hx]at hax
 generalize hu:a.eval x=u at hax
 cases hax with
 |eptr D=>
  rename_i b n' cap
  obtain⟨H,hkn,⟨_,hn0,_⟩|⟨l,cap',c,hv',hb,hnc,hcm,hcsz,hF,hU,hnin⟩⟩:=hm.ok j _ hM
  ·omega
  rw[D]at hv';cases hv'
  obtain⟨hpl',hpg⟩:=kzr hps
  have hyl:(env y).cells.length=sz:=by simp_all
  have Z:(env y).cells.all (·.scalar)=true:=by
   have h5:=Nzr hps hpsc
   rw[List.all_eq_true]at h5⊢
   intro z hz
   obtain⟨q,s⟩:=List.getElem?_of_mem hz
   by_cases e0:q=off
   ·subst e0;rw[O]at s;cases s;rfl
   ·exact h5 z (List.mem_of_getElem? (i:=q) (by grind))
  obtain⟨hvs,hvc⟩:=hay.cells Z
  have h5:∀u∈(a.eval y).cells.toList,u.oneCell'=true:=by
   grind[List.getElem?_of_mem]
  have hsub:i * sz+sz≤c.size:=by rw[hcsz,←Nat.succ_mul];exact Nat.mul_le_mul_right _ (by omega)
  have hr:=ozd (P:=P) (off:=i * sz+0) hsz (by omega) hb (by omega) h5
  have hvlen:(a.eval y).cells.toList.length=sz:=by simp_all
  have N:∀q,((c.toList.take (i * sz+0)++(a.eval y).cells.toList++c.toList.drop (i * sz+0+(a.eval y).cells.toList.length)).toArray)[q]?=
   if i * sz≤q/\q<i * sz+sz then(a.eval y).cells[q-i * sz]? else c[q]?:=by
   intro q
   rw[List.getElem?_toArray,kz1 _ _ _ _ (by simp_all),hvlen]
   simp
  generalize hc':(c.toList.take (i * sz+0)++(a.eval y).cells.toList++c.toList.drop (i * sz+0+(a.eval y).cells.toList.length)).toArray=c' at hr N
  have hsz':c'.size=cap * sz:=by
   grind
  have hbj:Owns w ρ j (.vecU sz n f k e off s' e' hs) b:=.inl (by simp[bz4,D])
  have hmine:=hm.mine j _ b hM hbj
  have U:Step Mine F w F (w.setRow b c'):=Step.write g hb hmine.1 (fun o h=>absurd h (hF o))
  have T:=setRow_heap w b c c' e _ hb
  have I:∀q A,q≠i->A<sz->c'[q * sz+A]?=c[q * sz+A]?:=by
   intro q A s X
   rw[N,if_neg]
   rcases Nat.lt_or_gt_of_ne s with Q|hgt
   ·have:(q+1) * sz≤i * sz:=Nat.mul_le_mul_right _ Q
    rw[Nat.succ_mul]at this;omega
   ·have:(i+1) * sz≤q * sz:=Nat.mul_le_mul_right _ hgt
    rw[Nat.succ_mul]at this;omega
  have hnew:∀A,A<sz->c'[i * sz+A]?=(a.eval y).cells[A]?:=by
   intro A X
   rw[N,if_pos (by omega)]
   congr 1;omega
  have J:∀q l,InnU c' sz n off k G q l->InnU c sz n off k hs q l:=by
   intro q l ⟨K,V,r3,n2,cap2,r4⟩
   have d:q≠i:=fun e=>by subst e;rw[h2]at r3;cases r3
   rw[I q off d H]at r4
   exact⟨K,V,by rw[←h1 q d];exact r3,n2,cap2,r4⟩
  have hown:∀l,Owns (w.setRow b c') ρ j (.vecU sz n (fun q=>if q=i then .agg ps else f q) k e off s' e' G) l->Owns w ρ j (.vecU sz n f k e off s' e' hs) l:=by
   intro l C
   rcases C with C|⟨b0,n0,cap0,c0,e0,q,K,V,r3⟩
   ·exact .inl C
   ·rw[D]at K;cases K
    rw[T]at V;cases V
    exact .inr ⟨b,n,cap,c,e,q,D,hb,J q l r3⟩
  have S:∀q,Mem.get [(j,Res.vecU sz n (fun q=>if q=i then .agg ps else f q) k e off s' e' G)] q=none->q≠j:=by
   intro q s R
   subst R
   simp[Mem.get]at s
  refine⟨undef,_,F,ρ,run hu hr,U,fun _ _=>⟨rfl,rfl⟩,.any,MemOk.step hm U (fun _=>True) (fun _ _=>⟨rfl,rfl⟩) _ (fun q r h hn=>⟨trivial,fun q s=>absurd trivial s,fun l C=>⟨?_,fun _ h=>h⟩⟩) (fun q r h=>?_) (fun q q' r r' l h h' _ _=>?_)⟩
  ·refine setRow_other w b l _ (fun R=>?_)
   subst R
   exact S q hn (hm.disj j q _ r _ hM h hbj C).symm
  ·simp only[Mem.get]at h
   split at h
   ·rename_i R;subst R;cases h
    refine⟨⟨H,hkn,.inr ⟨b,cap,c',D,T,hnc,hcm,hsz',hF,⟨fun q s=>?_,fun q A p s X Y=>?_,fun q p s L Y=>?_,fun z hz=>?_,h4 hU.nodup,fun q q' l K V=>hU.inj q q' l (J q l K) (J q' l V)⟩,fun q K=>hnin q (J q b K)⟩⟩,fun l C=>?_⟩
    ·by_cases d:q=i
     ·simp only[if_pos d];exact hpl
     ·simp only[if_neg d];exact hU.len q s
    ·by_cases d:q=i
     ·subst d
      simp only[if_true]at Y
      have Q:A<sz:=by have:=(List.getElem?_eq_some_iff.1 Y).1;rw[show(PVal.agg ps).cells=ps from rfl,hpl]at this;exact this
      obtain⟨aa,ha1,ha2⟩:=hpg A p Y
      rw[List.getElem?_set_ne (Ne.symm X)]at ha1
      rw[hnew A Q]
      have B:A<(a.eval y).cells.size:=by omega
      obtain⟨K,V⟩:=hvc A aa _ ha1 (Array.getElem?_eq_getElem B)
      exact⟨_,Array.getElem?_eq_getElem B,V,(K.toP ha2).mono U.sub U.cell⟩
     ·simp only[if_neg d]at Y
      have Q:A<sz:=by have:=(List.getElem?_eq_some_iff.1 Y).1;rw[hU.len q s]at this;exact this
      rw[I q A d Q]
      obtain⟨v,v1,v2,v3⟩:=hU.cell q A p s X Y
      exact⟨v,v1,v2,v3.mono U.sub U.cell⟩
    ·have d:q≠i:=fun R=>by subst R;rw[h2]at L;cases L
     simp only[if_neg d]at Y
     rw[I q off d H]
     rw[h1 q d]at L
     obtain⟨v,v1,v2,v3,v4⟩:=hU.own q p s L Y
     refine⟨v,v1,v2,fun W=>?_,fun W=>(v4 W).mono U.sub U.cell⟩
     obtain⟨z,n2,g2,p1,p2,p3⟩:=v3 W
     refine⟨z,n2,g2,p1,p2,p3.mono U.sub U.cell fun l m' cap' hx'=>⟨setRow_other w b l _ (fun R=>?_),fun _ h=>h⟩⟩
     subst hx'
     exact hnin q ⟨s,W,L,m',cap',by rw[v1,p2,R];rfl⟩
    ·rcases h3 z hz with rfl|⟨z1,z2⟩
     ·refine⟨hin,?_⟩
      rw[hnew off H]
      have B:off<(a.eval y).cells.size:=by omega
      obtain⟨K,_⟩:=hvc off _ _ O (Array.getElem?_eq_getElem B)
      rw[Array.getElem?_eq_getElem B,Zzo K]
     ·obtain⟨K,V⟩:=hU.hole z z1
      exact⟨K,by rw[I z.1 off z2 H];exact V⟩
    ·obtain⟨m1,m2⟩:=hm.mine _ _ l hM (hown l C)
     exact⟨m1,by simpa using m2,fun q r' s hn hbq=>S q hn (hm.disj _ q _ r' l hM s (hown l C) hbq).symm⟩
   ·cases h
  ·simp only[Mem.get]at h h'
   split at h
   ·split at h'
    ·rename_i R e2;exact R.symm.trans e2
    ·cases h'
   ·cases h
theorem az74 {a:List (Nat×Nat)}{h i k kk:Nat}(b:a[h]?=some (i,k)):(a.set h (i,kk)).map (·.1)=a.map (·.1):=by
 apply List.ext_getElem?
 grind
theorem Yzl {b a:List (Nat×Nat)}(h:b.map (·.1)=a.map (·.1))(i:Nat):rzk b i=rzk a i:=by
 have:∀l:List (Nat×Nat),rzk l i=(l.map (·.1)).any (·==i):=fun l=>by grind[rzk]
 grind
theorem azb8 {t:TypeId}{x y:Operand}{q:Nat}{out:Out}(Q:o.op=.store t x y)(h:Uzx P t q (env x) (env y) m=some out)(u:holds out.obl):Sound1 P o env m id out:=by
 unfold Uzx at h
 split at h
 ·rename_i j sz i L
  split at h
  ·rename_i X n f k e off s' e' hs I
   split at h
   ·rename_i kk ps p B
    split at h
    ·rename_i z1 z2 z3 z4 z5 O
     split at h
     ·rename_i S
      simp only[Bool.and_eq_true,decide_eq_true_eq]at S
      obtain⟨⟨⟨⟨rfl,A⟩,v⟩,r⟩,_⟩:=S
      split at h
      ·split at h
       ·cases h
        refine azcs Q A L I O p B v r u (fun q s=>?_) (by simp[rzk]) (fun z N=>.inl (by simp_all)) (fun _=>by simp)
        grind[rzk]
       grind
      ·rename_i hh
       split at h
       ·rename_i T k' d
        cases h
        obtain rfl:i=T:=u
        intro F w ρ Mine M a K g W C J ha
        obtain⟨_,_,⟨_,_,Y⟩|⟨b,cap,c,q1,q2,q3,q4,q5,q6,R,q8⟩⟩:=K.ok j _ ((C j (by simp)).trans I)
        ·rw[Y]at d;simp at d
        have E:=(R.hole _ (List.mem_of_getElem? d)).1
        have l:=az74 (kk:=kk) d
        refine azcs Q A L I O p B v r E (fun q s=>Yzl l q) ?_ (fun z N=>?_) (fun V=>by rw[l];exact V) F w ρ Mine M a K g W C J ha
        ·rw[Yzl l];exact openB_true.2 ⟨k',List.mem_of_getElem? d⟩
        ·obtain⟨q,s⟩:=List.getElem?_of_mem N
         by_cases D:hh=q
         ·subst D
          have G:=(List.getElem?_eq_some_iff.1 d).1
          rw[List.getElem?_set_self G]at s
          cases s;exact .inl rfl
         ·rw[List.getElem?_set_ne D]at s
          refine .inr ⟨List.mem_of_getElem? s,fun U=>D ?_⟩
          have H:=R.nodup
          have Z:=(List.getElem?_eq_some_iff.1 d).1
          refine(List.getElem?_inj (by simpa using Z) H).1 ?_
          rw[List.getElem?_map,List.getElem?_map,d,s]
          simp[U]
       ·cases h
     ·cases h
    ·cases h
   ·cases h
  ·cases h
 ·cases h
theorem Jzx {x:Nat×Nat}{a:List (Nat×Nat)}{i:Nat}:rzk (x::a) i=(x.1==i||rzk a i):=by rfl
theorem Tzm {x:Nat×Nat}{a:List (Nat×Nat)}{i:Nat}:rzk (a++[x]) i=(rzk a i||x.1==i):=by simp[rzk]
theorem MemOk.openU {F:Cells}{w:World}{ρ:Env}{Mine:Nat->Prop}{M:Mem}(B:MemOk F w ρ Mine M){j sz n k off u U h d:Nat}{f g:Nat->PVal}{e y:TypeId}{t:List (Nat×Nat)}
 (I:M.get j=some (.vecU sz n f k e off u y t)) (hc:(f h).cells[off]?=some (.lst u U g)) (hk:h<k) (hh:rzk t h=false)
 (hnew:M.get d=none) (hfr:∀q r,M.get q=some r->r.has d=false):
 ∃x,MemOk F w (ρ.setVec d x) Mine ((j,.vecU sz n f k e off u y (t++[(h,d)]))::(d,.vec u U g 0 y)::M):=by
 obtain⟨R,hkn,⟨_,hn0,_⟩|⟨b,cap,c,q1,q2,q3,q4,q5,q6,H,q8⟩⟩:=B.ok j _ I
 ·omega
 obtain⟨v,v1,v2,v3,_⟩:=H.own h _ (by omega) hh hc
 obtain⟨x,n2,g2,p1,p2,p3⟩:=v3 hk
 cases p1
 have hjn:j≠d:=fun Q=>by simp_all
 have S:∀i,i≠d->(ρ.setVec d x).vec i=ρ.vec i:=fun i hi=>by simp[Env.setVec,hi]
 have J:(ρ.setVec d x).vec d=x:=by simp[Env.setVec]
 have E:∀q l,InnU c sz n off k (t++[(h,d)]) q l->InnU c sz n off k t q l/\q≠h:=by
  intro q l ⟨O,Y,r3,r4⟩
  rw[Tzm,Bool.or_eq_false_iff]at r3
  exact⟨⟨O,Y,r3.1,r4⟩,fun e=>by simp_all⟩
 have hx:∀l,x.map (·.1)=some l->InnU c sz n off k t h l:=by
  intro l s
  cases x with
  |none=>grind
  |some z=>
   obtain⟨z1,z2,z3⟩:=z
   cases s
   exact⟨by omega,hk,hh,z2,z3,by rw[v1,p2];rfl⟩
 have C:∀i r,Mem.get ((j,Res.vecU sz n f k e off u y (t++[(h,d)]))::(d,.vec u U g 0 y)::M) i=some r->
  (i=j/\r=.vecU sz n f k e off u y (t++[(h,d)]))\/(i=d/\r=.vec u U g 0 y)\/(i≠j/\i≠d/\M.get i=some r):=by
  grind[Mem.get]
 have hvj:(ρ.setVec d x).vec j=some (b,n,cap):=by simp_all
 have D:∀i r l,Mem.get ((j,Res.vecU sz n f k e off u y (t++[(h,d)]))::(d,.vec u U g 0 y)::M) i=some r->Owns w (ρ.setVec d x) i r l->
  (i=j/\(l=b\/∃q,q≠h/\InnU c sz n off k t q l))\/(i=d/\InnU c sz n off k t h l)\/(i≠j/\i≠d/\M.get i=some r/\Owns w ρ i r l):=by
  intro i r l hi s
  rcases C i r hi with⟨rfl,rfl⟩|⟨rfl,rfl⟩|⟨m,h2,G⟩
  ·rcases s with s|⟨b0,n0,cap0,c0,e0,q,O,Y,r3⟩
   all_goals grind[bz4]
  ·grind[owns_vec]
  ·exact .inr (.inr ⟨m,h2,G,(wzg (ρ:=ρ) (ρ':=ρ.setVec d x) ⟨rfl,S i h2⟩ (fun _ _=>rfl) l).1 s⟩)
 have ob:Owns w ρ j (.vecU sz n f k e off u y t) b:=.inl (by simp[bz4,q1])
 have P:∀q l,InnU c sz n off k t q l->Owns w ρ j (.vecU sz n f k e off u y t) l:=fun q l h=>.inr ⟨b,n,cap,c,e,q,q1,q2,h⟩
 refine⟨x,fun i r hi=>?_,fun i r l hi s=>?_,fun i W r Z l hi hi' hb1 hb2=>?_⟩
 ·rcases C i r hi with⟨rfl,rfl⟩|⟨rfl,rfl⟩|⟨m,h2,G⟩
  ·refine⟨R,hkn,.inr ⟨b,cap,c,hvj,q2,q3,q4,q5,q6,⟨H.len,H.cell,fun q p A ho hp=>?_,fun z X=>?_,?_,fun q q' l O Y=>H.inj q q' l (E q l O).1 (E q' l Y).1⟩,fun q O=>q8 q (E q b O).1⟩⟩
   ·rw[Tzm,Bool.or_eq_false_iff]at ho
    exact H.own q p A ho.1 hp
   ·rw[List.mem_append,List.mem_singleton]at X
    rcases X with X|rfl
    ·obtain⟨z1,z2⟩:=H.hole z X
     grind[Res.has]
    grind
   ·rw[List.map_append,List.nodup_append]
    refine⟨H.nodup,by simp,fun a ha l s Q=>?_⟩
    grind[openB_true]
  ·show _/\_
   rw[J];exact p3
  ·refine(B.ok i r G).keep (fun q=>q≠d) (fun _ _ h=>h) (fun _ _ _=>rfl) (fun q A=>⟨rfl,S q A⟩) h2 (fun q A=>?_) (fun l _=>⟨rfl,fun _ h=>h⟩)
   have:q=d:=Classical.byContradiction fun h=>A h
   subst this;exact hfr i r G
 ·rcases D i r l hi s with⟨_,rfl|⟨q,_,m⟩⟩|⟨_,m⟩|⟨_,_,G,V⟩
  ·exact B.mine j _ _ I ob
  ·exact B.mine j _ _ I (P q l m)
  ·exact B.mine j _ _ I (P h l m)
  ·exact B.mine i r l G V
 ·rcases D i r l hi hb1 with⟨Q,m⟩|⟨Q,m⟩|⟨a1,a2,G,V⟩<;>rcases D W Z l hi' hb2 with⟨e2,o⟩|⟨e2,o⟩|⟨T,a2',N,K⟩
  ·rw[Q,e2]
  ·rcases m with rfl|⟨q,A,m⟩
   ·exact(q8 h o).elim
   ·exact(A (H.inj q h l m o)).elim
  ·have L:Owns w ρ j (.vecU sz n f k e off u y t) l:=by
    rcases m with rfl|⟨q,A,m⟩
    ·exact ob
    ·exact P q l m
   exact(T (B.disj j W _ Z l I N L K).symm).elim
  ·rcases o with rfl|⟨q,A,o⟩
   ·exact(q8 h m).elim
   ·exact(A (H.inj q h l o m)).elim
  ·rw[Q,e2]
  ·exact(T (B.disj j W _ Z l I N (P h l m) K).symm).elim
  ·have L:Owns w ρ j (.vecU sz n f k e off u y t) l:=by
    rcases o with rfl|⟨q,A,m⟩
    ·exact ob
    ·exact P q l m
   exact(a1 (B.disj j i _ r l I G L V).symm).elim
  ·exact(a1 (B.disj j i _ r l I G (P h l o) V).symm).elim
  ·exact B.disj i W r Z l G N V K
theorem MemOk.closeU {F:Cells}{w:World}{ρ:Env}{Mine:Nat->Prop}{M:Mem}(u:MemOk F w ρ Mine M){j sz n k H off l t h kk:Nat}{f g:Nat->PVal}{e y:TypeId}{E:List (Nat×Nat)}
 (O:M.get j=some (.vecU sz n f k e off l y ((h,kk)::E))) (G:M.get kk=some (.vec l t g 0 y)) (hkk:(k=n/\H=k)\/(h=k/\H=k+1)):
 MemOk F w ρ Mine ((j,.vecU sz n (ozs f h off (.lst l t g)) H e off l y E)::(kk,.gone)::M):=by
 have P:j≠kk:=fun o=>by simp_all
 obtain⟨U,hkn,⟨_,hn0,hs0⟩|⟨b,cap,c,q1,q2,q3,q4,q5,q6,I,q8⟩⟩:=u.ok j _ O
 ·grind
 obtain⟨hhn,R⟩:=I.hole _ (List.mem_cons_self ..)
 have hfl:=I.len h hhn
 have s:(ozs f h off (.lst l t g) h).cells=(f h).cells.take off++[.lst l t g]++(f h).cells.drop (off+1):=by
  grind[ozs,Bz1,PVal.cells_scalar,PVal.scalar]
 have m:∀q,q≠h->ozs f h off (.lst l t g) q=f q:=fun q A=>by simp[ozs,A]
 have S:∀a,(ρ.vec kk).map (·.1)=some a->Owns w ρ kk (.vec l t g 0 y) a:=fun a h=>owns_vec.2 h
 have W:VecAt F w l t g 0 y (ρ.vec kk):=u.ok kk _ G
 have ob:Owns w ρ j (.vecU sz n f k e off l y ((h,kk)::E)) b:=.inl (by simp[bz4,q1])
 have oi:∀q a,InnU c sz n off k ((h,kk)::E) q a->Owns w ρ j (.vecU sz n f k e off l y ((h,kk)::E)) a:=fun q a h=>.inr ⟨b,n,cap,c,e,q,q1,q2,h⟩
 have J:∀q,q≠h->q<n->(q<H↔q<k):=by omega
 have hk2:H≤n:=by omega
 have C:∀q a,InnU c sz n off H E q a->(q≠h/\InnU c sz n off k ((h,kk)::E) q a)\/(q=h/\(ρ.vec kk).map (·.1)=some a):=by
  intro q a ⟨T,r2,r3,n2,Z,r4⟩
  by_cases A:q=h
  ·cases hz:ρ.vec kk<;>grind[jzp]
  ·exact .inl ⟨A,T,(J q A T).1 r2,by grind[Jzx],n2,Z,r4⟩
 have K:∀i r,Mem.get ((j,Res.vecU sz n (ozs f h off (.lst l t g)) H e off l y E)::(kk,.gone)::M) i=some r->
  (i=j/\r=.vecU sz n (ozs f h off (.lst l t g)) H e off l y E)\/(i=kk/\r=.gone)\/(i≠j/\i≠kk/\M.get i=some r):=by
  grind[Mem.get]
 have D:∀i r a,Mem.get ((j,Res.vecU sz n (ozs f h off (.lst l t g)) H e off l y E)::(kk,.gone)::M) i=some r->Owns w ρ i r a->
  (i=j/\(Owns w ρ j (.vecU sz n f k e off l y ((h,kk)::E)) a\/Owns w ρ kk (.vec l t g 0 y) a))\/(i≠j/\i≠kk/\M.get i=some r/\Owns w ρ i r a):=by
  grind[Owns,oz0,bz4]
 refine⟨fun i r hi=>?_,fun i r a hi hb'=>?_,fun i i' r r' a hi hi' hb1 hb2=>?_⟩
 ·rcases K i r hi with⟨rfl,rfl⟩|⟨rfl,rfl⟩|⟨d,X,N⟩
  ·refine⟨U,hk2,.inr ⟨b,cap,c,q1,q2,q3,q4,q5,q6,⟨fun q A=>?_,fun q jj p A Y x=>?_,fun q p A ho x=>?_,fun z hz=>I.hole z (List.mem_cons_of_mem _ hz),(List.nodup_cons.1 I.nodup).2,fun q q' a T r2=>?_⟩,fun q T=>?_⟩⟩
   ·by_cases o:q=h
    ·grind
    ·rw[m q o];exact I.len q A
   ·by_cases o:q=h
    ·subst o
     rw[s]at x
     have B:=kz1 (f q).cells [PVal.lst l t g] off jj (by grind)
     simp only[List.length_singleton]at B
     rw[B,if_neg (by omega)]at x
     exact I.cell q jj p A Y x
    ·rw[m q o]at x;exact I.cell q jj p A Y x
   ·by_cases o:q=h
    ·subst o
     rw[s]at x
     have B:=kz1 (f q).cells [PVal.lst l t g] off off (by simp;omega)
     simp only[List.length_singleton]at B
     rw[B,if_pos (by omega)]at x
     simp only[Nat.sub_self,List.getElem?_cons_zero,Option.some.injEq]at x
     subst x
     exact⟨_,R,Kzq _,fun _=>⟨_,t,g,rfl,rfl,W⟩,fun h=>by omega⟩
    ·rw[m q o]at x
     obtain⟨v,v1,v2,v3,v4⟩:=I.own q p A (by rw[Jzx,ho];simp[Ne.symm o]) x
     exact⟨v,v1,v2,fun G=>v3 ((J q o A).1 G),fun G=>v4 (Nat.le_of_not_lt fun h=>by omega)⟩
   ·rcases C q a T with⟨o,d⟩|⟨o,d⟩<;>rcases C q' a r2 with⟨e2,X⟩|⟨e2,X⟩
    ·exact I.inj q q' a d X
    ·exact(P (u.disj _ _ _ _ a O G (oi q a d) (S a X))).elim
    ·exact(P (u.disj _ _ _ _ a O G (oi q' a X) (S a d))).elim
    ·rw[o,e2]
   ·rcases C q b T with⟨_,d⟩|⟨_,d⟩
    ·exact q8 q d
    ·exact P (u.disj _ _ _ _ b O G ob (S b d))
  ·trivial
  ·exact u.ok i r N
 ·rcases D i r a hi hb' with⟨_,d|d⟩|⟨_,_,N,V⟩
  ·exact u.mine j _ _ O d
  ·exact u.mine kk _ _ G d
  ·exact u.mine i r a N V
 ·rcases D i r a hi hb1 with⟨o,d⟩|⟨a1,a2,N,V⟩<;>rcases D i' r' a hi' hb2 with⟨e2,h1'⟩|⟨a1',a2',L,Q⟩
  ·rw[o,e2]
  ·rcases d with d|d
   ·exact(a1' (u.disj j i' _ r' a O L d Q).symm).elim
   ·exact(a2' (u.disj kk i' _ r' a G L d Q).symm).elim
  ·rcases h1' with d|d
   ·exact(a1 (u.disj j i _ r a O N d V).symm).elim
   ·exact(a2 (u.disj kk i _ r a G N d V).symm).elim
  ·exact u.disj i i' r r' a N L V Q
variable {P:Program} {o:Oper} {env:Operand->AVal} {m:Mem} {id:Nat}
theorem az7y {t:TypeId}{x y:Operand}{out:Out}(J:o.op=.store t x y)(h:Xzo P t (env x) (env y) m=some out)(A:holds out.obl):Sound1 P o env m id out:=by cases (show none=some _ from h)
theorem Wza {t:TypeId}{len:Nat}{d:Array (Nat×Operand)}{out:Out}(G:o.op=.buildSlice t len d)(h:Gze P t len id env m d.toList=some out):Sound1 P o env m id out:=by cases (show none=some _ from h)
theorem azaq {e:TypeId}{k:Nat}{out:Out}(O:o.op=.alloc e)(h:az2k P k e id=some out):Sound1 P o env m id out:=by cases (show none=some _ from h)
variable {P:Program} {o:Oper} {env:Operand->AVal} {m:Mem} {id:Nat}
theorem azaz {t:TypeId}{x:Operand}{lo hi mx:Option Operand}{out:Out}(i:o.op=.slice t x lo hi mx)
 (h:az2l P t (env x) (lo.map env) (hi.map env) (mx.map env)=some out) (l:holds out.obl):Sound1 P o env m id out:=by cases (show none=some _ from h)
theorem az7s {s x:Operand}{l:Array TypeId}{out:Out}(ho:o.op=.call {callee:=.builtin .append,args:=#[s,x],argTypes:=l})
 (Y:∀t,l[0]?=some t->l[1]?=some t->l=#[t,t]) (h:Xzm P l id (env s) (env x) m=some out) (p:holds out.obl):Sound1 P o env m id out:=by cases (show none=some _ from h)
variable {P:Program} {o:Oper} {env:Operand->AVal} {m:Mem} {id:Nat}
theorem azay {t:TypeId}{x:Operand}{lo hi mx:Option Operand}{out:Out}(j:o.op=.slice t x lo hi mx)
 (h:Uzp P t (env x) (lo.map env) (hi.map env) (mx.map env)=some out):Sound1 P o env m id out:=by
 unfold Uzp at h
 split at h
 ·rename_i i d f g k
  split at h
  ·rename_i n e l
   split at h
   ·cases h
    refine Sound1.still fun F w ρ Mine M a _ _ c=>?_
    have b:=c x (by simp[j,Op.operands])
    rw[d]at b
    generalize p:a.eval x=v at b
    cases b with
    |ptr=>
     refine⟨.slice (some ⟨ρ.blk i,0,none⟩) n n,.value ?_,.bsl⟩
     simp_all[execOp,Instr.sliceAt,Instr.sliceBounds,Instr.sureAddr,run_underlying,cz3,ezl]
   grind
  grind
 grind
theorem Gz9 {k:Nat}{f:Nat->PVal}:∀ {g d:List AVal} {e:Nat},Az9 k f e g=some d->d.length=g.length/\
 ∀j,j<g.length->∃i a b,g[j]?=some (.pure (.int i b))/\f (e+j)=.int i a/\d[j]?=some (.pure (.int i (if e+j<k then a else b)))
 |[],d,e,h=>by
  grind[Az9]
 |c::l,d,e,h=>by
  unfold Az9 at h
  split at h
  ·rename_i n;cases n
  ·rename_i i b C n
   cases n
   split at h
   ·rename_i o a r t y
    split at h
    ·rename_i A;subst A
     cases h
     obtain⟨x,p⟩:=Gz9 y
     refine⟨by simp[x],fun j u=>?_⟩
     cases j with
     |zero=>exact⟨o,a,b,rfl,t,rfl⟩
     |succ j=>
      obtain⟨m,B,w,v,s,z⟩:=p j (by simpa using u)
      exact⟨m,B,w,by simpa using v,by rw[show ∀q:Nat,q+(j+1)=q+1+j from fun q=>by omega];exact s,by rw[show ∀q:Nat,q+(j+1)=q+1+j from fun q=>by omega];simpa using z⟩
    ·cases h
   ·cases h
  ·cases h
theorem azei {d s:Operand}{ts:Array TypeId}{out:Out}(ho:o.op=.call {callee:=.builtin .copy,args:=#[d,s],argTypes:=ts})(hts:ts.size=2)
 (h:az0i P ts (env d) (env s) m=some out):Sound1 P o env m id out:=by
 have hop:d∈o.op.operands/\s∈o.op.operands:=by simp[ho,Op.operands,Call.operands]
 unfold az0i at h
 split at h
 ·rename_i i n k f t hd hs ht
  split at h
  ·rename_i cs e hi hu
   split at h
   ·rename_i cs' hcc
    split at h
    ·rename_i hc
     simp only[Bool.and_eq_true,decide_eq_true_eq]at hc
     obtain⟨hn,hsz⟩:=hc
     cases h
     obtain⟨c1,c2⟩:=Gz9 hcc
     rw[List.length_take,Nat.min_eq_left hn]at c1 c2
     have c2:∀j,j<n->∃kd a b,cs[j]?=some (.pure (.int kd b))/\f (0+j)=.int kd a/\cs'[j]?=some (.pure (.int kd (if 0+j<k then a else b))):=fun j hj=>by
      obtain⟨kd,a,b,q1,q2,q3⟩:=c2 j hj
      exact⟨kd,a,b,by rw[List.getElem?_take_of_lt hj]at q1;exact q1,q2,q3⟩
     obtain⟨t2,rfl⟩:∃t2,ts=#[t,t2]:=by
      refine⟨ts[1]'(by omega),Array.ext (by simpa using hts) fun q hq _=>?_⟩
      have hq2:q<2:=by omega
      match q,hq2 with
      |0,_=>simpa[Array.getElem?_eq_getElem (show 0<ts.size by omega)]using ht
      |1,_=>simp
     intro F w ρ Mine M a hm g fr hrd hfe ha
     have hM:=(hrd i (by simp)).trans hi
     obtain⟨c,e',hb,hl,hnF,hrel⟩:=Nzx hm hM
     have hmine:=hm.mine i _ _ hM (.inl rfl)
     have ad:=ha d hop.1
     have as:=ha s hop.2
     rw[hd]at ad
     rw[hs]at as
     have as:=as.pure_inv
     obtain⟨inf,hinf,hisz⟩:=izf hsz
     have hs1:(P.info? e).map (·.size)=some 1:=by rw[hinf];simp[hisz]
     obtain⟨vs,hvl,hv1,hvr,hrun⟩:∃vs:List Value,vs.length=Nat.min k n/\(∀v∈vs,v.oneCell'=true)/\(∀j kd x,j<Nat.min k n->f j=.int kd x->vs[j]?=some (.int kd x))/\
      (Builtin.copy_ #[t,t2] o.type #[a.eval d,a.eval s]).run P w=.ok (goInt vs.length) (w.setRow (ρ.blk i) (c.toList.take 0++vs++c.toList.drop (0+vs.length)).toArray):=by
      generalize hv:a.eval d=v at ad
      cases ad with
      |bsl=>
       rcases as.lst_inv with⟨hv2,hn0⟩|⟨adr,cap,hv2,hn0,hcm⟩|⟨b,off,cap,cc,hv2,hnc,hcm,hsz',hcl,hr⟩
       ·subst hn0
        refine⟨[],by simp[Nat.min_def],by simp,fun j kd x hj=>by simp[Nat.min_def]at hj,?_⟩
        rw[hv2,run_copy_nil P w t t2 o.type e _ n n hu (by rw[hs1];rfl)]
        have:(c.toList.take 0++([]:List Value)++c.toList.drop (0+([]:List Value).length)).toArray=c:=by simp
        rw[this,setRow_self w _ c e' (0,0) hb];rfl
       ·subst hn0
        have hz:Nat.min 0 n=0:=by simp[Nat.min_def]
        refine⟨[],by rw[hz];rfl,by simp,fun j kd x hj=>by rw[hz]at hj;omega,?_⟩
        rw[hv2]
        exact run_copy_row (P:=P) w t t2 o.type e (ρ.blk i) 0 n n adr 0 cap c e' [] hu hs1 hb (by rw[hz];rfl) (fun j v h=>by simp at h) (by simp) (by simp)
       ·have hmin:Nat.min k n≤k:=Nat.min_le_left _ _
        have hmin2:Nat.min k n≤n:=Nat.min_le_right _ _
        have cell:∀j,j<Nat.min k n->∃kd x,f j=.int kd x/\w.cell? ⟨b,off+j,none⟩=some (.int kd x):=by
         intro j hj
         obtain⟨kd,x,b',q1,q2,q3⟩:=c2 j (by omega)
         rw[Nat.zero_add]at q2
         have hp:(f j).cells[0]?=some (f j):=by rw[q2];rfl
         have h1:=(hcl j 0 _ (by omega) hp).2.1
         have h2:=hr j 0 _ (by omega) hp
         rw[q2]at h2
         have h3:=h2.int_inv
         simp only[Nat.mul_one,Nat.add_zero]at h1 h3
         exact⟨kd,x,q2,by rw[h1,h3]⟩
        refine⟨(List.range (Nat.min k n)).map cc,by simp,?_,?_,?_⟩
        ·intro v hv
         obtain⟨j,hj,rfl⟩:=List.mem_map.1 hv
         have hj:=List.mem_range.1 hj
         obtain⟨kd,x,b',q1,q2,q3⟩:=c2 j (by omega)
         rw[Nat.zero_add]at q2
         have hp:(f j).cells[0]?=some (f j):=by rw[q2];rfl
         have:=(hcl j 0 _ (by omega) hp).2.2
         simpa using this
        ·intro j kd x hj hf
         have hp:(f j).cells[0]?=some (f j):=by rw[hf];rfl
         have h2:=hr j 0 _ (by omega) hp
         rw[hf]at h2
         have h3:=h2.int_inv
         simp only[Nat.mul_one,Nat.add_zero]at h3
         simp[hj,h3]
        ·rw[hv2]
         refine run_copy_row (P:=P) w t t2 o.type e (ρ.blk i) 0 n n ⟨b,off,none⟩ k cap c e' _ hu hs1 hb (by simp) (fun j v h=>?_) (by simp;omega) ?_
         ·obtain⟨hj,rfl⟩:j<Nat.min k n/\v=cc j:=by
           rw[List.getElem?_map]at h
           by_cases hj:j<Nat.min k n
           ·simp[hj]at h;exact⟨hj,h.symm⟩
           ·simp[hj]at h
          obtain⟨kd,x,b',q1,q2,q3⟩:=c2 j (by omega)
          rw[Nat.zero_add]at q2
          have hp:(f j).cells[0]?=some (f j):=by rw[q2];rfl
          have h1:=(hcl j 0 _ (by omega) hp).2.1
          simp only[Nat.mul_one,Nat.add_zero]at h1
          rw[ezl];exact h1
         ·intro v hv
          obtain⟨j,hj,rfl⟩:=List.mem_map.1 hv
          have hj:=List.mem_range.1 hj
          obtain⟨kd,x,b',q1,q2,q3⟩:=c2 j (by omega)
          rw[Nat.zero_add]at q2
          have hp:(f j).cells[0]?=some (f j):=by rw[q2];rfl
          have:=(hcl j 0 _ (by omega) hp).2.2
          simpa using this
     have hvn:vs.length≤c.toList.length:=by
      have:Nat.min k n≤n:=Nat.min_le_right k n
      simp;omega
     have hran:Ran P o a w (goInt vs.length) (w.setRow (ρ.blk i) (c.toList.take 0++vs++c.toList.drop (0+vs.length)).toArray):=by
      refine .value ?_
      simp only[execOp,ho,resolve,Sem.run_bind,Sem.run_pure,Result.andThen_ok,invoke,builtin,List.map_toArray,List.map_cons,List.map_nil,hrun]
     have st:Step Mine F w F (w.setRow (ρ.blk i) (c.toList.take 0++vs++c.toList.drop (0+vs.length)).toArray):=
      Step.write g hb hmine.1 (fun o h=>absurd h (hnF o))
     refine⟨_,_,F,ρ,hran,st,fun _ _=>⟨rfl,rfl⟩,by rw[hvl];exact .pure .int,?_⟩
     refine MemOk.step hm st (fun _=>True) (fun _ _=>⟨rfl,rfl⟩) [(i,_)] (fun j r h hn=>⟨trivial,fun k hk=>absurd trivial hk,fun b hbj=>⟨?_,fun _ h=>h⟩⟩) (fun j r h=>?_) (fun j j' r r' b h h' _ _=>?_)
     ·refine setRow_other w _ b _ (fun e=>?_)
      subst e
      have:=hm.disj i j _ r _ hM h (.inl rfl) hbj
      subst this
      simp[Mem.get]at hn
     ·simp only[Mem.get]at h
      split at h
      ·rename_i e1;subst e1;cases h
       refine⟨⟨_,e',setRow_heap w _ c _ e' _ hb,by simp at hvn⊢;omega,hnF,fun j b v hb' hv=>?_⟩,fun b hbb=>⟨?_,?_,fun k r' hk hn hbk=>?_⟩⟩
       ·by_cases hjl:j<n
        rotate_left
        ·have hj2:cs[j]?=some b:=by
          rw[List.getElem?_append_right (by omega),List.getElem?_drop,c1,Nat.add_sub_cancel' (by omega)]at hb'
          exact hb'
         have hvl2:vs.length≤n:=by rw[hvl];exact Nat.min_le_right k n
         rw[List.getElem?_toArray,kz1 _ _ _ _ (by omega),if_neg (by omega)]at hv
         have:=hrel j _ v hj2 (by simpa using hv)
         have st':=st
         simp only[Nat.zero_add]at st'⊢
         exact⟨this.1.mono' st'.sub st'.cell,this.2⟩
        obtain⟨kd,x,y,q1,q2,q3⟩:=c2 j hjl
        rw[List.getElem?_append_left (by omega),q3]at hb'
        cases hb'
        rw[List.getElem?_toArray,kz1 _ _ _ _ (by omega)]at hv
        simp only[Nat.zero_add]at q2 hv⊢
        by_cases hjk:j<vs.length
        ·rw[if_pos (by omega),Nat.sub_zero]at hv
         have hjk':j<k:=by have:Nat.min k n≤k:=Nat.min_le_left k n;omega
         rw[hvr j kd x (by omega) q2]at hv
         cases hv
         rw[if_pos hjk']
         exact⟨.pure .int,rfl⟩
        ·rw[if_neg (by omega)]at hv
         have hjk':¬j<k:=fun hh=>hjk (by rw[hvl];exact Nat.lt_min.2 ⟨hh,by omega⟩)
         rw[if_neg hjk']
         have:=hrel j _ v q1 (by simpa using hv)
         have st':=st
         simp only[Nat.zero_add]at st'
         exact⟨this.1.mono' st'.sub st'.cell,this.2⟩
       ·cases hbb.resolve_right (fun h=>h);exact hmine.1
       ·cases hbb.resolve_right (fun h=>h);simpa using hmine.2
       ·cases hbb.resolve_right (fun h=>h)
        have:=hm.disj i k _ r' _ hM hk (.inl rfl) hbk
        subst this
        simp[Mem.get]at hn
      ·cases h
     ·simp only[Mem.get]at h h'
      split at h
      ·split at h'
       ·rename_i e1 e2;exact e1.symm.trans e2
       ·cases h'
      ·cases h
    ·cases h
   ·cases h
  ·cases h
 ·cases h
theorem azgf {x:Operand}{d:Array TypeId}{out:Out}(g:o.op=.call {callee:=.builtin .len,args:=#[x],argTypes:=d})(h:az5s P d (env x)=some out):Sound1 P o env m id out:=by
 have b:x∈o.op.operands:=by grind[Op.operands,Call.operands]
 unfold az5s at h
 split at h
 ·rename_i i sz lo n t f j
  split at h
  ·cases h
   refine Sound1.still fun F w ρ Mine M a _ _ e=>⟨.int .i64 n,Cz6 g ?_,.pure .int⟩
   have c:=f▸e x b
   generalize a.eval x=u at c⊢
   cases c<;>simp_all[Builtin.len_,run_underlying,goInt]
  grind
 grind
theorem Zzf {t:TypeId}{x i:Operand}{out:Out}(d:o.op=.indexAddr t x i)(h:Azh P t (env x) (env i)=some out)(j:holds out.obl):Sound1 P o env m id out:=by
 unfold Azh at h
 split at h
 ·rename_i k sz lo n v r A hi
  split at h
  ·rename_i e z
   split at h
   ·cases h
    obtain⟨B,D⟩:=j
    refine Sound1.still fun F w ρ Mine M a _ _ q=>?_
    have g:a.eval i=.int v r:=(hi▸q i (by simp[d,Op.operands])).pure_inv.int_inv
    have f:=q x (by simp[d,Op.operands])
    rw[A]at f
    generalize l:a.eval x=u at f
    cases f with
    |viewN p y=>omega
    |@view _ _ _ _ b E cap C p s c=>
     have c:=c (.inl (by omega))
     refine⟨.pointer (some ⟨b,(lo+r.toNat) * sz+0,none⟩),.value ?_,.eptr p⟩
     simp only[execOp,d,Instr.indexAt,Sem.run_bind,g,l,asIntOf,Sem.run_pure,Result.andThen_ok,run_underlying z]
     simp_all[cz3,ezl,Nat.add_mul]
   grind
  grind
 grind
theorem az7x {t:TypeId}{x:Operand}{lo hi mx:Option Operand}{out:Out}(ho:o.op=.slice t x lo hi mx)
 (h:Ozk P t (env x) (lo.map env) (hi.map env) (mx.map env) m=some out) (N:holds out.obl):Sound1 P o env m id out:=by
 unfold Ozk at h
 split at h
 ·rename_i k sz j n Y hx
  have J:x∈o.op.operands:=by simp[ho,Op.operands]
  have G:∀y,lo=some y->y∈o.op.operands:=fun y s=>by grind[Op.operands]
  have O:∀y,hi=some y->y∈o.op.operands:=fun y s=>by grind[Op.operands]
  split at h
  ·rename_i e sz2 n2 f2 k2 e2 l B hu K X Q
   split at h
   ·cases h
    obtain⟨Z,h1,h2⟩:=N
    refine Sound1.still fun F w ρ Mine M a hm S H=>?_
    have L:=kzv (F:=F) (w:=w) (ρ:=ρ) (a:=a) X (fun y s=>H y (G y s))
    have R:=kzv (F:=F) (w:=w) (ρ:=ρ) (a:=a) Q (fun y s=>H y (O y s))
    have g:(lo.map a.eval=none/\l=0)\/∃k,lo.map a.eval=some (.int k l):=L.imp (fun h=>⟨by grind,by omega⟩) (fun h=>h)
    have v:(hi.map a.eval=none/\B=n)\/∃k,hi.map a.eval=some (.int k B):=R.imp (fun h=>⟨by grind,h.2⟩) (fun h=>h)
    have hM:=(S k (by simp)).trans K
    obtain⟨_,C⟩:=hm.ok k _ hM
    have q:=hx▸H x J
    generalize hv:a.eval x=u at q
    cases q with
    |viewN d p=>
     subst p
     obtain rfl:l=0:=by omega
     obtain rfl:B=0:=by omega
     refine⟨.slice none 0 0,.value ?_,.viewN d (by simp)⟩
     have T:=hz6 (P:=P) (w:=w) (isS:=true) (len:=0) (cap:=0) (lo:=lo.map a.eval) (hi:=hi.map a.eval) g (by omega) (Int.le_refl _) (Int.le_refl _) (by omega)
     simp_all[execOp,Instr.sliceAt,Instr.slice,run_underlying,cz3]
    |@view _ _ _ _ b n0 cap A z hle U=>
     rcases C with⟨d,p⟩|⟨b',V,c,r,q2,q3,q4,q5,q6,q7,q8⟩
     ·simp_all
     ·rw[z]at r
      cases r
      have T:=hz6 (P:=P) (w:=w) (isS:=true) (len:=n) (cap:=cap-j) (lo:=lo.map a.eval) (hi:=hi.map a.eval) g v Z h1 (by omega)
      have f:∀i,(if cap-j=l.toNat then some A else(some A).map (·.add (l.toNat * sz)))=some i->Ran P o a w (.slice (some i) (B.toNat-l.toNat) (cap- (j+l.toNat))) w:=by
       intro i W
       refine .value ?_
       simp_all[Nat.sub_sub,execOp,Instr.sliceAt,Instr.slice,run_underlying,cz3]
      by_cases D:cap-j=l.toNat
      ·refine⟨_,f A (by simp_all),.view z (by omega) (fun h=>?_)⟩
       grind
      ·by_cases E:j+l.toNat<n2\/j+l.toNat=0
       ·have I:=U (by omega)
        subst I
        exact⟨_,f _ (by rw[if_neg D,Option.map_some,ezl]),.view z (by omega) (fun _=>by grind)⟩
       ·exact⟨_,f (A.add (l.toNat * sz)) (by simp_all),.view z (by omega) (fun h=>absurd h E)⟩
   grind
  grind
 grind
variable {P:Program} {o:Oper} {env:Operand->AVal} {m:Mem} {id:Nat}
theorem az7t {s x:Operand}{b:Array TypeId}{out:Out}(R:o.op=.call {callee:=.builtin .append,args:=#[s,x],argTypes:=b})
 (E:∀t,b[0]?=some t->b[1]?=some t->b=#[t,t]) (h:Xzn P b id s (env s) (env x) m=some out) (H:holds out.obl):Sound1 P o env m id out:=by cases (show none=some _ from h)
theorem azb0 {t:TypeId}{x:Operand}{lo hi mx:Option Operand}{out:Out}(L:o.op=.slice t x lo hi mx)
 (h:az2m P t (env x) (lo.map env) (hi.map env) (mx.map env) m=some out) (C:holds out.obl):Sound1 P o env m id out:=by cases (show none=some _ from h)
variable {P:Program} {o:Oper} {env:Operand->AVal} {m:Mem} {id:Nat}
theorem azae (w:World)(op:BinOp)(t:TypeId)(x y:Operand)(p q:Option Addr):(eqGuard op t x y (.pointer p) (.pointer q)).run P w=.ok () w:=by
 unfold eqGuard
 cases op<;>simp
theorem azhd {op:BinOp}{t t':TypeId}{x y:Operand}{out:Out}(ho:o.op=.binOp op t x y t')(h:azd8 P op t (env x) y=some out):Sound1 P o env m id out:=by
 unfold azd8 at h
 split at h
 ·rename_i e hu
  have hp:P.underlying t=some (.pointer (P.pointee t)):=by simp[Program.pointee,hu]
  have hop:x∈o.op.operands:=by simp[ho,Op.operands]
  split at h
  all_goals first
   |(cases h;done)
   |(rename_i hx
     cases h
     refine Sound1.still fun F w ρ Mine M a _ _ ha=>?_
     have ax:=ha x hop
     rw[hx]at ax
     generalize hv:a.eval x=v at ax
     cases ax
     refine⟨_,.value (by rw[execOp,ho];simp only[hv,show a.eval (.const (.pointer none))=.pointer none from rfl,Sem.run_bind,azae,run_eql_pointer_nil _ _ _ hp,run_neq_pointer_nil _ _ _ hp,Result.andThen_ok,Sem.run_pure];rfl),?_⟩
     first|exact .tt|exact .ff)
 ·cases h
theorem az9r {k:IntKind}:∀ (ps:List PVal) (l:List Int),Lz4 k ps=some l->∀j,j<l.length->ps[j]?=some (.int k (l.getD j 0)):=by
 intro ps
 induction ps with
 |nil=>intro l h j hj;simp[Lz4]at h;subst h;simp at hj
 |cons p ps ih=>
  intro l h j hj
  cases p<;>simp only[Lz4]at h<;>try cases h
  split at h
  ·rename_i hk;subst hk
   split at h
   ·rename_i r hr
    cases h
    cases j with
    |zero=>simp
    |succ j=>simpa using ih r hr j (by simpa using hj)
   ·cases h
  ·cases h
theorem Zzd {t:TypeId}{x i:Operand}{out:Out}(ho:o.op=.indexAddr t x i)(h:Azf P t (env x) (env i)=some out)(hob:holds out.obl):Sound1 P o env m id out:=by
 unfold Azf at h
 split at h
 ·rename_i cs ik iv hx hi
  split at h
  ·rename_i len e hu
   split at h
   ·split at h
    ·rename_i k l hl
     cases h
     obtain⟨h0,hn⟩:=hob
     unfold az2r at hl
     split at hl
     ·rename_i k' hk hs1
      split at hl
      ·rename_i l' hl'
       split at hl
       ·rename_i hlen
        cases hl
        refine Sound1.still fun F w ρ Mine M a _ _ ha=>?_
        have hiv:=(hi▸ha i (by simp[ho,Op.operands])).pure_inv.int_inv
        have h1:=ha x (by simp[ho,Op.operands])
        rw[hx]at h1
        generalize hu':a.eval x=u at h1
        cases h1 with
        |@ref _ b off hp=>
         obtain⟨c,hc⟩:=hp
         have hg:=az9r cs l hl' iv.toNat (by omega)
         refine⟨.pointer (some ⟨b,off+iv.toNat,none⟩),.value ?_,.ref ⟨fun j=>c (iv.toNat+j),fun j q hq=>?_⟩⟩
         ·simp only[execOp,ho,Instr.indexAt,Sem.run_bind,hiv,hu',asIntOf,Sem.run_pure,Result.andThen_ok,run_underlying hu,Instr.sureAddr]
          simp[h0,hn,cz3 hs1,ezl]
         ·cases j with
          |zero=>
           simp only[PVal.cells,List.getElem?_cons_zero,Option.some.injEq]at hq
           subst hq
           exact hc iv.toNat _ hg
          |succ j=>simp[PVal.cells]at hq
       ·cases hl
      ·cases hl
     ·cases hl
    ·cases h
   ·cases h
  ·cases h
 ·cases h
theorem azb1 {t:TypeId}{x:Operand}{lo hi mx:Option Operand}{out:Out}(ho:o.op=.slice t x lo hi mx)
 (h:Uzq P t (env x) (lo.map env) (hi.map env) (mx.map env) m=some out) (hob:holds out.obl):Sound1 P o env m id out:=by
 unfold Uzq at h
 split at h
 ·rename_i i ik hh hx hlo hhi hmx
  simp only[Option.map_eq_none_iff]at hlo hmx
  subst hlo;subst hmx
  obtain⟨y,rfl,hy⟩:=Option.map_eq_some_iff.1 hhi
  split at h
  ·rename_i n e cs hu hcs
   split at h
   ·rename_i ps hps
    split at h
    ·rename_i hc
     simp only[Bool.and_eq_true,decide_eq_true_eq]at hc
     obtain⟨⟨⟨hs,hn⟩,hn60⟩,hsc⟩:=hc
     cases h
     obtain⟨h0,h1⟩:=hob
     intro F w ρ Mine M a hm g fr hrd hfe ha
     have hM:=(hrd i (by simp)).trans hcs
     obtain⟨c,e',hb,hl,hnF,hrel⟩:=Nzx hm hM
     obtain⟨p1,p2⟩:=kzr hps
     have hmine:=hm.mine i _ _ hM (.inl rfl)
     have hyv:=(hy▸ha y (by simp[ho,Op.operands])).pure_inv.int_inv
     have ax:=ha x (by simp[ho,Op.operands])
     rw[hx]at ax
     have hxv:a.eval x=.pointer (some ⟨ρ.blk i,0,none⟩):=by generalize a.eval x=v at ax;cases ax;rfl
     have st:Step Mine F w (fun b o=>F b o\/b=ρ.blk i) w:=⟨fun _ _ h=>.inl h,fun _ _ _=>rfl,fun b o h=>h.elim .inl (fun (e:b=ρ.blk i)=>.inr (e▸hmine.1)),fun b o h=>h.elim (g.lt b o) (fun (e:b=ρ.blk i)=>e▸hmine.2),Keep.refl _ _⟩
     have hlen:hh.toNat≤n:=by omega
     have hps1:∀j p,j<hh.toNat->(lget ps j).cells[0]?=some p->ps[j]?=some p/\p.scalar=true:=by
      intro j p hj hp
      have hjl:j<ps.length:=by omega
      have e1:lget ps j=ps[j]:=by simp[lget,hjl]
      have hsj:ps[j].scalar=true:=List.all_eq_true.1 hsc _ (List.getElem_mem hjl)
      rw[e1]at hp
      have:ps[j].cells=[ps[j]]:=by cases hq:ps[j]<;>first|rfl|(rw[hq]at hsj;cases hsj)
      rw[this]at hp
      simp at hp;subst hp
      exact⟨List.getElem?_eq_getElem hjl,hsj⟩
     have hone:∀j,j<hh.toNat->(lget ps j).cells.length=1:=by
      intro j hj
      have hjl:j<ps.length:=by omega
      have e1:lget ps j=ps[j]:=by simp[lget,hjl]
      have hsj:ps[j].scalar=true:=List.all_eq_true.1 hsc _ (List.getElem_mem hjl)
      rw[e1]
      cases hq:ps[j]<;>first|rfl|(rw[hq]at hsj;cases hsj)
     have hcell:∀j q p,j<hh.toNat->(lget ps j).cells[q]?=some p->q=0/\∃v,c[j]?=some v/\v.oneCell'=true/\PRel F w p v:=by
      intro j q p hj hp
      have hq0:q=0:=by have:=(List.getElem?_eq_some_iff.1 hp).1;rw[hone j hj]at this;omega
      subst hq0
      obtain⟨r1,r2⟩:=hps1 j p hj hp
      obtain⟨b,b1,b2⟩:=p2 j p r1
      have hjc:j<c.size:=by rw[hl,hn];omega
      have hv:=hrel j b c[j] b1 (Array.getElem?_eq_getElem hjc)
      exact⟨rfl,c[j],Array.getElem?_eq_getElem hjc,hv.2,hv.1.toP b2⟩
     refine⟨.slice (some ⟨ρ.blk i,0,none⟩) hh.toNat n,w,fun b o=>F b o\/b=ρ.blk i,ρ,.inl ?_,st,fun _ _=>⟨rfl,rfl⟩,.pure (.sl (fun q=>c.getD q undef) hlen (by unfold maxLen;omega) hone (fun j q p hj hp=>?_) (fun j q p hj hp=>?_)),?_⟩
     ·simp only[execOp,ho,Instr.sliceAt,Instr.sliceBounds,Instr.sliceBound,Instr.sureAddr,h0,h1,and_self,if_true,Sem.run_bind,run_underlying hu,Result.andThen_ok,hxv,hyv,asIntOf,Option.map_none,Option.map_some,cz3 hs,Sem.run_pure]
      simp[h0,h1,ezl]
     ·obtain⟨rfl,v,v1,v2,v3⟩:=hcell j q p hj hp
      have hjc:=(Array.getElem?_eq_some_iff.1 v1).1
      refine⟨.inr rfl,?_,?_⟩
      ·have:=cell_of_row w (ρ.blk i) (0+(j * 1+0)) c e' _ hb
       simpa[v1,hjc]using this
      ·simpa[Array.getD,hjc,(Array.getElem?_eq_some_iff.1 v1).2]using v2
     ·obtain⟨rfl,v,v1,v2,v3⟩:=hcell j q p hj hp
      have hjc:=(Array.getElem?_eq_some_iff.1 v1).1
      have:=v3.mono (F':=fun b o=>F b o\/b=ρ.blk i) (f:=w) (fun _ _ h=>.inl h) (fun _ _ _=>rfl)
      simpa[Array.getD,hjc,(Array.getElem?_eq_some_iff.1 v1).2]using this
     ·refine hm.step st (fun _=>True) (fun _ _=>⟨rfl,rfl⟩) [(i,.gone)] (fun j r hj hw=>⟨trivial,fun _ h=>absurd trivial h,fun b hbb=>⟨rfl,fun q hq=>?_⟩⟩) (fun j r hj=>?_) (fun j j' r r' b hj hj' hbb _=>?_)
      ·rcases hq with hq|rfl
       ·exact hq
       ·have:=hm.disj j i r _ _ hj hM hbb (.inl rfl)
        subst this
        simp[Mem.get]at hw
      ·simp only[Mem.get]at hj
       split at hj
       ·cases hj;exact⟨trivial,fun b hbb=>by simp[Owns,oz0,bz4]at hbb⟩
       ·cases hj
      ·simp only[Mem.get]at hj
       split at hj
       ·cases hj;simp[Owns,oz0,bz4]at hbb
       ·cases hj
    ·cases h
   ·cases h
  ·cases h
 ·cases h
variable {P:Program} {o:Oper} {env:Operand->AVal} {m:Mem} {id:Nat}
theorem Zzx {n:Int}(a: -9223372036854775808≤n)(b:n≤9223372036854775807):IntKind.i64.wrap n=n:=by
 grind[IntKind.wrap,IntKind.bits,IntKind.signed]
theorem Rzv {F:Cells}{w:World}{ρ:Env}{Mine:Nat->Prop}{M:Mem}(C:MemOk F w ρ Mine M)(g:Good F w Mine)(fr:Fresh id M){t e:TypeId}{sz a:Nat}{z:List Value}{ps:List PVal}{p:PVal}{l c:Int}
 (hu:P.underlying t=some (.slice e)) (hs:bz9 P e=some sz) (N:Czm P e=some a) (hz:ozl P e=some z) (hzl:z.length=sz) (u:allP (z.map fzk)=some ps) (E:ps.all (·.scalar)=true)
 (hpc:p.cells=ps) (h0:0≤l) (h1:l≤c) (h2:c≤9223372036854775807) (h3:c * a≤140737488355328):
 ∃v B F' ρ',(Instr.makeSlice t (.int .i64 l) (.int .i64 c)).run P w=.ok v B/\Step Mine F w F' B/\dz3 id ρ ρ'/\ARel F' B ρ' (.vec id) v/\MemOk F' B ρ' Mine ([(id,.vec sz l.toNat (fun _=>p) 0 e)]++M):=by
 obtain⟨i,X,hi,hzv,hzz⟩:=nzh hz
 obtain⟨i',y,V⟩:=uz0 N
 rw[hi]at y;cases y
 have D:=Zzx (n:=l) (by omega) (by omega)
 have L:=Zzx (n:=c) (by omega) (by omega)
 have hbc:¬ (281474976710656<(a:Int) * c):=by grind
 obtain⟨A,hA⟩:∃A:Array Value,A=(Array.range (c.toNat * sz)).map (fun x=>X.cells[x % X.cells.size]!):=⟨_,rfl⟩
 have f:(Instr.makeSlice t (.int .i64 l) (.int .i64 c)).run P w=.ok (.slice (some ⟨w.heap.size,0,none⟩) l.toNat c.toNat) (w.alloc (.cells A e)):=by
  have Q:¬l<0:=by omega
  have R:¬l>c:=by omega
  have J:¬c<0:=by omega
  have k:¬ (a:Int) * c>2 ^ 48:=by omega
  simp only[Instr.makeSlice,Sem.run_bind,run_underlying hu,Result.andThen_ok,asInt,asIntOf,Sem.run_pure,typeInfo,run_program,hi,D,L,V,cz3 hs,
   J,Q,R,k,decide_false,Bool.or_false,Bool.false_eq_true,if_false,run_askRoom]
  by_cases hn:c.toNat * sz=0
  ·have K:A=#[]:=by simp_all
   have e0:(Array.range 0:Array Nat)=#[]:=by decide
   simp only[hn,newRow,Sem.run_bind,run_newObj,Sem.run_pure,Result.andThen_ok,K,e0,List.map_toArray,List.map_nil]
   rfl
  simp_all[newRow,zeroValue,typeInfo]
 have d:A.size=c.toNat * sz:=by simp_all
 have H:∀ (q j:Nat) (x:PVal),q<c.toNat->ps[j]?=some x->∃v,A[q * sz+j]?=some v/\v.oneCell'=true/\PRel F (w.alloc (.cells A e)) x v:=by
  intro q j x I T
  obtain⟨hl1,U⟩:=kzr u
  obtain⟨aa,m,W⟩:=U j x T
  simp only[List.getElem?_map,Option.map_eq_some_iff]at m
  obtain⟨v,O,rfl⟩:=m
  have hr:=(izj (F:=F) (w:=w.alloc (.cells A e)) (ρ:=ρ) v).toP W
  refine⟨v,?_,hr.one (List.all_eq_true.1 E x (List.mem_of_getElem? T)),hr⟩
  grind[wzs,Nat.mul_comm,Nat.mul_add_mod,Nat.mod_eq_of_lt]
 have st:Step Mine F w F (w.alloc (.cells A e)):=by
  have s:=Step.alloc g (.cells A e) (fun _=>False)
  simp_all
 have O:(ρ.setVec id (some (w.heap.size,l.toNat,c.toNat))).vec id=some (w.heap.size,l.toNat,c.toNat):=if_pos rfl
 have hpl:ps.length=sz:=by have:=(kzr u).1;simp_all
 have Z:=C.newVec fr st (some (w.heap.size,l.toNat,c.toNat)) [] sz l.toNat 0 (fun _=>p) e
  ⟨Nat.zero_le _,.inr ⟨w.heap.size,c.toNat,A,O,heap_alloc_new w _,by omega,by grind[maxLen],d,fun o hF=>absurd (g.lt _ _ hF) (by omega),fun _ _=>by simp_all,fun q j x I T=>H q j x (by omega) (by simp_all)⟩⟩
  (fun b Y=>by
   simp at Y;subst Y
   exact⟨g.mine _ (Nat.le_refl _),by simp,fun q r' I _ G=>absurd (C.mine q r' _ I G).2 (by omega)⟩)
  (fun j r b hj _ S=>⟨heap_alloc_old w _ (C.mine j r b hj S).2,fun _ h=>h⟩)
 exact⟨_,_,F,_,f,st,cz0 ρ id _,.vec O,by simp_all⟩
theorem Qzf {t:TypeId}{x y:Operand}{out:Out}(s:o.op=.makeSlice t x y)(h:wzv P t id (env x) (env y)=some out)(d:holds out.obl):Sound1 P o env m id out:=by
 unfold wzv at h
 split at h
 ·rename_i l c B A
  split at h
  ·rename_i e I
   split at h
   ·rename_i sz b z H j u
    split at h
    ·rename_i n
     split at h
     ·rename_i ps q
      split at h
      ·rename_i k
       have f:∀ (p:PVal),p.cells=ps->(0≤l/\l≤c/\c≤9223372036854775807/\c * b≤140737488355328)->
        Sound1 P o env m id ⟨.vec id,[],[(id,.vec (sz+1) l.toNat (fun _=>p) 0 e)],some (0≤l/\l≤c/\c≤9223372036854775807/\c * b≤140737488355328)⟩:=by
        intro p L i F w ρ Mine M a N g K _ _ r
        obtain⟨v,G,F',ρ',Q,E,C,D,J⟩:=Rzv (P:=P) N g K I H j u n q k L i.1 i.2.1 i.2.2.1 i.2.2.2
        have O:=(B▸r x (by simp[s,Op.operands])).pure_inv.int_inv
        have R:=(A▸r y (by simp[s,Op.operands])).pure_inv.int_inv
        exact⟨v,G,F',ρ',.value (by grind[execOp,Sem.run_bind,Result.andThen_ok,Sem.run_pure]),E,C,D,J⟩
       split at h
       ·cases h;exact f (.agg ps) rfl d
       ·split at h
        ·rename_i p
         cases h
         exact f p (PVal.cells_scalar (by simp_all)) d
        grind
       grind
      grind
     grind
    grind
   grind
  grind
 grind
theorem Vz9 {w:World}{t e:TypeId}{sz a:Nat}{z:List Value}{l c:Int}
 (y:P.underlying t=some (.slice e)) (E:bz9 P e=some sz) (f:Czm P e=some a) (F:ozl P e=some z) (u:z.length=sz) (N:0≤l) (J:l≤c) (K:c≤9223372036854775807) (O:c * a≤140737488355328):
 ∃A:Array Value,(Instr.makeSlice t (.int .i64 l) (.int .i64 c)).run P w=.ok (.slice (some ⟨w.heap.size,0,none⟩) l.toNat c.toNat) (w.alloc (.cells A e))/\A.size=c.toNat * sz/\
  ∀ (q j:Nat) (v:Value),q<c.toNat->z[j]?=some v->A[q * sz+j]?=some v:=by
 obtain⟨i,s,hi,H,B⟩:=nzh F
 obtain⟨M,b,p⟩:=uz0 f
 rw[hi]at b;cases b
 have g:=Zzx (n:=l) (by omega) (by omega)
 have o:=Zzx (n:=c) (by omega) (by omega)
 have G:¬ (281474976710656<(a:Int) * c):=by grind
 obtain⟨A,Q⟩:∃A:Array Value,A=(Array.range (c.toNat * sz)).map (fun x=>s.cells[x % s.cells.size]!):=⟨_,rfl⟩
 refine⟨A,?_,by simp_all,fun q j v I L=>?_⟩
 ·have m:¬l<0:=by omega
  have k:¬l>c:=by omega
  have h:¬c<0:=by omega
  have d:¬ (a:Int) * c>2 ^ 48:=by omega
  simp only[Instr.makeSlice,Sem.run_bind,run_underlying y,Result.andThen_ok,asInt,asIntOf,Sem.run_pure,typeInfo,run_program,hi,g,o,p,cz3 E,
   h,m,k,d,decide_false,Bool.or_false,Bool.false_eq_true,if_false,run_askRoom]
  by_cases D:c.toNat * sz=0
  ·have r:A=#[]:=by simp_all
   have C:(Array.range 0:Array Nat)=#[]:=by decide
   simp only[D,newRow,Sem.run_bind,run_newObj,Sem.run_pure,Result.andThen_ok,r,C,List.map_toArray,List.map_nil]
   rfl
  simp_all[newRow,zeroValue,typeInfo]
 grind[wzs,Nat.mul_comm,Nat.mul_add_mod,Nat.mod_eq_of_lt]
theorem Zzh {t:TypeId}{x y:Operand}{out:Out}(J:o.op=.makeSlice t x y)(h:Azj P t id (env x) (env y)=some out)(E:holds out.obl):Sound1 P o env m id out:=by
 unfold Azj at h
 split at h
 ·rename_i l c V Y
  split at h
  ·rename_i e hu
   split at h
   ·rename_i W N Q B Z S
    split at h
    ·rename_i sz hs'
     cases h
     obtain⟨h0,T,h2,X⟩:=E
     intro F w ρ Mine M a C g R _ _ L
     have e1:=(V▸L x (by simp[J,Op.operands])).pure_inv.int_inv
     have e2:=(Y▸L y (by simp[J,Op.operands])).pure_inv.int_inv
     obtain⟨A,H,hA,n⟩:=Vz9 (P:=P) (w:=w) hu Q B Z rfl h0 T h2 X
     have p:∀q,q<c.toNat->A[q]?=some (.slice none 0 0):=fun q u=>by
      have:=n q 0 _ u rfl
      simp_all
     have G:Step Mine F w F (w.alloc (.cells A e)):=by
      have s:=Step.alloc g (.cells A e) (fun _=>False)
      simp_all
     have D:(ρ.setVec id (some (w.heap.size,l.toNat,c.toNat))).vec id=some (w.heap.size,l.toNat,c.toNat):=if_pos rfl
     have f:∀q b,¬Inn A l.toNat none q b:=by
      intro q b ⟨r1,_,n',I,O⟩
      grind
     have d:∀k r,Mem.get [(id,Res.vecT sz l.toNat (fun _=>.lst sz 0 fun _=>.unk) e N none)] k=some r->k=id/\r=.vecT sz l.toNat (fun _=>.lst sz 0 fun _=>.unk) e N none:=by
      grind[Mem.get]
     refine⟨_,_,F,ρ.setVec id (some (w.heap.size,l.toNat,c.toNat)),.value (by grind[execOp,Sem.run_bind,Result.andThen_ok,Sem.run_pure]),G,cz0 ρ id _,.vec D,MemOk.step C G (fun i=>¬Own id i) (cz0 ρ id _) _ (fun j r h _=>?_) (fun j r h=>?_) (fun j j' r K b h h' _ _=>?_)⟩
     ·obtain⟨q1,q2,q3⟩:=Yzk C R (.cells A e) (fun _=>False) j r h
      grind
     ·obtain⟨rfl,rfl⟩:=d j r h
      refine⟨⟨w.heap.size,c.toNat,A,D,heap_alloc_new w _,by omega,by grind[maxLen],by omega,fun o U=>absurd (g.lt _ _ U) (by omega),fun q u=>⟨_,p q (by omega),rfl,.inr ⟨none,0,fun _=>.unk,rfl,rfl,Nat.le_refl _,.inl ⟨rfl,rfl⟩⟩⟩,fun q q' b h=>absurd h (f q b),fun q h=>f q _ h⟩,fun b v=>?_⟩
      rcases v with v|⟨b0,n0,cap,c0,e0,q,r1,r2,O⟩
      ·simp only[bz4,D,Option.map_some,Option.some.injEq]at v
       subst v
       exact⟨g.mine _ (Nat.le_refl _),by simp,fun q K u _ z=>absurd (C.mine q K _ u z).2 (by omega)⟩
      grind[heap_alloc_new]
     grind
    grind
   grind
  grind
 grind
theorem Tza {mx:Bool}{f:Int->Int->Int}(i:f=if mx then(fun a b=>max a b)else(fun a b=>min a b)){k:IntKind}{F:Cells}{w:World}{ρ:Env}:∀ (l:List AVal) (vs:List Value) (a r:Int),Tz9 f k a l=some r->l.length=vs.length->(∀ (j:Nat) (x:AVal) (v:Value),l[j]?=some x->vs[j]?=some v->ARel F w ρ x v)->
 (vs.foldlM (if mx then Builtin.max2 else Builtin.min2) (.int k a)).run P w=.ok (.int k r) w
 |[],[],a,r,h,_,_=>by simp_all[Tz9]
 |[],_::_,_,_,_,e,_=>by grind
 |_::_,[],_,_,_,e,_=>by grind
 |x::l,v::vs,a,r,h,e,d=>by
  have g:=d 0 x v (by simp) (by simp)
  obtain⟨b,rfl,c⟩:∃b,x=.pure (.int k b)/\Tz9 f k (f a b) l=some r:=by
   match x,h with
   | .pure (.int k' b),h=>
     grind[Tz9]
  have m:=g.pure_inv.int_inv
  have n:=Tza i l vs _ r c (by simp_all) (fun j x v o c=>d (j+1) x v (by simp_all) (by simp_all))
  grind[Builtin.max2,Builtin.min2]
theorem az3b {b:Builtin}{mx:Bool}{i:Int->Int->Int}(g:i=if mx then(fun a b=>max a b)else(fun a b=>min a b)){xs:Array Operand}{n:Array TypeId}{p:PVal}(G:b=if mx then .max else .min)(E:o.op=.call {callee:=.builtin b,args:=xs,argTypes:=n})
 (h:Nze i (xs.toList.map env)=some p):Sound1 P o env m id (.v (.pure p)):=by
 unfold Nze at h
 split at h
 ·rename_i k y l f
  split at h
  ·rename_i r t
   cases h
   refine Sound1.still fun F w ρ Mine M a _ _ s=>?_
   obtain⟨x,d,e⟩:∃x d,xs.toList=x::d:=by
    cases H:xs.toList<;>simp_all
   rw[e,List.map_cons]at f
   simp only[List.cons.injEq]at f
   obtain⟨q,rfl⟩:=f
   have c:∀z∈xs.toList,z∈o.op.operands:=fun z A=>by grind[Op.operands,Call.operands]
   have D:=(q▸s x (c x (by simp_all))).pure_inv.int_inv
   have I:=Tza (P:=P) g (F:=F) (w:=w) (ρ:=ρ) (d.map env) (d.map a.eval) y r t (by simp) (fun j u v C B=>by
    grind)
   refine⟨.int k r,.value ?_,.pure .int⟩
   cases mx<;>simp_all[execOp,resolve,invoke,builtin,Builtin.max_,Builtin.min_]
  grind
 grind
theorem kzh {out:Out}(h:evOp P o.op id env m=some out)(hob:holds out.obl):Sound1 P o env m id out:=by
 generalize hop:o.op=op at h
 cases op<;>simp only[evOp]at h
 all_goals try(cases h;done)
 case move x=>cases h;exact azgh hop
 case assign x=>
  split at h
  ·rename_i hn
   have:x=.const (.slice none 0 0):=by
    unfold azfv at hn
    split at hn
    ·rfl
    ·cases hn
   subst this
   cases h;exact azhf hop
  ·cases h;exact azau hop
 case pick c x y=>
  split at h
  ·rename_i hc;cases h;exact azco (b:=true) hop hc
  ·rename_i hc;cases h;exact azco (b:=false) hop hc
  ·cases h
 case alloc t=>
  split at h
  ·rename_i z hz
   split at h
   ·rename_i hc
    simp only[Bool.and_eq_true,decide_eq_true_eq]at hc
    cases h;exact azeg hop hz hc.1 hc.2
   ·cases h
  ·cases h
 case box t x=>
  split at h
  ·rename_i hc;cases h;exact azhc hop hc
  ·cases h
 case build t ps=>exact azeh hop h
 case buildSlice t n ps=>
  split at h
  ·rename_i out' ho';cases h;exact Zzb hop ho'
  ·exact Wz9 hop h
 case load t a=>
  split at h
  ·rename_i out' ho';cases h;exact azem hop ho' hob
  ·split at h
   ·rename_i out' ho';cases h;exact azeo hop ho' hob
   ·exact azgg hop h hob
 case store t a v=>
  split at h
  ·rename_i out' ho';cases h;exact azb7 hop ho' hob
  ·split at h
   ·rename_i out' ho';cases h;exact azb9 hop ho' hob
   ·split at h
    ·rename_i out' ho';cases h;exact az7y hop ho' hob
    ·split at h
     ·rename_i out' ho';cases h;exact azb6 hop ho'
     ·split at h
      ·rename_i out' ho';cases h;exact azb5 hop ho' hob
      ·split at h
       ·rename_i out' ho';cases h;exact azb4 hop ho' hob
       ·exact Wzb hop h hob
 case nilCheck x=>
  split at h<;>rename_i hx<;>first|(cases h;rw[←hx];exact az4e hop (by rw[hx];trivial))|(cases h)
 case binOp op t x y t'=>
  split at h
  ·rename_i out' ho';cases h;exact azhd hop ho'
  split at h
  ·rename_i p q hp hq
   split at h
   ·rename_i r ob hr;cases h;exact azhb hop hp hq hr hob
   ·cases h
  ·cases h
 case unOp op t x=>
  split at h
  ·rename_i hx
   split at h
   ·cases h;exact azgi (b:=true) hop hx
   ·cases h
  ·rename_i hx
   split at h
   ·cases h;exact azgi (b:=false) hop hx
   ·cases h
  ·rename_i p hx
   split at h
   ·rename_i r hr;cases h;exact s_un hop hx hr
   ·cases h
  ·cases h
 case convert s d x=>
  split at h
  ·rename_i p hp
   split at h
   ·rename_i r hr
    split at h
    ·rename_i hs;cases h;exact azge hop hs hp hr
    ·cases h
   ·cases h
  ·cases h
 case makeFunc fn a b=>
  split at h
  ·cases h;exact az4d hop
  ·cases h
 case makeSlice t l c=>exact Qzf hop h hob
 case makeMap t r=>
  split at h
  ·exact az7w hop h
  ·cases h
 case lookup t x ix ok=>exact azax hop h hob
 case mapUpdate t x k v=>exact Qzg (.inl hop) h
 case insert t x k v=>exact Qzg (.inr hop) h
 case slice t x lo hi mx=>
  split at h
  ·rename_i out' ho';cases h;exact azaz hop ho' hob
  ·split at h
   ·rename_i out' ho';cases h;exact azay hop ho'
   ·split at h
    ·rename_i out' ho';cases h;exact azb1 hop ho' hob
    split at h
    ·rename_i out' ho';cases h;exact az7x hop ho' hob
    ·split at h
     ·rename_i out' ho';cases h;exact azb0 hop ho' hob
     ·exact azeq hop h hob
 case fieldAddr s x f=>exact azej hop h
 case field s x f=>exact azav hop h
 case indexAddr t x i=>
  split at h
  ·rename_i out' ho';cases h;exact Zze hop ho' hob
  ·split at h
   ·rename_i out' ho';cases h;exact Zzg hop ho' hob
   ·split at h
    ·rename_i out' ho';cases h;exact Zzc hop ho' hob
    ·split at h
     ·rename_i out' ho';cases h;exact Zzf hop ho' hob
     split at h
     ·rename_i out' ho';cases h;exact Zzd hop ho' hob
     ·exact az1m hop h hob
 case makeInterface t x=>exact azek hop h
 case typeAssert x xt a ok=>exact azat hop h
 case index t x i=>exact azel hop h hob
 case range t x=>
  split at h
  ·rename_i s hu hx
   cases h;exact azep hop hu hx
  ·cases h
 case extract x i=>
  split at h
  ·rename_i cs hx
   split at h
   ·rename_i v hv;cases h;exact az7v hop hx hv
   ·cases h
  ·cases h
 case call c=>
  split at h
  ·rename_i b hb
   obtain⟨callee,args,ts⟩:=c
   simp only at hb h
   subst hb
   unfold Gzf at h
   split at h
   ·split at h
    ·rename_i x hx
     have:args=#[x]:=by rw[←Array.toArray_toList (xs:=args),hx]
     subst this
     split at h
     ·rename_i out' ho';cases h;exact azgf hop ho'
     ·exact azhe hop h
    ·cases h
   ·split at h
    ·rename_i d s hx
     have:args=#[d,s]:=by rw[←Array.toArray_toList (xs:=args),hx]
     subst this
     split at h
     ·rename_i hsz;exact azei hop hsz h
     ·cases h
    ·cases h
   ·split at h
    ·rename_i s x hx
     have:args=#[s,x]:=by rw[←Array.toArray_toList (xs:=args),hx]
     subst this
     split at h
     ·rename_i hsz
      have hts:∀t,ts[0]?=some t->ts[1]?=some t->ts=#[t,t]:=fun t h0 h1=>by
       refine Array.ext (by simpa using hsz) fun i hi _=>?_
       have hi2:i<2:=by omega
       match i,hi2 with
       |0,_=>simpa[Array.getElem?_eq_getElem (show 0<ts.size by omega)]using h0
       |1,_=>simpa[Array.getElem?_eq_getElem (show 1<ts.size by omega)]using h1
      split at h
      ·rename_i out' ho';cases h;exact az7u hop hts ho' hob
      ·split at h
       ·rename_i out' ho';cases h;exact az7s hop hts ho' hob
       ·exact azas hop hts h hob
     ·cases h
    ·cases h
   ·split at h
    ·rename_i p hp;cases h;exact az3b (mx:=false) rfl rfl hop hp
    ·cases h
   ·split at h
    ·rename_i p hp;cases h;exact az3b (mx:=true) rfl rfl hop hp
    ·cases h
   ·cases h
  ·cases h
end Go.Abs
