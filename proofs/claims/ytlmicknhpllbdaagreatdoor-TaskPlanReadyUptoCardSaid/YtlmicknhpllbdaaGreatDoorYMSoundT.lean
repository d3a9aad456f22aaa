/-
  SoundT (a part of a claim: our own text).
-/
import Derived.Test.YtlmicknhpllbdaaGreatDoorYMSoundR
namespace Go.Abs
variable {P:Program} {o:Oper} {env:Operand->AVal} {m:Mem} {id:Nat}
theorem Zze {t:TypeId}{x i:Operand}{out:Out}(q:o.op=.indexAddr t x i)(h:Azg P t (env x) (env i) m=some out)(g:holds out.obl):Sound1 P o env m id out:=by
 unfold Azg at h
 split at h
 ·rename_i k B z A hi
  split at h
  ·rename_i sz n f E C e s
   split at h
   ·split at h
    ·simp at h;subst h
     obtain⟨G,D⟩:=g
     refine Sound1.still fun F w ρ Mine M a r l p=>?_
     have y:=(hi▸p i (by simp[q,Op.operands])).pure_inv.int_inv
     have j:=p x (by simp[q,Op.operands])
     rw[A]at j
     obtain⟨b,cap,c,d,_⟩:=r.ok k _ ((l k (by simp)).trans s)
     generalize v:a.eval x=u at j
     cases j with
     |vnil e=>simp_all
     |vec e=>
      rw[e]at d;cases d
      refine⟨.pointer (some ⟨b,z.toNat * 1+0,none⟩),.value ?_,.eptr e⟩
      simp_all[execOp,Instr.indexAt,asIntOf,run_underlying,cz3,ezl]
    grind
   grind
  grind
 grind
theorem Kzq (x:Option (Nat×Nat×Nat)):(jzp x).oneCell'=true:=by
 cases x with
 |none=>rfl
 |some x=>rfl
theorem azem {t:TypeId}{x:Operand}{out:Out}(ho:o.op=.load t x)(h:az0n P t id (env x) m=some out)(hob:holds out.obl):Sound1 P o env m id out:=by
 unfold az0n at h
 split at h
 ·rename_i j i hx
  split at h
  ·rename_i sz n f e s hj
   split at h
   ·rename_i p Q N hta hfi
    split at h
    ·rename_i hsz
     subst hsz
     cases h
     intro F w ρ Mine M a S g fr hrd hfe ha
     have hlt:i<n:=hob
     have L:=(hrd j (by simp)).trans hj
     have U:=ha x (by simp[ho,Op.operands])
     rw[hx]at U
     obtain⟨b,cap,c,q1,q2,q3,q4,q5,q6,q7,q8,q9⟩:=S.ok j _ L
     generalize hu:a.eval x=u at U
     cases U with
     |eptr B=>
      rw[B]at q1;cases q1
      obtain⟨v,v1,v2,v3⟩:=q7 i hlt
      obtain⟨y,n2,g2,p1,p2,p3⟩:=v3.resolve_left (by simp)
      rw[hfi]at p1;cases p1
      have hjn:¬Own id j:=fun hj'=>by rw[fr.none j hj']at L;grind
      have Z:id≠j:=fun e=>hjn (e▸⟨Nat.le_refl _,by omega⟩)
      have Y:(ρ.setVec id y).vec id=y:=if_pos rfl
      have O:(ρ.setVec id y).vec j=some (b,n,cap):=(if_neg (Ne.symm Z)).trans B
      have T:w.cell? ⟨b,i * 1+0,none⟩=some v:=by grind[cell_of_row]
      have A:∀q d,Inn c n (some i) q d->Inn c n none q d/\q≠i:=fun q d ⟨J,W,r3⟩=>⟨⟨J,by simp,r3⟩,fun e=>W (by rw[e])⟩
      have I:∀d,y.map (·.1)=some d->Inn c n none i d:=by
       intro d l
       obtain⟨z,rfl,rfl⟩:=Option.map_eq_some_iff.1 l
       obtain⟨z1,z2,z3⟩:=z
       exact⟨hlt,by simp,z2,z3,by rw[v1,p2];rfl⟩
      have R:∀d,Owns w (ρ.setVec id y) j (.vecT p n f e s (some i)) d->(d=b\/∃q,Inn c n (some i) q d)/\Owns w ρ j (.vecT p n f e s none) d:=by
       intro d l
       rcases l with l|⟨b0,n0,cap0,c0,e0,q,J,W,r3⟩
       ·simp only[bz4,O,Option.map_some,Option.some.injEq]at l
        exact⟨.inl l.symm,.inl (by grind[bz4])⟩
       ·rw[O]at J;cases J
        rw[q2]at W;cases W
        exact⟨.inr ⟨q,r3⟩,.inr ⟨b,n,cap,c,e,q,B,q2,(A q d r3).1⟩⟩
      have H:∀d,Owns w (ρ.setVec id y) id (.vec p Q N 0 s) d->Inn c n none i d/\Owns w ρ j (.vecT p n f e s none) d:=by
       intro d l
       rw[owns_vec,Y]at l
       exact⟨I d l,.inr ⟨b,n,cap,c,e,i,B,q2,I d l⟩⟩
      have E:∀d,Owns w (ρ.setVec id y) j (.vecT p n f e s (some i)) d->Owns w (ρ.setVec id y) id (.vec p Q N 0 s) d->False:=by
       grind
      have G:∀k r,Mem.get [(j,Res.vecT p n f e s (some i)),(id,.vec p Q N 0 s)] k=some r->(k=j/\r=.vecT p n f e s (some i))\/(k=id/\r=.vec p Q N 0 s):=by
       grind[Mem.get]
      have K:∀k,Mem.get [(j,Res.vecT p n f e s (some i)),(id,.vec p Q N 0 s)] k=none->k≠j:=by
       intro k hk e1
       subst e1
       simp[Mem.get]at hk
      have D:∀d,Owns w ρ j (.vecT p n f e s none) d->∀k X,M.get k=some X->Mem.get [(j,Res.vecT p n f e s (some i)),(id,.vec p Q N 0 s)] k=none->¬Owns w ρ k X d:=by
       intro d l k X hk hn hbk
       exact K k hn (S.disj j k _ X d L hk l hbk).symm
      refine⟨v,w,F,ρ.setVec id y,.value ?_,Step.refl g,cz0 ρ id y,?_,MemOk.step S (Step.refl g) (fun i=>¬Own id i) (cz0 ρ id y) _ (fun k r h hn=>⟨fun hk=>(by rw[fr.none k hk]at h;cases h),fun i hi=>fr.has i k r (Classical.not_not.1 hi) h,fun b hb=>⟨rfl,fun _ h=>h⟩⟩) (fun k r h=>?_) (fun k k' r X d h h' hb l=>?_)⟩
      ·have hr:=lzz (P:=P) hta T
       simp only[execOp,ho,Instr.loadAt,Instr.sureAddr,hu,Sem.run_bind,Sem.run_pure,Result.andThen_ok,hr]
      ·rw[p2]
       cases C:y with
       |none=>rw[C]at Y;exact .vnil (by rw[←C]at Y⊢;rw[Y,C])
       |some z=>
        exact .vec (by rw[←C];rw[Y,C])
      ·rcases G k r h with⟨rfl,rfl⟩|⟨rfl,rfl⟩
       ·refine⟨⟨b,cap,c,O,q2,q3,q4,q5,q6,fun q hq=>?_,fun q q' d J W=>q8 q q' d (A q d J).1 (A q' d W).1,fun q J=>q9 q (A q b J).1⟩,fun d l=>?_⟩
        ·obtain⟨u,u1,u2,u3⟩:=q7 q hq
         exact⟨u,u1,u2,.inr (u3.resolve_left (by simp))⟩
        ·obtain⟨_,V⟩:=R d l
         exact⟨(S.mine _ _ _ L V).1,(S.mine _ _ _ L V).2,D d V⟩
       ·refine⟨?_,fun d l=>?_⟩
        ·show VecAt F w p Q N 0 s ((ρ.setVec k y).vec k)
         rw[Y];exact p3
        ·obtain⟨_,V⟩:=H d l
         exact⟨(S.mine _ _ _ L V).1,(S.mine _ _ _ L V).2,D d V⟩
      ·rcases G k r h with⟨rfl,rfl⟩|⟨rfl,rfl⟩<;>rcases G k' X h' with⟨rfl,rfl⟩|⟨rfl,rfl⟩
       ·rfl
       ·exact(E d hb l).elim
       ·exact(E d l hb).elim
       ·rfl
    ·cases h
   ·cases h
  ·cases h
 ·cases h
theorem azb7 {t:TypeId}{x y:Operand}{out:Out}(ho:o.op=.store t x y)(h:Uzw P t (env x) (env y) m=some out)(hob:holds out.obl):Sound1 P o env m id out:=by
 unfold Uzw at h
 split at h
 ·rename_i j i k hx hy
  split at h
  ·rename_i sz n f e e' i' l W Y s hj E
   split at h
   ·rename_i hc
    simp only[Bool.and_eq_true,decide_eq_true_eq]at hc
    obtain⟨⟨hs,rfl⟩,rfl⟩:=hc
    cases h
    obtain⟨hlt,rfl⟩:=hob
    intro F w ρ Mine M a I g fr hrd hfe ha
    have Z:=(hrd j (by simp)).trans hj
    have H:=(hrd k (by simp)).trans E
    have hax:=ha x (by simp[ho,Op.operands])
    have hay:=ha y (by simp[ho,Op.operands])
    rw[hx]at hax
    rw[hy]at hay
    have hjk:j≠k:=fun e=>by simp_all
    obtain⟨b,cap,c,q1,q2,q3,q4,q5,q6,q7,q8,q9⟩:=I.ok j _ Z
    have hkok:VecAt F w l W Y 0 s (ρ.vec k):=I.ok k _ H
    generalize hu:a.eval x=u at hax
    cases hax with
    |eptr A=>
     rw[A]at q1;cases q1
     have hv:a.eval y=jzp (ρ.vec k):=by
      generalize a.eval y=vv at hay
      cases hay with
      |vnil hh=>rw[hh];rfl
      |vec hh=>rw[hh];rfl
     have hone:=Kzq (ρ.vec k)
     have T:(a.eval y).cells=#[jzp (ρ.vec k)]:=by
      rw[hv]
      cases ρ.vec k with
      |none=>rfl
      |some z=>rfl
     have hr:=ozd (P:=P) (off:=i * 1+0) (v:=a.eval y) hs (by simp_all) q2 (by omega) (by simp_all)
     rw[T]at hr
     have N:∀q,((c.toList.take (i * 1+0)++(#[jzp (ρ.vec k)]:Array Value).toList++c.toList.drop (i * 1+0+(#[jzp (ρ.vec k)]:Array Value).toList.length)).toArray)[q]?=if q=i then some (jzp (ρ.vec k))else c[q]?:=by
      grind
     generalize hc':(c.toList.take (i * 1+0)++(#[jzp (ρ.vec k)]:Array Value).toList++c.toList.drop (i * 1+0+(#[jzp (ρ.vec k)]:Array Value).toList.length)).toArray=c' at hr N
     have hsz:c'.size=cap:=by
      grind
     have hbj:Owns w ρ j (.vecT l n f e s (some i)) b:=.inl (by simp[bz4,A])
     have hmine:=I.mine j _ b Z hbj
     have st:Step Mine F w F (w.setRow b c'):=Step.write g q2 hmine.1 (fun o h=>absurd h (q6 o))
     have Q:=setRow_heap w b c c' e _ q2
     have R:∀d,(ρ.vec k).map (·.1)=some d->Owns w ρ k (.vec l W Y 0 s) d:=fun d h=>owns_vec.2 h
     have V:∀d,(ρ.vec k).map (·.1)=some d->d≠b:=fun d h J=>hjk (I.disj j k _ _ d Z H (J▸hbj) (R d h))
     have S:∀q d,Inn c' n none q d->(q=i/\(ρ.vec k).map (·.1)=some d)\/(q≠i/\Inn c n (some i) q d):=by
      intro q d ⟨X,_,n2,cap2,L⟩
      rw[N]at L
      by_cases G:q=i
      ·rw[if_pos G]at L
       refine .inl ⟨G,?_⟩
       cases hz:ρ.vec k with
       |none=>rw[hz]at L;simp[jzp]at L
       |some z=>obtain⟨z1,z2,z3⟩:=z;rw[hz]at L;simp[jzp]at L;simp[L.1]
      ·rw[if_neg G]at L
       exact .inr ⟨G,X,fun h=>G (by simpa using h.symm),n2,cap2,L⟩
     have O:∀q d,Inn c n (some i) q d->Owns w ρ j (.vecT l n f e s (some i)) d:=fun q d h=>.inr ⟨b,n,cap,c,e,q,A,q2,h⟩
     have hown:∀d,Owns (w.setRow b c') ρ j (.vecT l n (fun q=>if q=i then .lst l W Y else f q) e s none) d->Owns w ρ j (.vecT l n f e s (some i)) d\/Owns w ρ k (.vec l W Y 0 s) d:=by
      intro d p
      rcases p with p|⟨b0,n0,cap0,c0,e0,q,X,r2,L⟩
      ·exact .inl (.inl p)
      ·rw[A]at X;cases X
       rw[Q]at r2;cases r2
       rcases S q d L with⟨_,h⟩|⟨_,h⟩
       ·exact .inr (R d h)
       ·exact .inl (O q d h)
     have C:∀kk r,Mem.get [(j,Res.vecT l n (fun q=>if q=i then .lst l W Y else f q) e s none),(k,.gone)] kk=some r->(kk=j/\r=.vecT l n (fun q=>if q=i then .lst l W Y else f q) e s none)\/(kk=k/\r=.gone):=by
      intro kk r E
      simp only[Mem.get]at E
      split at E
      ·rename_i J;subst J;cases E;exact .inl ⟨rfl,rfl⟩
      ·split at E
       ·rename_i J;subst J;cases E;exact .inr ⟨rfl,rfl⟩
       ·cases E
     have B:∀kk,Mem.get [(j,Res.vecT l n (fun q=>if q=i then .lst l W Y else f q) e s none),(k,.gone)] kk=none->kk≠j/\kk≠k:=by
      intro kk E
      simp only[Mem.get]at E
      split at E
      ·cases E
      ·split at E
       ·cases E
       ·rename_i a1 a2;exact⟨fun e=>a1 e.symm,fun e=>a2 e.symm⟩
     refine⟨undef,_,F,ρ,.inr ⟨by simp only[execOp,ho,Instr.storeAt,Instr.sureAddr,hu,Sem.run_bind,Sem.run_pure,Result.andThen_ok,hr],rfl⟩,st,fun _ _=>⟨rfl,rfl⟩,.any,MemOk.step I st (fun _=>True) (fun _ _=>⟨rfl,rfl⟩) _ (fun kk r h hn=>⟨trivial,fun q G=>absurd trivial G,fun d p=>⟨?_,fun _ h=>h⟩⟩) (fun kk r h=>?_) (fun kk kk' r r' d h h' hb p=>?_)⟩
     ·refine setRow_other w b d _ (fun J=>?_)
      subst J
      exact(B kk hn).1 (I.disj j kk _ r _ Z h hbj p).symm
     ·rcases C kk r h with⟨rfl,rfl⟩|⟨rfl,rfl⟩
      ·refine⟨⟨b,cap,c',A,Q,q3,q4,hsz,q6,fun q G=>?_,fun q q' d X r2=>?_,fun q X=>?_⟩,fun d p=>?_⟩
       ·rw[N]
        by_cases K:q=i
        ·subst K
         refine⟨_,if_pos rfl,hone,.inr ⟨ρ.vec k,W,Y,by simp,rfl,hkok.mono st.sub st.cell fun d m' U hx'=>⟨setRow_other w b d _ (V d (by simp[hx'])),fun _ h=>h⟩⟩⟩
        ·rw[if_neg K]
         obtain⟨u,u1,u2,u3⟩:=q7 q G
         obtain⟨z,n2,g2,p1,p2,p3⟩:=u3.resolve_left (fun h=>K (by simpa using h.symm))
         refine⟨u,u1,u2,.inr ⟨z,n2,g2,by simp[K,p1],p2,p3.mono st.sub st.cell fun d m' U hx'=>⟨setRow_other w b d _ (fun J=>?_),fun _ h=>h⟩⟩⟩
         subst hx'
         exact q9 q ⟨G,fun h=>K (by simpa using h.symm),m',U,by rw[u1,p2,J];rfl⟩
       ·rcases S q d X with⟨J,D⟩|⟨J,D⟩<;>rcases S q' d r2 with⟨e2,h2⟩|⟨e2,h2⟩
        ·rw[J,e2]
        ·exact(hjk (I.disj _ _ _ _ d Z H (O q' d h2) (R d D))).elim
        ·exact(hjk (I.disj _ _ _ _ d Z H (O q d D) (R d h2))).elim
        ·exact q8 q q' d D h2
       ·rcases S q b X with⟨_,D⟩|⟨_,D⟩
        ·exact V b D rfl
        ·exact q9 q D
       ·rcases hown d p with D|D
        ·obtain⟨m1,m2⟩:=I.mine _ _ d Z D
         exact⟨m1,by simpa using m2,fun q r' G hn hbq=>(B q hn).1 (I.disj _ q _ r' d Z G D hbq).symm⟩
        ·obtain⟨m1,m2⟩:=I.mine _ _ d H D
         exact⟨m1,by simpa using m2,fun q r' G hn hbq=>(B q hn).2 (I.disj _ q _ r' d H G D hbq).symm⟩
      ·exact⟨trivial,fun d p=>by simp[Owns,oz0,bz4]at p⟩
     ·rcases C kk r h with⟨rfl,rfl⟩|⟨rfl,rfl⟩
      ·rcases C kk' r' h' with⟨rfl,rfl⟩|⟨rfl,rfl⟩
       ·rfl
       ·simp[Owns,oz0,bz4]at p
      ·simp[Owns,oz0,bz4]at hb
   ·cases h
  ·cases h
 ·cases h
theorem Zzc {t:TypeId}{x i:Operand}{out:Out}(e:o.op=.indexAddr t x i)(h:Aze P t (env x) (env i)=some out)(c:holds out.obl):Sound1 P o env m id out:=by
 unfold Aze at h
 split at h
 ·rename_i k n v p g hi
  split at h
  ·split at h
   ·simp at h;subst h
    obtain⟨r,s⟩:=c
    refine Sound1.still fun F w ρ Mine M a q j d=>?_
    have f:=(hi▸d i (by simp[e,Op.operands])).pure_inv.int_inv
    have b:=d x (by simp[e,Op.operands])
    rw[g]at b
    generalize l:a.eval x=u at b
    cases b with
    |bsl=>
     refine⟨.pointer (some ⟨ρ.blk k,p.toNat,none⟩),.value ?_,.ptr⟩
     simp_all[execOp,Instr.indexAt,asIntOf,run_underlying,cz3,ezl]
   grind
  grind
 grind
theorem azek {t:TypeId}{x:Operand}{out:Out}(b:o.op=.makeInterface t x)(h:az0k P t (env x)=some out):Sound1 P o env m id out:=by
 unfold az0k at h
 split at h
 ·rename_i d e
  split at h
  ·cases h
  ·rename_i f
   cases h
   refine Sound1.still fun F w ρ Mine M a i g c=>⟨.iface t (a.eval x),.value ?_,.iface (c x (by simp[b,Op.operands]))⟩
   simp only[execOp,b,Instr.makeInterface,Sem.run_bind,run_underlying e,Result.andThen_ok]
   cases d<;>first|(simp only[Sem.run_pure,Result.andThen_ok];done)|skip
   exact absurd rfl f
 grind
theorem azat {x:Operand}{y c:TypeId}{k:Bool}{out:Out}(q:o.op=.typeAssert x y c k)(h:Uzm P (env x) c k=some out):Sound1 P o env m id out:=by
 unfold Uzm at h
 split at h
 ·rename_i t r d A f
  split at h
  ·cases h
  ·rename_i C
   have g:∀ {a:Act} {w:World} {v u:Value},a.eval x=.iface t v->
    (if t=c then(pure (if k=true then .tuple #[v,.bool true]else v):Sem Value)else(if k=true then do pure (.tuple #[←zeroValue c,.bool false])else runtimePanic (.typeAssertion (some y) (some t) c ""))).run P w=.ok u w->Ran P o a w u w:=by
    intro a w v u D n
    refine .value ?_
    simp only[execOp,q,Instr.typeAssert,Sem.run_bind,run_underlying f,Result.andThen_ok,D]
    cases d<;>first|exact absurd rfl C|(simp only[n,Result.andThen_ok,Sem.run_pure])
   split at h
   ·cases h
    refine Sound1.still fun F w ρ Mine M a B s p=>?_
    have i:=p x (by simp[q,Op.operands])
    rw[A]at i
    generalize e:a.eval x=u at i
    cases i with
    |iface n=>
     rename_i v
     cases k with
     |true=>
      refine⟨.tuple #[v,.bool true],g e (by simp_all),.tup rfl fun j b u l f=>?_⟩
      match j with
      |0=>simp_all
      |1=>simp at l f;subst l;subst f;exact .tt
      |j+2=>grind
     |false=>exact⟨v,g e (by simp_all),n⟩
   ·split at h
    ·split at h
     ·split at h
      ·rename_i z E
       cases h
       refine Sound1.still fun F w ρ Mine M a B s p=>?_
       have i:=p x (by simp[q,Op.operands])
       rw[A]at i
       generalize e:a.eval x=u at i
       cases i with
       |iface n=>
        refine⟨.tuple #[z,.bool false],g e ?_,.tup rfl fun j b u l f=>?_⟩
        ·simp_all[zeroValue,typeInfo]
        ·match j with
         |0=>grind[Jz7]
         |1=>simp at l f;subst l;subst f;exact .ff
         |j+2=>grind
      grind
     grind
    grind
 grind
theorem Wz9 {t:TypeId}{len:Nat}{c:Array (Nat×Operand)}{out:Out}(ho:o.op=.buildSlice t len c)(h:wzu P t len id env c.toList=some out):Sound1 P o env m id out:=by
 unfold wzu at h
 split at h
 ·rename_i e hu
  split at h
  ·rename_i zl l S D hl
   split at h
   ·rename_i K
    simp only[Bool.and_eq_true,decide_eq_true_eq]at K
    obtain⟨⟨H,n⟩,I⟩:=K
    cases h
    intro F w ρ Mine M a hm g fr hrd Y V
    have E:∀x∈c.toList,x.2∈o.op.operands:=fun x B=>by
     grind[Op.operands]
    obtain⟨e1,e2⟩:=Azs (a:=a) c.toList 0 l hl
    have hpl:c.toList.length=len:=by simp_all
    have d:∀ (i:Nat) (b:AVal) (v:Value),l[i]?=some b->(c.toList.map fun x=>a.eval x.2)[i]?=some v->ARel F w ρ b v/\v.oneCell'=true/\v.cells=#[v]:=by
     intro i b v q r
     rw[e2]at q
     simp only[List.getElem?_map,Option.map_eq_some_iff]at q r
     obtain⟨x,B,rfl⟩:=q
     obtain⟨x',k,rfl⟩:=r
     rw[B]at k;cases k
     have J:=V x.2 (E x (List.mem_of_getElem? B))
     have C:(env x.2).scalar=true:=List.all_eq_true.1 n _ (by grind)
     have L:=J.one C
     exact⟨J,L,by generalize a.eval x.2=u at L;cases u<;>simp_all [Value.cells,Value.oneCell']⟩
    have Q:∀v∈(c.toList.map fun x=>a.eval x.2),v.oneCell'=true/\v.cells=#[v]:=by
     grind[List.getElem?_of_mem]
    obtain⟨N,Z,_⟩:=Nzl (P:=P) (w:=w) D
    obtain⟨z,hz⟩:∃z:Array Value,z=if len * 1=0 then #[]else N.cells:=⟨_,rfl⟩
    obtain⟨A,f1,f2,f3,f4⟩:=Jzf 1 (c.toList.map fun x=>a.eval x.2) 0 ((Array.range (len * 1)).map (z[· % z.size]!)) (fun v r=>by grind) (by grind)
    have hA:A.size=len:=by simp_all
    obtain⟨F',ρ',T,G,q,O⟩:=az2w hm g fr e A l [] (by simp[Mem.get]) (by omega) (fun F' w' ρ' hF W G _ j y v U r=>by
     have s:j<(c.toList.map fun x=>a.eval x.2).length:=by grind
     have p:(c.toList.map fun x=>a.eval x.2)[j]?=some (c.toList.map fun x=>a.eval x.2)[j]:=List.getElem?_eq_getElem s
     obtain⟨r1,R,r3⟩:=d j y _ U p
     have X:=f4 j _ p 0 (by omega)
     have f:v=(c.toList.map fun x=>a.eval x.2)[j]:=by simp_all
     rw[f]
     refine⟨r1.mono (fun i=>¬Own id i) hF W G (fun i hi=>?_),R⟩
     grind)
    refine⟨.slice (some ⟨w.heap.size,0,none⟩) len len,w.alloc (.cells A e),F',ρ',.value ?_,T,G,?_,by omega⟩
    ·simp only[execOp,ho,Instr.buildSlice,Sem.run_bind,run_underlying hu,Result.andThen_ok,cz3 S]
     rw[if_neg (by omega)]
     by_cases h0:len * 1=0
     all_goals simp_all[newRow]
    ·rw[←q];exact .bsl
   ·cases h
  ·cases h
 ·cases h
theorem Zzg {t:TypeId}{x i:Operand}{out:Out}(q:o.op=.indexAddr t x i)(h:Azi P t (env x) (env i) m=some out)(p:holds out.obl):Sound1 P o env m id out:=by
 unfold Azi at h
 split at h
 ·rename_i k J A z hi
  split at h
  ·rename_i sz n f E e off k' s
   split at h
   ·split at h
    ·simp at h;subst h
     obtain⟨C,B⟩:=p
     refine Sound1.still fun F w ρ Mine M a y j l=>?_
     have r:=(hi▸l i (by simp[q,Op.operands])).pure_inv.int_inv
     have g:=l x (by simp[q,Op.operands])
     rw[z]at g
     obtain⟨_,b,cap,c,d,_⟩:=y.ok k _ ((j k (by simp)).trans s)
     generalize v:a.eval x=u at g
     cases g with
     |vnil e=>simp_all
     |vec e=>
      rw[e]at d;cases d
      refine⟨.pointer (some ⟨b,A.toNat * sz+0,none⟩),.value ?_,.eptr e⟩
      simp_all[execOp,Instr.indexAt,asIntOf,run_underlying,cz3,ezl]
    grind
   grind
  ·rename_i sz n f D E off K I H s
   split at h
   ·split at h
    ·simp at h;subst h
     obtain⟨C,B⟩:=p
     refine Sound1.still fun F w ρ Mine M a y j l=>?_
     have r:=(hi▸l i (by simp[q,Op.operands])).pure_inv.int_inv
     have g:=l x (by simp[q,Op.operands])
     rw[z]at g
     obtain⟨_,_,⟨_,G,_⟩|⟨b,cap,c,d,_⟩⟩:=y.ok k _ ((j k (by simp)).trans s)
     ·omega
     generalize v:a.eval x=u at g
     cases g with
     |vnil e=>simp_all
     |vec e=>
      rw[e]at d;cases d
      refine⟨.pointer (some ⟨b,A.toNat * sz+0,none⟩),.value ?_,.eptr e⟩
      simp_all[execOp,Instr.indexAt,asIntOf,run_underlying,cz3,ezl]
    grind
   grind
  grind
 grind
theorem Tzw {F:Cells}{w:World}{ρ:Env}(k:Nat):ARel F w ρ (.vec k) (jzp (ρ.vec k)):=by
 cases h:ρ.vec k with
 |none=>exact .vnil h
 |some z=>exact .vec h
theorem Zzo {F:Cells}{w:World}{ρ:Env}{k:Nat}{v:Value}(h:ARel F w ρ (.vec k) v):v=jzp (ρ.vec k):=by
 cases h with
 |vnil a=>rw[a];rfl
 |vec a=>rw[a];rfl
theorem azeo {t:TypeId}{x:Operand}{out:Out}(E:o.op=.load t x)(h:az0p P t (env x) m=some out)(q:holds out.obl):Sound1 P o env m id out:=by
 unfold az0p at h
 split at h
 ·rename_i j sz i off C
  split at h
  ·rename_i z n f e D r k A
   split at h
   ·rename_i s
    simp only[Bool.and_eq_true,decide_eq_true_eq]at s
    obtain⟨⟨⟨l,rfl⟩,rfl⟩,_⟩:=s
    cases h
    obtain rfl:i=D:=q
    refine Sound1.still fun F w ρ Mine M a y p B=>?_
    have d:=B x (by simp[E,Op.operands])
    rw[C]at d
    obtain⟨_,b,cap,c,N,H,L,J,I,O⟩:=y.ok j _ ((p j (by simp)).trans A)
    generalize G:a.eval x=u at d
    cases d with
    |eptr v=>
     have g:w.cell? ⟨b,i * sz+off,none⟩=some (jzp (ρ.vec k)):=by grind[cell_of_row]
     have K:=lzz (P:=P) l g
     exact⟨_,.value (by grind[execOp,Instr.loadAt,Instr.sureAddr,Sem.run_bind,Sem.run_pure,Result.andThen_ok]),Tzw k⟩
   grind
  grind
 grind
theorem MemOk.setX {F:Cells}{w:World}{ρ:Env}{Mine:Nat->Prop}{M:Mem}{j sz n a off k:Nat}{f:Nat->PVal}{e:TypeId}(o:MemOk F w ρ Mine ([(j,.vec sz n (ozs f a off .unk) 0 e)]++M))
 (u:∃b cap c,ρ.vec j=some (b,n,cap)/\w.heap[b]?=some (.cells c e (0,0))/\a<n/\off<sz/\(f a).cells.length=sz/\c[a * sz+off]?=some (jzp (ρ.vec k))):
 MemOk F w ρ Mine ([(j,.vecX sz n f e a off k)]++M):=by
 have t:Mem.get ([(j,Res.vec sz n (ozs f a off .unk) 0 e)]++M) j=some (.vec sz n (ozs f a off .unk) 0 e):=by simp[Mem.get]
 have g:∀i r,Mem.get ([(j,Res.vecX sz n f e a off k)]++M) i=some r->(i=j/\r=.vecX sz n f e a off k)\/Mem.get ([(j,Res.vec sz n (ozs f a off .unk) 0 e)]++M) i=some r:=by
  grind[Mem.get]
 have d:∀i r,Mem.get ([(j,Res.vecX sz n f e a off k)]++M) i=some r->∃l,Mem.get ([(j,Res.vec sz n (ozs f a off .unk) 0 e)]++M) i=some l/\∀b,Owns w ρ i r b->Owns w ρ i l b:=by
  intro i r h
  rcases g i r h with⟨rfl,rfl⟩|h
  ·exact⟨_,t,fun b m=>m⟩
  simp_all
 refine⟨fun i r h=>?_,fun i r b h m=>?_,fun i z r l b h y m q=>?_⟩
 ·rcases g i r h with⟨rfl,rfl⟩|h
  ·exact⟨o.ok _ _ t,u⟩
  ·exact o.ok _ _ h
 ·obtain⟨l,p,s⟩:=d i r h;exact o.mine _ _ _ p (s b m)
 ·obtain⟨B,p,s⟩:=d i r h
  obtain⟨A,x,v⟩:=d z l y
  exact o.disj _ _ _ _ b p x (s b m) (v b q)
theorem azb9 {t:TypeId}{x y:Operand}{out:Out}(J:o.op=.store t x y)(h:Uzy P t (env x) (env y) m=some out)(Z:holds out.obl):Sound1 P o env m id out:=by
 unfold Uzy at h
 split at h
 ·rename_i j sz d off k hx hy
  split at h
  ·rename_i sz' n f sh e sz2 n2 f2 sh2 e2 hj hk
   split at h
   ·rename_i hc
    simp only[Bool.and_eq_true,decide_eq_true_eq,bne_iff_ne,ne_eq]at hc
    obtain⟨⟨⟨⟨hs,rfl⟩,I⟩,hjk⟩,rfl⟩:=hc
    cases h
    have p:d<n:=Z
    classical
    obtain⟨l,N⟩:∃l:Operand->AVal,l=fun z=>if z=y then .pure .unk else env z:=⟨_,rfl⟩
    have K:l y=.pure .unk:=by simp_all
    have hxy:x≠y:=fun e1=>by simp_all
    have Y:l x=.eptr j sz d off:=by simp_all
    have O:(f d).cells.length=sz->(Pz5 (f d) ((f d).cells.take off++[.unk]++(f d).cells.drop (off+1))).cells=(f d).cells.take off++[.unk]++(f d).cells.drop (off+1):=fun _=>by
     grind[Bz1,PVal.cells_scalar,PVal.scalar]
    have U:=Qzw (P:=P) (id:=id) (env:=l) (m:=m) (ob:=none) (i:=j) (sz:=sz) (k:=d) (off:=off) (s:=1) (n:=n) (sh:=0) (f:=f) (e:=e) (ps:=[.unk]) (el:=Pz5 (f d) ((f d).cells.take off++[.unk]++(f d).cells.drop (off+1)))
     J hs (by rw[K];rfl) Y hj (by rw[K];rfl) (by rfl) (fun _=>I) O p (Nat.zero_le _)
    intro F w ρ Mine M a hm g fr H hfe ha
    have V:=hy▸ha y (by simp[J,Op.operands])
    have L:=hx▸ha x (by simp[J,Op.operands])
    have hv:=Zzo V
    have D:(a.eval y).oneCell'=true:=by grind[Kzq]
    have hM:=(H j (by simp)).trans hj
    have S:=(H k (by simp)).trans hk
    obtain⟨v,w',F',ρ',B,k2,Q,k4,k5⟩:=U F w ρ Mine M a hm g fr (fun i hi=>H i (by simp_all)) (fun z hz i hi=>by
     grind[AVal.has]) (fun z hz=>by
     rw[N]
     by_cases e1:z=y
     ·subst e1;simp only[if_true];exact .pure (.unk D)
     simp_all)
    have E:∀q r,M.get q=some r->¬Own id q:=fun q r hq J=>by rw[fr.none q J]at hq;grind
    have T:ρ'.vec j=ρ.vec j:=(Q j (E j _ hM)).2
    have W:ρ'.vec k=ρ.vec k:=(Q k (E k _ S)).2
    obtain⟨_,X⟩:=hm.ok j _ hM
    rcases X with⟨_,hn0⟩|⟨b,cap,c,q1,q2,q3,q4,q5,q6,q7,q8⟩
    ·omega
    ·generalize hu:a.eval x=u at L
     cases L with
     |eptr G=>
      rw[G]at q1;cases q1
      have A:(a.eval y).cells=#[a.eval y]:=by generalize a.eval y=z at D;cases z<;>simp_all [Value.cells,Value.oneCell']
      have R:=q7 d p
      have hle:d * sz+off<c.size:=by rw[q5];exact Nat.lt_of_lt_of_le (wzs p (by omega)) (Nat.mul_le_mul_right _ q3)
      have hr:=ozd (P:=P) (off:=d * sz+off) (v:=a.eval y) hs (by simp_all) q2 (by omega) (by simp_all)
      have C:(execOp a.eval o).run P w=.ok .skip (w.setRow b (c.toList.take (d * sz+off)++(a.eval y).cells.toList++c.toList.drop (d * sz+off+(a.eval y).cells.toList.length)).toArray):=by
       grind[execOp,Instr.storeAt,Instr.sureAddr,Sem.run_bind,Sem.run_pure,Result.andThen_ok]
      have hw:w'=w.setRow b (c.toList.take (d * sz+off)++(a.eval y).cells.toList++c.toList.drop (d * sz+off+(a.eval y).cells.toList.length)).toArray:=by
       rcases B with B|⟨B,_⟩
       ·rw[C]at B;cases B
       ·rw[C]at B;cases B;rfl
      refine⟨v,w',F',ρ',B,k2,Q,k4,MemOk.setX k5 ⟨b,cap,_,by rw[T];exact G,by rw[hw];exact setRow_heap w b c _ e _ q2,p,by omega,R,?_⟩⟩
      rw[W,A,List.getElem?_toArray,kz1 _ _ _ _ (by simp;omega)]
      simp[hv]
   ·cases h
  ·cases h
 ·cases h
theorem azb6 {t:TypeId}{x y:Operand}{out:Out}(K:o.op=.store t x y)(h:Uzv P t (env x) (env y) m=some out):Sound1 P o env m id out:=by
 unfold Uzv at h
 split at h
 ·rename_i j off k hx X
  split at h
  ·rename_i A sz n f sh e Z J
   split at h
   ·split at h
    ·cases h
     classical
     obtain⟨b,H⟩:∃b:Operand->AVal,b=fun z=>if z=y then .pure (.lst sz n f)else env z:=⟨_,rfl⟩
     have u:bzi m [k]=[(k,.vec sz n f n e)]:=by simp[bzi,J]
     have Y:Mem.get ([(k,Res.vec sz n f n e)]++m) j=some (.box A):=by grind[Mem.get]
     have I:Fz0 P t (b x) (b y) ([(k,Res.vec sz n f n e)]++m)=some ⟨.any,[j],[(j,.box (A.take off++[.pure (.lst sz n f)]++A.drop (off+1)))],none⟩:=by
      grind[Fz0,AVal.cells,AVal.scalar]
     have C:=Wzb (P:=P) (id:=id) (env:=b) (m:=[(k,Res.vec sz n f n e)]++m) K I trivial
     intro F w ρ Mine M a O g B G W N
     have E:=(G k (by simp)).trans J
     obtain⟨s,d⟩:=tzt (m:=m) O g (is:=[k]) (fun i hi=>by simp_all)
     rw[u]at d
     have Q:=mzw (m:=m) O g (a:=.vec k) (p:=.lst sz n f) (is:=[k]) (js:=[k]) (by grind[Bz9,az7c]) (fun _ h=>h) (fun i hi=>by simp_all) (X▸N y (by simp[K,Op.operands]))
     have D:Fresh id ([(k,Res.vec sz n f n e)]++M):=by
      refine⟨fun i hi=>?_,fun i q r hi l=>?_⟩
      ·by_cases c:k=i
       ·subst c;rw[B.none k hi]at E;grind
       ·simp[Mem.get,c,B.none i hi]
      ·by_cases c:k=q
       ·subst c;simp[Mem.get]at l;subst l;rfl
       ·simp[Mem.get,c]at l;exact B.has i q r hi l
     obtain⟨v,U,F',ρ',V,T,S,R,k5⟩:=C (dzh F w ρ m [k]) w ρ Mine _ a d (s.good g) D (fun i hi=>by
      grind[Mem.get]) (fun z L i hi=>by
      grind[AVal.has]) (fun z L=>by
      rw[H]
      by_cases c:z=y
      ·simp only[if_pos c];rw[c];exact .pure Q
      ·simp only[if_neg c];exact(N z L).mono' s.sub s.cell)
     exact⟨v,U,F',ρ',V,s.trans T,S,R,by simp_all⟩
    grind
   grind
  grind
 grind
theorem az32 {m:Mem}:∀ {vs ds:List AVal},(purC m vs ds).length=vs.length/\∀ (j:Nat) (b:AVal),(purC m vs ds)[j]?=some b->
 ∃a,vs[j]?=some a/\(b=a\/∃p is,Bz9 m a=some (p,is)/\(∀i∈is,i∈purI m vs ds)/\b=.pure p)
 |[],ds=>by grind[purC]
 |a::l,[]=>⟨rfl,fun j b h=>⟨b,h,.inl rfl⟩⟩
 |a::l,d::ds=>by
  obtain⟨o,f⟩:=az32 (m:=m) (vs:=l) (ds:=ds)
  refine⟨by simp[purC,o],fun j b h=>?_⟩
  cases j with
  |zero=>
   simp only[purC,List.getElem?_cons_zero,Option.some.injEq]at h
   refine⟨a,by simp,?_⟩
   subst h
   have e:∀i∈(pur1 m a d).2,i∈purI m (a::l) (d::ds):=fun i hi=>by exact List.mem_append_left _ hi
   generalize c:pur1 m a d=q at e⊢
   unfold pur1 at c
   split at c
   ·split at c
    ·rename_i p is t
     subst c
     exact .inr ⟨p,is,t,e,rfl⟩
    ·subst c;exact .inl rfl
   ·subst c;exact .inl rfl
  |succ j=>
   obtain⟨s,g,n⟩:=f j b h
   exact⟨s,g,n.imp (fun h=>h) fun ⟨p,is,r,k,u⟩=>⟨p,is,r,fun i hi=>by exact List.mem_append_right _ (k i hi),u⟩⟩
theorem azb5 {t:TypeId}{x y:Operand}{out:Out}(ho:o.op=.store t x y)(h:Uzu P t (env x) (env y) m=some out)(R:holds out.obl):Sound1 P o env m id out:=by
 classical
 unfold Uzu at h
 split at h
 ·rename_i j off vs hx Z
  split at h
  ·rename_i N hj
   split at h
   ·cases h
   ·split at h
    ·rename_i C hs
     cases h
     generalize B:purI m vs (N.drop off)=d at *
     obtain⟨f,A⟩:∃f:Operand->AVal,f=fun z=>if z=y then .agg (purC m vs (N.drop off))else env z:=⟨_,rfl⟩
     have hxy:x≠y:=fun n=>by simp_all
     have K:=Wzb (P:=P) (id:=id) (env:=f) (m:=bzi m d++m) (out:=C) ho (by simp_all) R
     intro F w ρ Mine M a V g S U T X
     obtain⟨hlen,e⟩:=az32 (m:=m) (vs:=vs) (ds:=N.drop off)
     rw[B]at e
     have k:∀i∈d,M.get i=m.get i:=fun i hi=>U i (List.mem_append_left _ hi)
     obtain⟨q,L⟩:=tzt (m:=m) V g (is:=d) k
     have O:Fresh id (bzi m d++M):=by
      refine⟨fun i hi=>?_,fun i j r hi hj=>?_⟩
      ·rw[Mem.get_append]
       cases W:(bzi m d).get i with
       |none=>simpa using S.none i hi
       |some r=>
        obtain⟨G,r0,E,_⟩:=dzv W
        have:=S.none i hi
        simp_all
      ·rw[Mem.get_append]at hj
       cases W:(bzi m d).get j with
       |none=>exact S.has i j r hi (by simp_all)
       |some r'=>
        grind[dzv,Fzy]
     obtain⟨v,w',F',ρ',k1,k2,k3,k4,k5⟩:=K (dzh F w ρ m d) w ρ Mine (bzi m d++M) a L (q.good g) O (fun i hi=>by
      grind[Mem.get_append]) (fun z H i hi=>by
      rw[A]
      by_cases n:z=y
      ·simp only[if_pos n,AVal.has]
       have s:=T z H i hi
       rw[n,Z]at s
       have Q:∀ (l:List AVal),(∀ (j:Nat) (b:AVal),l[j]?=some b->b.has i=false)->AVal.hasL i l=false:=by
        intro l
        induction l with
        |nil=>intro _;rfl
        |cons b l ih=>intro h;simp only[AVal.hasL,Bool.or_eq_false_iff];exact⟨h 0 b (by simp),ih fun j c hc=>h (j+1) c (by simp_all)⟩
       refine Q _ fun I b J=>?_
       obtain⟨a',G,E⟩:=e I b J
       rcases E with rfl|⟨_,_,_,_,rfl⟩
       ·exact qz6 s G
       ·rfl
      simp_all) (fun z H=>by
      rw[A]
      by_cases n:z=y
      ·simp only[if_pos n]
       have s:=X z H
       rw[n,Z]at s
       rw[n]
       generalize a.eval y=u at s
       cases s with
       |agg hl hr=>
        refine .agg (by omega) fun I b v J hv=>?_
        obtain⟨a',G,E⟩:=e I b J
        have Y:=hr I a' v G hv
        rcases E with rfl|⟨p,is,hp,D,rfl⟩
        ·exact Y.mono' q.sub q.cell
        ·exact .pure (mzw V g hp D (fun i hi=>k i (D i hi)) Y)
      ·simp only[if_neg n];exact(X z H).mono' q.sub q.cell)
     exact⟨v,w',F',ρ',k1,q.trans k2,k3,k4,by simp_all⟩
    grind
  grind
 grind
theorem Gz0 {F:Cells}{w:World}{ρ:Env}:∀ (l:List Value),(vzk l).length=l.length/\∀ (j:Nat) (a:AVal) (v:Value),(vzk l)[j]?=some a->l[j]?=some v->ARel F w ρ a v
 |[]=>by simp[vzk]
 |x::l=>by
  have d:=Gz0 (F:=F) (w:=w) (ρ:=ρ) l
  have c:∀ (b:AVal),ARel F w ρ b x->(b::vzk l).length=(x::l).length/\∀ (j:Nat) (a:AVal) (v:Value),(b::vzk l)[j]?=some a->(x::l)[j]?=some v->ARel F w ρ a v:=by
   grind
  unfold vzk
  split
  ·simp_all
  ·rename_i e;cases e;exact c _ (.pure .nil)
  grind[izj]
theorem azar {e:TypeId}{out:Out}(J:o.op=.alloc e)(h:Uzk P e id=some out):Sound1 P o env m id out:=by
 unfold Uzk at h
 split at h
 ·rename_i z k
  split at h
  ·rename_i B
   cases h
   intro F w ρ Mine M a f g s _ A D
   obtain⟨v,G,l⟩:=Nzl (P:=P) (w:=w) k
   have c:v.cells.size=z.length:=by grind
   obtain⟨F',ρ',q,d,C,t⟩:=az2w f g s e v.cells (vzk z) []
    (fun i r h=>by simp[Mem.get]at h)
    (by rw[c];exact(Gz0 (F:=F) (w:=w) (ρ:=ρ) z).1)
    (fun F' x ρ' E I d p j y u n H=>by
     have b:z[j]?=some u:=by grind
     exact⟨(Gz0 (F:=F') (w:=x) (ρ:=ρ') z).2 j y u n b,List.all_eq_true.1 B u (List.mem_of_getElem? b)⟩)
   refine⟨.pointer (some ⟨w.heap.size,0,none⟩),w.alloc (.cells v.cells e),F',ρ',.value ?_,q,d,?_,by omega⟩
   ·simp_all[execOp,Instr.alloc,newVar,newRow]
   ·rw[←C];exact .ptr
  grind
 grind
end Go.Abs
