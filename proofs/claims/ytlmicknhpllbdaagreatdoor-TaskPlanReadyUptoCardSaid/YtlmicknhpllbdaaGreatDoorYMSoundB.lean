/-
  SoundB (a part of a claim: our own text).
-/
import Derived.Test.YtlmicknhpllbdaaGreatDoorYMSoundEq
import Derived.WalkLawsBesides
namespace Go.Abs
variable {P:Program} {o:Oper} {env:Operand->AVal} {m:Mem} {id:Nat}
theorem Ran.value {a:Act}{w b:World}{v:Value}(h:(execOp a.eval o).run P w=.ok (.value v) b):Ran P o a w v b:=.inl h
theorem azgh {x:Operand}(b:o.op=.move x):Sound1 P o env m id (.v (env x)):=
 Sound1.still fun F w ρ Mine M a _ _ c=>⟨a.eval x,.value (by simp[execOp,b]),c x (by simp[b,Op.operands])⟩
theorem azau {x:Operand}(b:o.op=.assign x):Sound1 P o env m id (.v (env x)):=
 Sound1.still fun F w ρ Mine M a _ _ c=>⟨a.eval x,.value (by simp[execOp,b]),c x (by simp[b,Op.operands])⟩
theorem azco {c x y:Operand}(f:o.op=.pick c x y){b:Bool}(h:env c=if b then .tt else .ff):Sound1 P o env m id (.v (env (if b then x else y))):=
 Sound1.still fun F w ρ Mine M a _ _ e=>by
  have d:=e c (by simp[f,Op.operands])
  have g:a.eval c=.bool b:=by
   rw[h]at d
   generalize a.eval c=u at d⊢
   cases b<;>cases d<;>rfl
  refine⟨a.eval (if b then x else y),.value ?_,e _ (by grind[Op.operands])⟩
  cases b<;>simp[execOp,f,g,asBool]
theorem az4e {x:Operand}(c:o.op=.nilCheck x)(h:match env x with| .ptr _ _| .eptr _ _ _ _| .ref _| .func _ _ _| .iface _ _=>True|_=>False):Sound1 P o env m id (.v (env x)):=
 Sound1.still fun F w ρ Mine M a _ _ e=>by
  have b:=e x (by simp[c,Op.operands])
  refine⟨a.eval x,.value ?_,b⟩
  revert h b
  generalize env x=y
  generalize d:a.eval x=v
  intro h b
  cases b<;>first|(exact h.elim)|(simp[execOp,c,d])
theorem az35 (l:List Operand){F:Cells}{w:World}{ρ:Env}{a:Act}(h:∀x∈l,ARel F w ρ (env x) (a.eval x)):
 (l.map env).length=(l.map a.eval).length/\∀ (j:Nat) (y:AVal) (v:Value),(l.map env)[j]?=some y->(l.map a.eval)[j]?=some v->ARel F w ρ y v:=by
 grind
theorem az4d {f:Nat}{xs b:Array Operand}(i:o.op=.makeFunc (.func f) xs b):Sound1 P o env m id (.v (.func f (xs.toList.map env) (b.toList.map env))):=
 Sound1.still fun F w ρ Mine M a _ _ d=>by
  have g:=az35 (env:=env) xs.toList (F:=F) (w:=w) (ρ:=ρ) (a:=a) (fun x h=>d x (by grind[Op.operands]))
  have e:=az35 (env:=env) b.toList (F:=F) (w:=w) (ρ:=ρ) (a:=a) (fun x h=>d x (by grind[Op.operands]))
  refine⟨.func (.func f) (xs.map a.eval) (b.map a.eval),.value (by simp[execOp,i,Instr.makeFunc]),.func (by simp) (fun j y v c k=>g.2 j y v c ?_) (by simp) (fun j y v c k=>e.2 j y v c ?_)⟩
  all_goals simp_all
theorem az7v {x:Operand}{i:Nat}{c:List AVal}{v:AVal}(k:o.op=.extract x i)(e:env x=.tup c)(d:c[i]?=some v):Sound1 P o env m id (.v v):=
 Sound1.still fun F w ρ Mine M a _ _ h=>by
  have b:=h x (by simp[k,Op.operands])
  rw[e]at b
  generalize l:a.eval x=u at b
  cases b with
  |tup j f=>
   rename_i vs
   have g:i<vs.size:=j▸(List.getElem?_eq_some_iff.1 d).1
   exact⟨vs[i],.value (by simp_all[execOp,Instr.extract]),f i v _ d (by simp)⟩
theorem Nzx {F:Cells}{w:World}{ρ:Env}{Mine:Nat->Prop}{M:Mem}{i:Nat}{b:List AVal}(d:MemOk F w ρ Mine M)(h:M.get i=some (.box b)):
 ∃c e,w.heap[ρ.blk i]?=some (.cells c e (0,0))/\c.size=b.length/\(∀o,¬F (ρ.blk i) o)/\∀ (j:Nat) (a:AVal) (v:Value),b[j]?=some a->c[j]?=some v->ARel F w ρ a v/\v.oneCell'=true:=d.ok i _ h
theorem azgg {t:TypeId}{x:Operand}{out:Out}(Q:o.op=.load t x)(h:Dzm P t (env x) m=some out)(J:holds out.obl):Sound1 P o env m id out:=by
 have C:∀ {a:Act} {w:World} {b off:Nat} {v:Value},a.eval x=.pointer (some ⟨b,off,none⟩)->(loadVar t ⟨b,off,none⟩).run P w=.ok v w->Ran P o a w v w:=by
  intro a w b off v g z
  exact .value (by simp_all[execOp,Instr.loadAt,Instr.sureAddr])
 cases g:env x with
 |ref p=>
  rw[g]at h
  have L:out.wr=[]:=by
   unfold Dzm at h;simp only at h
   split at h<;>first|(split at h<;>first|(simp at h;subst h;rfl)|(cases h))|cases h
  obtain⟨val,rd,wr,ob⟩:=out
  subst L
  refine Sound1.still fun F w ρ Mine M a _ _ D=>?_
  have d:=D x (by simp[Q,Op.operands])
  rw[g]at d
  generalize I:a.eval x=u at d
  cases d with
  |ref R=>
   obtain⟨v,z,U,_⟩:=aza5 (ρ:=ρ) h R
   grind
 |ptr i off=>
  rw[g]at h
  simp only[Dzm]at h
  split at h
  ·rename_i cs r
   split at h
   ·rename_i v U
    simp at h;subst h
    refine Sound1.still fun F w ρ Mine M a T l D=>?_
    have d:=D x (by simp[Q,Op.operands])
    rw[g]at d
    generalize I:a.eval x=u at d
    cases d with
    |ptr=>
     obtain⟨c,e,S,hl,_,z⟩:=Nzx T ((l i (by simp)).trans r)
     rcases Vzm (F:=F) (w:=w) (ρ:=ρ) U hl.symm (fun j a v d y=>(z j a v d y).1)with⟨d,s,y,H,h4⟩|⟨d,u,y,H⟩
     all_goals grind[qzt]
   grind
  grind
 |eptr i sz k off=>
  rw[g]at h
  simp only[Dzm]at h
  split at h
  ·rename_i sz' n f sh e r
   split at h
   ·rename_i B
    split at h
    ·rename_i p R
     simp at h;subst h;subst B
     refine Sound1.still fun F w ρ Mine M a T l D=>?_
     have d:=D x (by simp[Q,Op.operands])
     rw[g]at d
     generalize I:a.eval x=u at d
     cases d with
     |eptr E=>
      have O:k<n:=J
      rcases T.ok i _ ((l i (by simp)).trans r)with⟨_,⟨N,Z⟩|⟨b',X,c,A,S,hnc,hcm,G,hFk,K,hel⟩⟩
      ·omega
      ·rw[E]at A
       cases A
       have W:=K k O
       have Y:k * sz+sz≤c.size:=by
        rw[G,←Nat.succ_mul];exact Nat.mul_le_mul_right _ (by omega)
       have z:∀ (j:Nat) (q:PVal) (v:Value),(f k).cells[j]?=some q->(c.extract (k * sz) (k * sz+sz))[j]?=some v->PRel F w q v:=by
        grind
       have V:(c.extract (k * sz) (k * sz+sz)).size=sz:=by simp_all
       rcases Pzh (F:=F) (w:=w) R (by omega) z with⟨d,s,y,H,h4⟩|⟨d,u,y,H⟩
       ·refine⟨_,C I (qzt S (.inl ⟨d,s,y,?_,rfl⟩)),.pure ?_⟩
        all_goals grind
       ·refine⟨u,C I (qzt S (.inr ⟨d,?_⟩)),.pure H⟩
        grind
    grind
   grind
  grind
 |_=>rw[g]at h;simp[Dzm]at h
theorem Fz1 {w:World}{b off:Nat}{s:TypeId}{f a:Nat}{c:TypeId}(h:az0s P s f=some (a,c)):
 ∀ (v:Value),v=.pointer (some ⟨b,off,none⟩)->(Instr.fieldAt s v f).run P w=.ok (.pointer (some ⟨b,off+a,none⟩)) w:=by
 unfold az0s at h
 split at h
 ·split at h
  ·split at h
   ·simp_all[Instr.fieldAt,run_underlying,Instr.sureAddr,fieldPlace,cz3,ezl]
   grind
  grind
 grind
theorem azej {s:TypeId}{x:Operand}{f:Nat}{out:Out}(c:o.op=.fieldAddr s x f)(h:az0j P s (env x) f=some out):Sound1 P o env m id out:=by
 unfold az0j at h
 split at h
 ·rename_i v y l
  split at h
  ·rename_i i off g
   simp at h;subst h
   refine Sound1.still fun F w ρ Mine M a n j d=>?_
   have b:=d x (by simp[c,Op.operands])
   rw[g]at b
   generalize e:a.eval x=u at b
   cases b with
   |ptr=>exact⟨_,.value (by simp only[execOp,c,Sem.run_bind,Fz1 l _ e,Result.andThen_ok,Sem.run_pure]),.ptr⟩
  ·rename_i i sz k off g
   simp at h;subst h
   refine Sound1.still fun F w ρ Mine M a n j d=>?_
   have b:=d x (by simp[c,Op.operands])
   rw[g]at b
   generalize e:a.eval x=u at b
   cases b with
   |eptr p=>
    refine⟨_,.value (by simp only[execOp,c,Sem.run_bind,Fz1 l _ e,Result.andThen_ok,Sem.run_pure];rfl),?_⟩
    rw[Nat.add_assoc]
    exact .eptr p
  ·rename_i z g
   split at h
   ·rename_i q t
    simp at h;subst h
    refine Sound1.still fun F w ρ Mine M a n j d=>?_
    have b:=d x (by simp[c,Op.operands])
    rw[g]at b
    generalize e:a.eval x=u at b
    cases b with
    |ref r=>exact⟨_,.value (by simp only[execOp,c,Sem.run_bind,Fz1 l _ e,Result.andThen_ok,Sem.run_pure]),.ref (r.part t)⟩
   grind
  grind
 grind
theorem azav {s:TypeId}{x:Operand}{f:Nat}{out:Out}(t:o.op=.field s x f)(h:Uzn P s (env x) f=some out):Sound1 P o env m id out:=by
 unfold Uzn at h
 split at h
 ·split at h
  ·rename_i r z
   have c:∀ {a:Act} {w:World} {vs:Array Value} {v:Value},a.eval x=.agg vs->(part r.type vs r.offset).run P w=.ok v w->Ran P o a w v w:=by
    intro a w vs v i j
    exact .value (by simp_all[execOp,Instr.field,run_underlying,asAgg])
   split at h
   ·rename_i y i
    simp only[Option.map_eq_some_iff]at h
    obtain⟨v,k,rfl⟩:=h
    refine Sound1.still fun F w ρ Mine M a A p n=>?_
    have b:=n x (by simp[t,Op.operands])
    rw[i]at b
    generalize g:a.eval x=u at b
    cases b with
    |agg q j=>
     rcases Vzm (F:=F) (w:=w) (ρ:=ρ) k q j with⟨b,s,d,e,l⟩|⟨b,u,d,e⟩
     ·exact⟨_,c g (qzd (.inl ⟨b,s,d,rfl⟩)),l⟩
     ·exact⟨_,c g (qzd (.inr ⟨b,d⟩)),e⟩
   ·rename_i y i
    simp only[Option.map_eq_some_iff]at h
    obtain⟨v,k,rfl⟩:=h
    refine Sound1.still fun F w ρ Mine M a A p n=>?_
    have b:=n x (by simp[t,Op.operands])
    rw[i]at b
    obtain⟨vs,g,q,j⟩:=b.pure_inv.agg_inv
    rcases Pzh (F:=F) (w:=w) k q j with⟨b,s,d,e,l⟩|⟨b,u,d,e⟩
    ·exact⟨_,c g (qzd (.inl ⟨b,s,d,rfl⟩)),.pure l⟩
    ·exact⟨_,c g (qzd (.inr ⟨b,d⟩)),.pure e⟩
   grind
  grind
 grind
theorem az1m {t:TypeId}{x i:Operand}{out:Out}(z:o.op=.indexAddr t x i)(h:Ezz P t (env x) (env i) m=some out)(v:holds out.obl):Sound1 P o env m id out:=by
 unfold Ezz at h
 split at h
 ·rename_i Q A hi
  have p:∀ {F:Cells} {w:World} {ρ:Env} {a:Act},(∀x∈o.op.operands,ARel F w ρ (env x) (a.eval x))->a.eval i=.int Q A:=fun g=>
   (hi▸g i (by simp[z,Op.operands])).pure_inv.int_inv
  split at h
  ·rename_i e I
   split at h
   ·rename_i sz n f y
    split at h
    ·simp at h;subst h
     obtain⟨h0,U⟩:=v
     refine Sound1.still fun F w ρ Mine M a G r g=>?_
     have d:=g x (by simp[z,Op.operands])
     rw[y]at d
     rcases d.pure_inv.lst_inv with⟨H,C⟩|⟨_,_,_,C,_⟩|⟨b,off,cap,c,H,K,L,N,hc,hr⟩
     ·omega
     ·omega
     ·refine⟨.pointer (some ⟨b,off+A.toNat * sz,none⟩),.value ?_,.ref ⟨fun j=>c (A.toNat * sz+j),fun j q S=>?_⟩⟩
      ·simp only[execOp,z,Instr.indexAt,Sem.run_bind,p g,H,asIntOf,Sem.run_pure,Result.andThen_ok,run_underlying I]
       simp_all[cz3,ezl]
      grind
    grind
   ·rename_i k y
    split at h
    ·rename_i sz n f sh e' hk
     split at h
     ·simp at h;subst h
      obtain⟨h0,U⟩:=v
      refine Sound1.still fun F w ρ Mine M a G r g=>?_
      have d:=g x (by simp[z,Op.operands])
      rw[y]at d
      have D:=G.ok k _ ((r k (by simp)).trans hk)
      generalize l:a.eval x=u at d
      rcases D with⟨_,⟨J,C⟩|⟨X,T,c,E,hb,K,L,R,W,N,V⟩⟩
      ·omega
      ·cases d with
       |vnil O=>simp_all
       |vec O=>
        rw[O]at E;cases E
        refine⟨.pointer (some ⟨X,A.toNat * sz+0,none⟩),.value ?_,.eptr O⟩
        simp only[execOp,z,Instr.indexAt,Sem.run_bind,p g,l,asIntOf,Sem.run_pure,Result.andThen_ok,run_underlying I]
        simp_all[cz3,ezl]
     grind
    grind
   grind
  ·rename_i len e I
   split at h
   ·rename_i s hs
    have B:∀ {a:Act} {w:World} {b off:Nat},a.eval i=.int Q A->a.eval x=.pointer (some ⟨b,off,none⟩)->0≤A/\A<len->
     Ran P o a w (.pointer (some ⟨b,off+A.toNat * s,none⟩)) w:=by
     intro a w b off d Y h3
     refine .value ?_
     simp only[execOp,z,Instr.indexAt,Sem.run_bind,d,Y,asIntOf,Sem.run_pure,Result.andThen_ok,run_underlying I,Instr.sureAddr]
     simp_all[cz3,ezl]
    split at h
    ·rename_i k off y
     simp at h;subst h
     refine Sound1.still fun F w ρ Mine M a G r g=>?_
     have d:=g x (by simp[z,Op.operands])
     rw[y]at d
     generalize l:a.eval x=u at d
     cases d with
     |ptr=>exact⟨_,B (p g) l v,.ptr⟩
    ·rename_i k sz q off y
     simp at h;subst h
     refine Sound1.still fun F w ρ Mine M a G r g=>?_
     have d:=g x (by simp[z,Op.operands])
     rw[y]at d
     generalize l:a.eval x=u at d
     cases d with
     |eptr H=>refine⟨_,B (p g) l v,?_⟩;rw[Nat.add_assoc];exact .eptr H
    ·rename_i cs y
     split at h
     ·rename_i q S
      simp at h;subst h
      refine Sound1.still fun F w ρ Mine M a G r g=>?_
      have d:=g x (by simp[z,Op.operands])
      rw[y]at d
      generalize l:a.eval x=u at d
      cases d with
      |ref Z=>exact⟨_,B (p g) l v,.ref (Z.part S)⟩
     grind
    grind
   grind
  grind
 grind
theorem azel {t:TypeId}{x i:Operand}{out:Out}(y:o.op=.index t x i)(h:az0l P t (env x) (env i)=some out)(g:holds out.obl):Sound1 P o env m id out:=by
 unfold az0l at h
 split at h
 ·rename_i R b hi
  have A:∀ {F:Cells} {w:World} {ρ:Env} {a:Act},(∀x∈o.op.operands,ARel F w ρ (env x) (a.eval x))->a.eval i=.int R b:=fun f=>
   (hi▸f i (by simp[y,Op.operands])).pure_inv.int_inv
  split at h
  ·rename_i len e D
   split at h
   ·rename_i s ps O I
    have r:∀ (p:PVal),0≤b->b<len->Pzg P e ps (b.toNat * s)=some p->Sound1 P o env m id ⟨.pure p,[],[],some (0≤b/\b<len)⟩:=by
     intro p q B N
     refine Sound1.still fun F w ρ Mine M a T K f=>?_
     have c:=f x (by simp[y,Op.operands])
     rw[I]at c
     obtain⟨vs,G,d,Q⟩:=c.pure_inv.agg_inv
     have z:∀ {v:Value},(part e vs (b.toNat * s)).run P w=.ok v w->Ran P o a w v w:=fun N=>.value (by
      simp only[execOp,y,Instr.index,Sem.run_bind,A f,G,asIntOf,Sem.run_pure,Result.andThen_ok,run_underlying D]
      simp_all[cz3])
     rcases Pzh (F:=F) (w:=w) N d Q with⟨c,s,J,L,U⟩|⟨c,u,J,L⟩
     ·exact⟨_,z (qzd (.inl ⟨c,s,J,rfl⟩)),.pure U⟩
     ·exact⟨_,z (qzd (.inr ⟨c,J⟩)),.pure L⟩
    split at h
    ·rename_i k l d
     simp at h;subst h
     obtain⟨q,B⟩:=g
     refine r _ q B ?_
     unfold az2r at d
     split at d
     ·rename_i k' S n
      rw[O]at n;cases n
      split at d
      ·rename_i V C
       split at d
       ·cases d
        have H:∀ (ps:List PVal) (l:List Int),Lz4 k ps=some l->∀j,j<l.length->ps[j]?=some (.int k (l.getD j 0)):=by
         intro ps
         induction ps with
         |nil=>grind[Lz4]
         |cons p ps X=>
          intro l h j W
          cases p<;>simp only[Lz4]at h<;>try cases h
          grind
        have E:=H ps l C b.toNat (by omega)
        unfold Pzg eza
        rw[S,O]
        simp only[Nat.mul_one,E]
        rfl
       simp_all
      simp_all
     simp_all
    ·split at h
     ·simp at h;subst h
      obtain⟨q,B⟩:=g
      simp_all
     grind
   grind
  ·rename_i D
   split at h
   ·rename_i s I
    cases h
    obtain⟨q,B⟩:=g
    refine Sound1.still fun F w ρ Mine M a T K f=>?_
    have c:=(I▸f x (by simp[y,Op.operands])).pure_inv.str_inv
    refine⟨.int .u8 (s.data.getD b.toNat 0).toNat,.value ?_,.pure .int⟩
    have E:s[b.toNat]?=some (s.data.getD b.toNat 0):=by
     simp_all[ByteArray.getElem_eq_getElem_data]
    simp only[execOp,y,Instr.index,Sem.run_bind,A f,c,asIntOf,Sem.run_pure,Result.andThen_ok,run_underlying D,q,if_true,E]
   grind
  grind
 grind
variable {P:Program} {o:Oper} {env:Operand->AVal} {m:Mem} {id:Nat}
theorem az8o (P:Program):20≤P.depth:=by grind[Program.depth,Made.depth]
theorem az4r {F:Cells}{w:World}{a:BinOp}{t:TypeId}{p q r:PVal}{ob:Option Prop}{v u:Value}(x y:Operand)(h:az8s P a t p q=some (r,ob))(b:holds ob)
 (f:PRel F w p v) (e:PRel F w q u):(eqGuard a t x y v u).run P w=.ok () w/\∃z,(binOp a t v u).run P w=.ok z w/\PRel F w r z:=by
 unfold az8s at h
 split at h
 ·obtain rfl:=f.int_inv
  obtain rfl:=e.int_inv
  refine⟨by simp_all[eqGuard],?_⟩
  cases a<;>simp only at h<;>(try(split at h))<;>(try(cases h;done))<;>(try(rename_i B;subst B))<;>simp only[Option.some.injEq,Prod.mk.injEq]at h<;>obtain⟨rfl,rfl⟩:=h
  all_goals simp only[holds]at b
  all_goals first
   |(refine⟨_,?_,.int⟩;simp only[binOp,Op.intArith,ne_eq,not_true_eq_false,if_false,Sem.run_pure];done)
   |(refine⟨_,?_,.bool⟩;simp only[binOp,Op.intCmp,ne_eq,not_true_eq_false,if_false,Sem.run_pure];done)
   |(refine⟨_,?_,.int⟩;simp only[binOp,Op.intBits,ne_eq,not_true_eq_false,if_false,Sem.run_pure];done)
   |(refine⟨_,?_,.int⟩;simp only[binOp,Op.intDiv,ne_eq,not_true_eq_false,if_false,b,Sem.run_pure];done)
   |(refine⟨_,?_,.int⟩;simp only[binOp,Op.shift,Int.not_lt.2 b,if_false,Sem.run_pure];done)
 ·obtain rfl:=f.bool_inv
  obtain rfl:=e.bool_inv
  split at h
  ·refine⟨by simp_all[eqGuard],?_⟩
   cases a<;>simp only at h<;>(try(cases h;done))<;>simp only[Option.some.injEq,Prod.mk.injEq]at h<;>obtain⟨rfl,rfl⟩:=h
   ·exact⟨_,by simp_all[binOp,run_equal_bool],.bool⟩
   ·exact⟨_,by grind[binOp,Sem.run_bind,run_equal_bool,Result.andThen_ok,Sem.run_pure],.bool⟩
  grind
 ·obtain rfl:=f.str_inv
  obtain rfl:=e.str_inv
  refine⟨by simp_all[eqGuard],?_⟩
  cases a<;>simp only at h<;>(try(cases h;done))<;>simp only[Option.some.injEq,Prod.mk.injEq]at h<;>obtain⟨rfl,rfl⟩:=h
  ·exact⟨_,by grind[binOp,Op.stringOp,Sem.run_pure,beq_toListBytes],.bool⟩
  ·exact⟨_,by grind[binOp,Op.stringOp,Sem.run_pure,bne,beq_toListBytes],.bool⟩
 ·rename_i xs D
  obtain⟨vs,rfl,C,A⟩:=f.agg_inv
  obtain⟨j,rfl,l,m⟩:=e.agg_inv
  split at h
  ·rename_i n d
   split at h
   ·rename_i o
    simp only[Bool.and_eq_true]at o
    split at h
    ·rename_i s k
     obtain⟨⟨c,i⟩,g⟩:=o
     have c:eza P t=some true:=by simp_all
     have e:=Nzd (F:=F) (w:=w) 20 t n d 9980 (.agg vs) (.agg j) xs D s (.inl ⟨c,vs,rfl,C,A⟩) (.inl ⟨c,j,rfl,l,m⟩) i g k
     refine⟨run_eqGuard_agg w a t x y vs j (Jzg 20 t n d P.depth (az8o P)),?_⟩
     cases a<;>simp only at h<;>(try(cases h;done))<;>simp only[Option.some.injEq,Prod.mk.injEq]at h<;>obtain⟨rfl,rfl⟩:=h
     ·exact⟨_,by simp_all[run_eql_struct],.bool⟩
     ·exact⟨_,by simp_all[run_neq_struct],.bool⟩
    grind
   grind
  grind
 grind
theorem azhb {c:BinOp}{t i:TypeId}{x y:Operand}{p q r:PVal}{ob:Option Prop}(e:o.op=.binOp c t x y i)(j:(env x).toP=some p)(f:(env y).toP=some q)
 (h:az8s P c t p q=some (r,ob)) (b:holds ob):Sound1 P o env m id ⟨.pure r,[],[],ob⟩:=
 Sound1.still fun F w ρ Mine M a _ _ d=>by
  obtain⟨k,z,l,g⟩:=az4r (w:=w) x y h b ((d x (by simp[e,Op.operands])).toP j) ((d y (by simp[e,Op.operands])).toP f)
  exact⟨z,.value (by grind[execOp,Sem.run_bind,Result.andThen_ok,Sem.run_pure]),.pure g⟩
theorem azgi {t:TypeId}{x:Operand}{b:Bool}(f:o.op=.unOp .not t x)(e:env x=if b then .tt else .ff):Sound1 P o env m id (.v (if b then .ff else .tt)):=
 Sound1.still fun F w ρ Mine M a _ _ d=>by
  have c:=d x (by simp[f,Op.operands])
  have g:a.eval x=.bool b:=by
   rw[e]at c
   generalize a.eval x=u at c⊢
   cases b<;>cases c<;>rfl
  refine⟨.bool (!b),.value (by simp_all[execOp,Op.unary]),?_⟩
  cases b
  ·exact .tt
  ·exact .ff
theorem s_un {c:UnOp}{t:TypeId}{x:Operand}{p r:PVal}(f:o.op=.unOp c t x)(g:env x=.pure p)(h:evUn c p=some r):Sound1 P o env m id (.v (.pure r)):=
 Sound1.still fun F w ρ Mine M a _ _ e=>by
  have b:=(g▸e x (by simp[f,Op.operands])).pure_inv
  unfold evUn at h
  split at h
  ·cases h
   have d:=b.bool_inv
   exact⟨_,.value (by grind[execOp,Op.unary,Sem.run_pure]),.pure .bool⟩
  ·cases h
   have d:=b.int_inv
   exact⟨_,.value (by grind[execOp,Op.unary,Op.intArith,Sem.run_pure]),.pure .int⟩
  ·cases h
   have d:=b.int_inv
   exact⟨_,.value (by grind[execOp,Op.unary,Op.intBits,Sem.run_pure]),.pure .int⟩
  grind
theorem azge {s d:TypeId}{x:Operand}{p r:PVal}(i:o.op=.convert s d x)(g:(P.underlying s).isSome=true)(f:(env x).toP=some p)(h:az5r P d p=some r):Sound1 P o env m id (.v (.pure r)):=
 Sound1.still fun F w ρ Mine M a _ _ c=>by
  have b:=(c x (by simp[i,Op.operands])).toP f
  obtain⟨ds,e⟩:=Option.isSome_iff_exists.1 g
  unfold az5r at h
  split at h
  ·cases h
   have j:=b.int_inv
   refine⟨_,.value ?_,.pure .int⟩
   simp_all[execOp,convert,run_underlying,Conv.intToInt]
  ·cases h
   have j:=b.str_inv
   refine⟨_,.value ?_,.pure .str⟩
   simp_all[execOp,convert,run_underlying]
  grind
theorem Cz6 {a:Act}{w:World}{x:Operand}{b:Array TypeId}{n:Int}(c:o.op=.call {callee:=.builtin .len,args:=#[x],argTypes:=b})
 (h:(Builtin.len_ b o.type #[a.eval x]).run P w=.ok (.int .i64 n) w):Ran P o a w (.int .i64 n) w:=by
 refine .value ?_
 simp_all[execOp,resolve,invoke,builtin]
theorem azhe {x:Operand}{D:Array TypeId}{out:Out}(r:o.op=.call {callee:=.builtin .len,args:=#[x],argTypes:=D})(h:az0m P D (env x) m=some out):Sound1 P o env m id out:=by
 have d:x∈o.op.operands:=by grind[Op.operands,Call.operands]
 unfold az0m at h
 split at h
 ·rename_i t J
  split at h
  ·rename_i e sz n f A p
   cases h
   refine Sound1.still fun F w ρ Mine M a _ _ j=>⟨.int .i64 n,Cz6 r ?_,.pure .int⟩
   rcases(p▸j x d).pure_inv.lst_inv with⟨B,q⟩|⟨_,_,B,q,_⟩|⟨b,off,cap,c,B,_⟩
   all_goals simp_all[Builtin.len_,run_underlying,goInt]
  ·rename_i e i n A p
   cases h
   refine Sound1.still fun F w ρ Mine M a _ _ j=>⟨.int .i64 n,Cz6 r ?_,.pure .int⟩
   have g:=p▸j x d
   generalize a.eval x=u at g⊢
   cases g<;>simp_all[Builtin.len_,run_underlying,goInt]
  ·rename_i e i A p
   split at h
   ·rename_i sz n f sh G v
    cases h
    refine Sound1.still fun F w ρ Mine M a y l j=>⟨.int .i64 n,Cz6 r ?_,.pure .int⟩
    have g:=p▸j x d
    generalize a.eval x=u at g⊢
    rcases y.ok i _ ((l i (by simp)).trans v)with⟨_,⟨k,q⟩|⟨E,z,c,C,_⟩⟩
    ·cases g<;>simp_all[Builtin.len_,run_underlying,goInt]
    ·cases g<;>simp_all[Builtin.len_,run_underlying,goInt]
   ·rename_i sz n f kk G off I H K v
    cases h
    refine Sound1.still fun F w ρ Mine M a y l j=>⟨.int .i64 n,Cz6 r ?_,.pure .int⟩
    have g:=p▸j x d
    generalize a.eval x=u at g⊢
    rcases y.ok i _ ((l i (by simp)).trans v)with⟨_,_,⟨k,q,_⟩|⟨E,z,c,C,_⟩⟩
    ·cases g<;>simp_all[Builtin.len_,run_underlying,goInt]
    ·cases g<;>simp_all[Builtin.len_,run_underlying,goInt]
   ·rename_i v
    cases h
    refine Sound1.still fun F w ρ Mine M a y l j=>⟨.int .i64 (0:Nat),Cz6 r ?_,.pure .int⟩
    have g:=p▸j x d
    generalize a.eval x=u at g⊢
    have k:ρ.vec i=none:=y.ok i _ ((l i (by simp)).trans v)
    cases g<;>simp_all[Builtin.len_,run_underlying,goInt]
   grind
  ·rename_i s A p
   cases h
   refine Sound1.still fun F w ρ Mine M a _ _ j=>⟨.int .i64 s.size,Cz6 r ?_,.pure .int⟩
   have B:=(p▸j x d).pure_inv.str_inv
   simp_all[Builtin.len_,run_underlying,goInt]
  ·rename_i n e A
   cases h
   refine Sound1.still fun F w ρ Mine M a _ _ j=>⟨.int .i64 n,Cz6 r ?_,.pure .int⟩
   simp_all[Builtin.len_,run_underlying,goInt]
  grind
 grind
end Go.Abs
