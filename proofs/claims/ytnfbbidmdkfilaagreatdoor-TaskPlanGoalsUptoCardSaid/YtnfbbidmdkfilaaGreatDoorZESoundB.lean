import Derived.Test.YtnfbbidmdkfilaaGreatDoorZESoundEq
import Derived.WalkLawsBesides
open Go renaming TypeId->qq,Operand->xR,Value->qr,World->qn,execOp->zd,run_underlying->zf
open Go.Op renaming operands->zb
open Go.Result renaming andThen_ok->xU
open Go.Sem renaming run_bind->xV,run_pure->xW
open Nat renaming add_assoc->xF
open Option renaming map_eq_some_iff->za
namespace Go.Abs
variable {P:Program} {o:Oper} {env:xR->AVal} {m:Mem} {id:Nat}
theorem Ran.value {a:Act}{w b:qn}{v:qr}(h:(zd a.eval o).run P w=.ok (.value v) b):Ran P o a w v b:=.inl h
theorem azm2 {x:xR}(b:o.op=.move x):Sound1 P o env m id (.v (env x)):=
 Sound1.still λF w ρ Mine M a _ _ c=>⟨a.eval x,.value (by simp[zd,b]),c x (by simp[b,zb])⟩
theorem azfg {x:xR}(b:o.op=.assign x):Sound1 P o env m id (.v (env x)):=
 Sound1.still λF w ρ Mine M a _ _ c=>⟨a.eval x,.value (by simp[zd,b]),c x (by simp[b,zb])⟩
theorem azh8 {c x y:xR}(f:o.op=.pick c x y){b:Bool}(h:env c=if b then .tt else .ff):Sound1 P o env m id (.v (env (if b then x else y))):=
 Sound1.still λF w ρ Mine M a _ _ e=>by
  have d:=e c (by simp[f,zb]);have g:a.eval c=.bool b:=by
   rw[h]at d;generalize a.eval c=u at d⊢;cases b<;>cases d<;>rfl
  refine⟨a.eval (if b then x else y),.value ?_,e _ (by grind[zb])⟩;cases b<;>simp[zd,f,g,asBool]
theorem az7o {x:xR}(c:o.op=.nilCheck x)(h:match env x with| .ptr _ _| .eptr _ _ _ _| .ref _| .func _ _ _| .iface _ _=>True|_=>False):Sound1 P o env m id (.v (env x)):=
 Sound1.still λF w ρ Mine M a _ _ e=>by
  have b:=e x (by simp[c,zb]);refine⟨a.eval x,.value ?_,b⟩;revert h b;generalize env x=y;generalize d:a.eval x=v;intro h b;cases b<;>first|(exact h.elim)|(simp[zd,c,d])
theorem az5t (l:List xR){F:Cells}{w:qn}{ρ:Env}{a:Act}(h:∀x∈l,ARel F w ρ (env x) (a.eval x)):
 (l.map env).length=(l.map a.eval).length/\∀ (j:Nat) (y:AVal) (v:qr),(l.map env)[j]?=some y->(l.map a.eval)[j]?=some v->ARel F w ρ y v:=by
 grind
theorem az7n {f:Nat}{xs b:Array xR}(i:o.op=.makeFunc (.func f) xs b):Sound1 P o env m id (.v (.func f (xs.toList.map env) (b.toList.map env))):=
 Sound1.still λF w ρ Mine M a _ _ d=>by
  have g:=az5t (env:=env) xs.toList (F:=F) (w:=w) (ρ:=ρ) (a:=a) (λx h=>d x (by grind[zb]));have e:=az5t (env:=env) b.toList (F:=F) (w:=w) (ρ:=ρ) (a:=a) (λx h=>d x (by grind[zb]));refine⟨.func (.func f) (xs.map a.eval) (b.map a.eval),.value (by simp[zd,i,Instr.makeFunc]),.func jt (λj y v c k=>g.2 j y v c ?_) jt (λj y v c k=>e.2 j y v c ?_)⟩;all_goals simp_all
theorem azc3 {x:xR}{i:Nat}{c:List AVal}{v:AVal}(k:o.op=.extract x i)(e:env x=.tup c)(d:c[i]?=some v):Sound1 P o env m id (.v v):=
 Sound1.still λF w ρ Mine M a _ _ h=>by
  have b:=h x (by simp[k,zb]);rw[e]at b;generalize l:a.eval x=u at b;cases b with
  |tup j f=>
   rename_i vs;have g:i<vs.size:=j▸(List.getElem?_eq_some_iff.1 d).1;exact⟨vs[i],.value (by simp_all[zd,Instr.extract]),f i v _ d jt⟩
theorem Pzu {F:Cells}{w:qn}{ρ:Env}{Mine:Nat->Prop}{M:Mem}{i:Nat}{b:List AVal}(d:MemOk F w ρ Mine M)(h:M.get i=some (.box b)):
 ∃c e,w.heap[ρ.blk i]?=some (.cells c e (0,0))/\c.size=b.length/\(∀o,¬F (ρ.blk i) o)/\∀ (j:Nat) (a:AVal) (v:qr),b[j]?=some a->c[j]?=some v->ARel F w ρ a v/\v.oneCell'=true:=d.ok i _ h
theorem azm1 {t:qq}{x:xR}{out:Out}(Q:o.op=.load t x)(h:Gz1 P t (env x) m=some out)(J:holds out.obl):Sound1 P o env m id out:=by
 have C:∀ {a:Act} {w:qn} {b off:Nat} {v:qr},a.eval x=.pointer (some ⟨b,off,none⟩)->(loadVar t ⟨b,off,none⟩).run P w=.ok v w->Ran P o a w v w:=by
  intro a w b off v g z;exact .value (by simp_all[zd,Instr.loadAt,Instr.sureAddr])
 cases g:env x with
 |ref p=>
  rw[g]at h;have L:out.wr=[]:=by
   unfold Gz1 at h;simp only at h;split at h<;>first|(split at h<;>first|(simp at h;subst h;rfl)|(cases h))|cases h
  obtain⟨val,rd,wr,ob⟩:=out;subst L;refine Sound1.still λF w ρ Mine M a _ _ D=>?_
  have d:=D x (by simp[Q,zb]);rw[g]at d;generalize I:a.eval x=u at d;cases d with
  |ref R=>
   obtain⟨v,z,U,_⟩:=azet (ρ:=ρ) h R
   grind
 |ptr i off=>
  rw[g]at h;simp only[Gz1]at h;split at h
  ·rename_i cs r;split at h
   ·rename_i v U;simp at h;subst h;refine Sound1.still λF w ρ Mine M a T l D=>?_
    have d:=D x (by simp[Q,zb]);rw[g]at d;generalize I:a.eval x=u at d;cases d with
    |ptr=>
     obtain⟨c,e,S,hl,_,z⟩:=Pzu T ((l i jt).trans r);rcases Xzh (F:=F) (w:=w) (ρ:=ρ) U hl.symm (λj a v d y=>(z j a v d y).1)with⟨d,s,y,H,h4⟩|⟨d,u,y,H⟩;all_goals grind[qzp]
   grind
  grind
 |eptr i sz k off=>
  rw[g]at h;simp only[Gz1]at h;split at h
  ·rename_i sz' n f sh e r;split at h
   ·rename_i B;split at h
    ·rename_i p R;simp at h;subst h;subst B;refine Sound1.still λF w ρ Mine M a T l D=>?_
     have d:=D x (by simp[Q,zb]);rw[g]at d;generalize I:a.eval x=u at d;cases d with
     |eptr E=>
      have O:k<n:=J;rcases T.ok i _ ((l i jt).trans r)with⟨_,⟨N,Z⟩|⟨b',X,c,A,S,hnc,hcm,G,hFk,K,hel⟩⟩
      ·omega
      ·rw[E]at A;cases A;have W:=K k O;have Y:k * sz+sz<=c.size:=by
        rw[G,<-Nat.succ_mul];exact Nat.mul_le_mul_right _ qa
       have z:∀ (j:Nat) (q:PVal) (v:qr),(f k).cells[j]?=some q->(c.extract (k * sz) (k * sz+sz))[j]?=some v->PRel F w q v:=by
        grind
       have V:(c.extract (k * sz) (k * sz+sz)).size=sz:=ju
       rcases Rzc (F:=F) (w:=w) R qa z with⟨d,s,y,H,h4⟩|⟨d,u,y,H⟩
       ·refine⟨_,C I (qzp S (.inl ⟨d,s,y,?_,rfl⟩)),.pure ?_⟩;all_goals grind
       ·refine⟨u,C I (qzp S (.inr ⟨d,?_⟩)),.pure H⟩
        grind
    grind
   grind
  grind
 |_=>rw[g]at h;simp[Gz1]at h
theorem Hzh {w:qn}{b off:Nat}{s:qq}{f a:Nat}{c:qq}(h:az2x P s f=some (a,c)):
 ∀ (v:qr),v=.pointer (some ⟨b,off,none⟩)->(Instr.fieldAt s v f).run P w=.ok (.pointer (some ⟨b,off+a,none⟩)) w:=by
 unfold az2x at h;split at h
 ·split at h
  ·split at h
   ·simp_all[Instr.fieldAt,zf,Instr.sureAddr,fieldPlace,bzx,ez9]
   grind
  grind
 grind
theorem azjg {s:qq}{x:xR}{f:Nat}{out:Out}(c:o.op=.fieldAddr s x f)(h:az2p P s (env x) f=some out):Sound1 P o env m id out:=by
 unfold az2p at h;split at h
 ·rename_i v y l;split at h
  ·rename_i i off g;simp at h;subst h;refine Sound1.still λF w ρ Mine M a n j d=>?_
   have b:=d x (by simp[c,zb]);rw[g]at b;generalize e:a.eval x=u at b;cases b with
   |ptr=>exact⟨_,.value (by simp only[zd,c,xV,Hzh l _ e,xU,xW]),.ptr⟩
  ·rename_i i sz k off g;simp at h;subst h;refine Sound1.still λF w ρ Mine M a n j d=>?_
   have b:=d x (by simp[c,zb]);rw[g]at b;generalize e:a.eval x=u at b;cases b with
   |eptr p=>
    refine⟨_,.value (by simp only[zd,c,xV,Hzh l _ e,xU,xW];rfl),?_⟩;rw[xF];exact .eptr p
  ·rename_i z g;split at h
   ·rename_i q t;simp at h;subst h;refine Sound1.still λF w ρ Mine M a n j d=>?_
    have b:=d x (by simp[c,zb]);rw[g]at b;generalize e:a.eval x=u at b;cases b with
    |ref r=>exact⟨_,.value (by simp only[zd,c,xV,Hzh l _ e,xU,xW]),.ref (r.part t)⟩
   grind
  grind
 grind
theorem azfh {s:qq}{x:xR}{f:Nat}{out:Out}(t:o.op=.field s x f)(h:Wz9 P s (env x) f=some out):Sound1 P o env m id out:=by
 unfold Wz9 at h;split at h
 ·split at h
  ·rename_i r z;have c:∀ {a:Act} {w:qn} {vs:Array qr} {v:qr},a.eval x=.agg vs->(part r.type vs r.offset).run P w=.ok v w->Ran P o a w v w:=by
    intro a w vs v i j;exact .value (by simp_all[zd,Instr.field,zf,asAgg])
   split at h
   ·rename_i y i;simp only[za]at h;obtain⟨v,k,rfl⟩:=h;refine Sound1.still λF w ρ Mine M a A p n=>?_
    have b:=n x (by simp[t,zb]);rw[i]at b;generalize g:a.eval x=u at b;cases b with
    |agg q j=>
     rcases Xzh (F:=F) (w:=w) (ρ:=ρ) k q j with⟨b,s,d,e,l⟩|⟨b,u,d,e⟩
     ·exact⟨_,c g (qz9 (.inl ⟨b,s,d,rfl⟩)),l⟩
     ·exact⟨_,c g (qz9 (.inr ⟨b,d⟩)),e⟩
   ·rename_i y i;simp only[za]at h;obtain⟨v,k,rfl⟩:=h;refine Sound1.still λF w ρ Mine M a A p n=>?_
    have b:=n x (by simp[t,zb]);rw[i]at b;obtain⟨vs,g,q,j⟩:=b.pure_inv.agg_inv;rcases Rzc (F:=F) (w:=w) k q j with⟨b,s,d,e,l⟩|⟨b,u,d,e⟩
    ·exact⟨_,c g (qz9 (.inl ⟨b,s,d,rfl⟩)),.pure l⟩
    ·exact⟨_,c g (qz9 (.inr ⟨b,d⟩)),.pure e⟩
   grind
  grind
 grind
theorem az3z {t:qq}{x i:xR}{out:Out}(z:o.op=.indexAddr t x i)(h:Hzf P t (env x) (env i) m=some out)(v:holds out.obl):Sound1 P o env m id out:=by
 unfold Hzf at h;split at h
 ·rename_i Q A hi;have p:∀ {F:Cells} {w:qn} {ρ:Env} {a:Act},(∀x∈o.op.operands,ARel F w ρ (env x) (a.eval x))->a.eval i=.int Q A:=λg=>
   (hi▸g i (by simp[z,zb])).pure_inv.int_inv
  split at h
  ·rename_i e I;split at h
   ·rename_i sz n f y;split at h
    ·simp at h;subst h;obtain⟨h0,U⟩:=v;refine Sound1.still λF w ρ Mine M a G r g=>?_
     have d:=g x (by simp[z,zb]);rw[y]at d;rcases d.pure_inv.lst_inv with⟨H,C⟩|⟨_,_,_,C,_⟩|⟨b,off,cap,c,H,K,L,N,hc,hr⟩
     ·omega
     ·omega
     ·refine⟨.pointer (some ⟨b,off+A.toNat * sz,none⟩),.value ?_,.ref ⟨λj=>c (A.toNat * sz+j),λj q S=>?_⟩⟩
      ·simp only[zd,z,Instr.indexAt,xV,p g,H,asIntOf,xW,xU,zf I]
       simp_all[bzx,ez9]
      grind
    grind
   ·rename_i k y;split at h
    ·rename_i sz n f sh e' hk;split at h
     ·simp at h;subst h;obtain⟨h0,U⟩:=v;refine Sound1.still λF w ρ Mine M a G r g=>?_
      have d:=g x (by simp[z,zb]);rw[y]at d;have D:=G.ok k _ ((r k jt).trans hk);generalize l:a.eval x=u at d;rcases D with⟨_,⟨J,C⟩|⟨X,T,c,E,hb,K,L,R,W,N,V⟩⟩
      ·omega
      ·cases d with
       |vnil O=>simp_all
       |vec O=>
        rw[O]at E;cases E;refine⟨.pointer (some ⟨X,A.toNat * sz+0,none⟩),.value ?_,.eptr O⟩;simp only[zd,z,Instr.indexAt,xV,p g,l,asIntOf,xW,xU,zf I]
        simp_all[bzx,ez9]
     grind
    grind
   grind
  ·rename_i len e I;split at h
   ·rename_i s hs
    have B:∀ {a:Act} {w:qn} {b off:Nat},a.eval i=.int Q A->a.eval x=.pointer (some ⟨b,off,none⟩)->0<=A/\A<len->
     Ran P o a w (.pointer (some ⟨b,off+A.toNat * s,none⟩)) w:=by
     intro a w b off d Y h3;refine .value ?_;simp only[zd,z,Instr.indexAt,xV,d,Y,asIntOf,xW,xU,zf I,Instr.sureAddr]
     simp_all[bzx,ez9]
    split at h
    ·rename_i k off y;simp at h;subst h;refine Sound1.still λF w ρ Mine M a G r g=>?_
     have d:=g x (by simp[z,zb]);rw[y]at d;generalize l:a.eval x=u at d;cases d with
     |ptr=>exact⟨_,B (p g) l v,.ptr⟩
    ·rename_i k sz q off y;simp at h;subst h;refine Sound1.still λF w ρ Mine M a G r g=>?_
     have d:=g x (by simp[z,zb]);rw[y]at d;generalize l:a.eval x=u at d;cases d with
     |eptr H=>refine⟨_,B (p g) l v,?_⟩;rw[xF];exact .eptr H
    ·rename_i cs y;split at h
     ·rename_i q S;simp at h;subst h;refine Sound1.still λF w ρ Mine M a G r g=>?_
      have d:=g x (by simp[z,zb]);rw[y]at d;generalize l:a.eval x=u at d;cases d with
      |ref Z=>exact⟨_,B (p g) l v,.ref (Z.part S)⟩
     grind
    grind
   grind
  grind
 grind
theorem azji {t:qq}{x i:xR}{out:Out}(y:o.op=.index t x i)(h:az2r P t (env x) (env i)=some out)(g:holds out.obl):Sound1 P o env m id out:=by
 unfold az2r at h;split at h
 ·rename_i R b hi;have A:∀ {F:Cells} {w:qn} {ρ:Env} {a:Act},(∀x∈o.op.operands,ARel F w ρ (env x) (a.eval x))->a.eval i=.int R b:=λf=>
   (hi▸f i (by simp[y,zb])).pure_inv.int_inv
  split at h
  ·rename_i len e D;split at h
   ·rename_i s ps O I;have r:∀ (p:PVal),0<=b->b<len->Rzb P e ps (b.toNat * s)=some p->Sound1 P o env m id ⟨.pure p,[],[],some (0<=b/\b<len)⟩:=by
     intro p q B N;refine Sound1.still λF w ρ Mine M a T K f=>?_
     have c:=f x (by simp[y,zb]);rw[I]at c;obtain⟨vs,G,d,Q⟩:=c.pure_inv.agg_inv;have z:∀ {v:qr},(part e vs (b.toNat * s)).run P w=.ok v w->Ran P o a w v w:=λN=>.value (by
      simp only[zd,y,Instr.index,xV,A f,G,asIntOf,xW,xU,zf D]
      simp_all[bzx])
     rcases Rzc (F:=F) (w:=w) N d Q with⟨c,s,J,L,U⟩|⟨c,u,J,L⟩
     ·exact⟨_,z (qz9 (.inl ⟨c,s,J,rfl⟩)),.pure U⟩
     ·exact⟨_,z (qz9 (.inr ⟨c,J⟩)),.pure L⟩
    split at h
    ·rename_i k l d;simp at h;subst h;obtain⟨q,B⟩:=g;refine r _ q B ?_;unfold az55 at d;split at d
     ·rename_i k' S n;rw[O]at n;cases n;split at d
      ·rename_i V C;split at d
       ·cases d;have H:∀ (ps:List PVal) (l:List Int),Nz2 k ps=some l->∀j,j<l.length->ps[j]?=some (.int k (l.getD j 0)):=by
         intro ps;induction ps with
         |nil=>grind[Nz2]
         |cons p ps X=>
          intro l h j W;cases p<;>simp only[Nz2]at h<;>try cases h
          grind
        have E:=H ps l C b.toNat qa;unfold Rzb ezh;rw[S,O];simp only[Nat.mul_one,E];rfl
       simp_all
      simp_all
     simp_all
    ·split at h
     ·simp at h;subst h;obtain⟨q,B⟩:=g
      simp_all
     grind
   grind
  ·rename_i D;split at h
   ·rename_i s I;cases h;obtain⟨q,B⟩:=g;refine Sound1.still λF w ρ Mine M a T K f=>?_
    have c:=(I▸f x (by simp[y,zb])).pure_inv.str_inv;refine⟨.int .u8 (s.data.getD b.toNat 0).toNat,.value ?_,.pure .int⟩;have E:s[b.toNat]?=some (s.data.getD b.toNat 0):=by
     simp_all[ByteArray.getElem_eq_getElem_data]
    simp only[zd,y,Instr.index,xV,A f,c,asIntOf,xW,xU,zf D,q,if_true,E]
   grind
  grind
 grind
variable {P:Program} {o:Oper} {env:xR->AVal} {m:Mem} {id:Nat}
theorem azd9 (P:Program):20<=P.depth:=by grind[Program.depth,Made.depth]
theorem az87 {F:Cells}{w:qn}{a:BinOp}{t:qq}{p q r:PVal}{ob:Option Prop}{v u:qr}(x y:xR)(h:azdh P a t p q=some (r,ob))(b:holds ob)
 (f:PRel F w p v) (e:PRel F w q u):(eqGuard a t x y v u).run P w=.ok () w/\∃z,(binOp a t v u).run P w=.ok z w/\PRel F w r z:=by
 unfold azdh at h;split at h
 ·obtain rfl:=f.int_inv;obtain rfl:=e.int_inv;refine⟨by simp_all[eqGuard],?_⟩;cases a<;>simp only at h<;>(try(split at h))<;>(try(cases h;done))<;>(try(rename_i B;subst B))<;>simp only[Option.some.injEq,Prod.mk.injEq]at h<;>obtain⟨rfl,rfl⟩:=h
  all_goals simp only[holds]at b
  all_goals first
   |(refine⟨_,?_,.int⟩;simp only[binOp,Op.intArith,ne_eq,not_true_eq_false,if_false,xW];done)
   |(refine⟨_,?_,.bool⟩;simp only[binOp,Op.intCmp,ne_eq,not_true_eq_false,if_false,xW];done)
   |(refine⟨_,?_,.int⟩;simp only[binOp,Op.intBits,ne_eq,not_true_eq_false,if_false,xW];done)
   |(refine⟨_,?_,.int⟩;simp only[binOp,Op.intDiv,ne_eq,not_true_eq_false,if_false,b,xW];done)
   |(refine⟨_,?_,.int⟩;simp only[binOp,Op.shift,Int.not_lt.2 b,if_false,xW];done)
 ·obtain rfl:=f.bool_inv;obtain rfl:=e.bool_inv;split at h
  ·refine⟨by simp_all[eqGuard],?_⟩;cases a<;>simp only at h<;>(try(cases h;done))<;>simp only[Option.some.injEq,Prod.mk.injEq]at h<;>obtain⟨rfl,rfl⟩:=h
   ·exact⟨_,by simp_all[binOp,run_equal_bool],.bool⟩
   ·exact⟨_,by grind[binOp,xV,run_equal_bool,xU,xW],.bool⟩
  grind
 ·obtain rfl:=f.str_inv;obtain rfl:=e.str_inv;refine⟨by simp_all[eqGuard],?_⟩;cases a<;>simp only at h<;>(try(cases h;done))<;>simp only[Option.some.injEq,Prod.mk.injEq]at h<;>obtain⟨rfl,rfl⟩:=h
  ·exact⟨_,by grind[binOp,Op.stringOp,xW,beq_toListBytes],.bool⟩
  ·exact⟨_,by grind[binOp,Op.stringOp,xW,bne,beq_toListBytes],.bool⟩
 ·rename_i xs D;obtain⟨vs,rfl,C,A⟩:=f.agg_inv;obtain⟨j,rfl,l,m⟩:=e.agg_inv;split at h
  ·rename_i n d;split at h
   ·rename_i o;simp only[Bool.and_eq_true]at o;split at h
    ·rename_i s k;obtain⟨⟨c,i⟩,g⟩:=o;have c:ezh P t=some true:=by simp_all
     have e:=Pz9 (F:=F) (w:=w) 20 t n d 9980 (.agg vs) (.agg j) xs D s (.inl ⟨c,vs,rfl,C,A⟩) (.inl ⟨c,j,rfl,l,m⟩) i g k;refine⟨run_eqGuard_agg w a t x y vs j (Lzj 20 t n d P.depth (azd9 P)),?_⟩;cases a<;>simp only at h<;>(try(cases h;done))<;>simp only[Option.some.injEq,Prod.mk.injEq]at h<;>obtain⟨rfl,rfl⟩:=h
     ·exact⟨_,by simp_all[run_eql_struct],.bool⟩
     ·exact⟨_,by simp_all[run_neq_struct],.bool⟩
    grind
   grind
  grind
 grind
theorem azmy {c:BinOp}{t i:qq}{x y:xR}{p q r:PVal}{ob:Option Prop}(e:o.op=.binOp c t x y i)(j:(env x).toP=some p)(f:(env y).toP=some q)
 (h:azdh P c t p q=some (r,ob)) (b:holds ob):Sound1 P o env m id ⟨.pure r,[],[],ob⟩:=
 Sound1.still λF w ρ Mine M a _ _ d=>by
  obtain⟨k,z,l,g⟩:=az87 (w:=w) x y h b ((d x (by simp[e,zb])).toP j) ((d y (by simp[e,zb])).toP f);exact⟨z,.value (by grind[zd,xV,xU,xW]),.pure g⟩
theorem azm3 {t:qq}{x:xR}{b:Bool}(f:o.op=.unOp .not t x)(e:env x=if b then .tt else .ff):Sound1 P o env m id (.v (if b then .ff else .tt)):=
 Sound1.still λF w ρ Mine M a _ _ d=>by
  have c:=d x (by simp[f,zb]);have g:a.eval x=.bool b:=by
   rw[e]at c;generalize a.eval x=u at c⊢;cases b<;>cases c<;>rfl
  refine⟨.bool (!b),.value (by simp_all[zd,Op.unary]),?_⟩;cases b
  ·exact .tt
  ·exact .ff
theorem s_un {c:UnOp}{t:qq}{x:xR}{p r:PVal}(f:o.op=.unOp c t x)(g:env x=.pure p)(h:evUn c p=some r):Sound1 P o env m id (.v (.pure r)):=
 Sound1.still λF w ρ Mine M a _ _ e=>by
  have b:=(g▸e x (by simp[f,zb])).pure_inv;unfold evUn at h;split at h
  ·cases h;have d:=b.bool_inv;exact⟨_,.value (by grind[zd,Op.unary,xW]),.pure .bool⟩
  ·cases h;have d:=b.int_inv;exact⟨_,.value (by grind[zd,Op.unary,Op.intArith,xW]),.pure .int⟩
  ·cases h;have d:=b.int_inv;exact⟨_,.value (by grind[zd,Op.unary,Op.intBits,xW]),.pure .int⟩
  grind
theorem azlz {s d:qq}{x:xR}{p r:PVal}(i:o.op=.convert s d x)(g:(P.underlying s).isSome=true)(f:(env x).toP=some p)(h:az95 P d p=some r):Sound1 P o env m id (.v (.pure r)):=
 Sound1.still λF w ρ Mine M a _ _ c=>by
  have b:=(c x (by simp[i,zb])).toP f;obtain⟨ds,e⟩:=Option.isSome_iff_exists.1 g;unfold az95 at h;split at h
  ·cases h;have j:=b.int_inv;refine⟨_,.value ?_,.pure .int⟩
   simp_all[zd,convert,zf,Conv.intToInt]
  ·cases h;have j:=b.str_inv;refine⟨_,.value ?_,.pure .str⟩
   simp_all[zd,convert,zf]
  grind
theorem Ezd {a:Act}{w:qn}{x:xR}{b:Array qq}{n:Int}(c:o.op=.call {callee:=.builtin .len,args:=#[x],argTypes:=b})
 (h:(Builtin.len_ b o.type #[a.eval x]).run P w=.ok (.int .i64 n) w):Ran P o a w (.int .i64 n) w:=by
 refine .value ?_
 simp_all[zd,resolve,invoke,builtin]
theorem azn1 {x:xR}{D:Array qq}{out:Out}(r:o.op=.call {callee:=.builtin .len,args:=#[x],argTypes:=D})(h:az2s P D (env x) m=some out):Sound1 P o env m id out:=by
 have d:x∈o.op.operands:=by grind[zb,Call.operands]
 unfold az2s at h;split at h
 ·rename_i t J;split at h
  ·rename_i e sz n f A p;cases h;refine Sound1.still λF w ρ Mine M a _ _ j=>⟨.int .i64 n,Ezd r ?_,.pure .int⟩
   rcases(p▸j x d).pure_inv.lst_inv with⟨B,q⟩|⟨_,_,B,q,_⟩|⟨b,off,cap,c,B,_⟩;all_goals simp_all[Builtin.len_,zf,goInt]
  ·rename_i e i n A p;cases h;refine Sound1.still λF w ρ Mine M a _ _ j=>⟨.int .i64 n,Ezd r ?_,.pure .int⟩
   have g:=p▸j x d;generalize a.eval x=u at g⊢;cases g<;>simp_all[Builtin.len_,zf,goInt]
  ·rename_i e i A p;split at h
   ·rename_i sz n f sh G v;cases h;refine Sound1.still λF w ρ Mine M a y l j=>⟨.int .i64 n,Ezd r ?_,.pure .int⟩
    have g:=p▸j x d;generalize a.eval x=u at g⊢;rcases y.ok i _ ((l i jt).trans v)with⟨_,⟨k,q⟩|⟨E,z,c,C,_⟩⟩
    ·cases g<;>simp_all[Builtin.len_,zf,goInt]
    ·cases g<;>simp_all[Builtin.len_,zf,goInt]
   ·rename_i sz n f kk G off I H K v;cases h;refine Sound1.still λF w ρ Mine M a y l j=>⟨.int .i64 n,Ezd r ?_,.pure .int⟩
    have g:=p▸j x d;generalize a.eval x=u at g⊢;rcases y.ok i _ ((l i jt).trans v)with⟨_,_,⟨k,q,_⟩|⟨E,z,c,C,_⟩⟩
    ·cases g<;>simp_all[Builtin.len_,zf,goInt]
    ·cases g<;>simp_all[Builtin.len_,zf,goInt]
   ·rename_i v;cases h;refine Sound1.still λF w ρ Mine M a y l j=>⟨.int .i64 (0:Nat),Ezd r ?_,.pure .int⟩
    have g:=p▸j x d;generalize a.eval x=u at g⊢;have k:ρ.vec i=none:=y.ok i _ ((l i jt).trans v);cases g<;>simp_all[Builtin.len_,zf,goInt]
   grind
  ·rename_i s A p;cases h;refine Sound1.still λF w ρ Mine M a _ _ j=>⟨.int .i64 s.size,Ezd r ?_,.pure .int⟩
   have B:=(p▸j x d).pure_inv.str_inv
   simp_all[Builtin.len_,zf,goInt]
  ·rename_i n e A;cases h;refine Sound1.still λF w ρ Mine M a _ _ j=>⟨.int .i64 n,Ezd r ?_,.pure .int⟩
   simp_all[Builtin.len_,zf,goInt]
  grind
 grind
end Go.Abs
