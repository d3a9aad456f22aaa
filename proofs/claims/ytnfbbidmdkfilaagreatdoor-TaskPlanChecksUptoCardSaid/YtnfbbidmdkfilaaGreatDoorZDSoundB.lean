import Derived.Test.YtnfbbidmdkfilaaGreatDoorZDSoundEq
import Derived.WalkLawsBesides
open Go renaming TypeId->qq,Operand->xQ,Value->qr,World->qn,execOp->zb,run_underlying->zd
open Go.Op renaming operands->za
open Go.Result renaming andThen_ok->xT
open Go.Sem renaming run_bind->xU,run_pure->xV
open Nat renaming add_assoc->xE
open Option renaming map_eq_some_iff->x9
namespace Go.Abs
variable {P:Program} {o:Oper} {env:xQ->AVal} {m:Mem} {id:Nat}
theorem Ran.value {a:Act}{w b:qn}{v:qr}(h:(zb a.eval o).run P w=.ok (.value v) b):Ran P o a w v b:=.inl h
theorem azpi {x:xQ}(b:o.op=.move x):Sound1 P o env m id (.v (env x)):=
 Sound1.still λF w ρ Mine M a _ _ c=>⟨a.eval x,.value (by simp[zb,b]),c x (by simp[b,za])⟩
theorem azia {x:xQ}(b:o.op=.assign x):Sound1 P o env m id (.v (env x)):=
 Sound1.still λF w ρ Mine M a _ _ c=>⟨a.eval x,.value (by simp[zb,b]),c x (by simp[b,za])⟩
theorem azki {c x y:xQ}(f:o.op=.pick c x y){b:Bool}(h:env c=if b then .tt else .ff):Sound1 P o env m id (.v (env (if b then x else y))):=
 Sound1.still λF w ρ Mine M a _ _ e=>by
  have d:=e c (by simp[f,za]);have g:a.eval c=.bool b:=by
   rw[h]at d;generalize a.eval c=u at d⊢;cases b<;>cases d<;>rfl
  refine⟨a.eval (if b then x else y),.value ?_,e _ (by grind[za])⟩;cases b<;>simp[zb,f,g,asBool]
theorem az9o {x:xQ}(c:o.op=.nilCheck x)(h:match env x with| .ptr _ _| .eptr _ _ _ _| .ref _| .func _ _ _| .iface _ _=>True|_=>False):Sound1 P o env m id (.v (env x)):=
 Sound1.still λF w ρ Mine M a _ _ e=>by
  have b:=e x (by simp[c,za]);refine⟨a.eval x,.value ?_,b⟩;revert h b;generalize env x=y;generalize d:a.eval x=v;intro h b;cases b<;>first|(exact h.elim)|(simp[zb,c,d])
theorem az7t (l:List xQ){F:Cells}{w:qn}{ρ:Env}{a:Act}(h:∀x∈l,ARel F w ρ (env x) (a.eval x)):
 (l.map env).length=(l.map a.eval).length/\∀ (j:Nat) (y:AVal) (v:qr),(l.map env)[j]?=some y->(l.map a.eval)[j]?=some v->ARel F w ρ y v:=by
 grind
theorem az9n {f:Nat}{xs b:Array xQ}(i:o.op=.makeFunc (.func f) xs b):Sound1 P o env m id (.v (.func f (xs.toList.map env) (b.toList.map env))):=
 Sound1.still λF w ρ Mine M a _ _ d=>by
  have g:=az7t (env:=env) xs.toList (F:=F) (w:=w) (ρ:=ρ) (a:=a) (λx h=>d x (by grind[za]));have e:=az7t (env:=env) b.toList (F:=F) (w:=w) (ρ:=ρ) (a:=a) (λx h=>d x (by grind[za]));refine⟨.func (.func f) (xs.map a.eval) (b.map a.eval),.value (by simp[zb,i,Instr.makeFunc]),.func jq (λj y v c k=>g.2 j y v c ?_) jq (λj y v c k=>e.2 j y v c ?_)⟩;all_goals simp_all
theorem azen {x:xQ}{i:Nat}{c:List AVal}{v:AVal}(k:o.op=.extract x i)(e:env x=.tup c)(d:c[i]?=some v):Sound1 P o env m id (.v v):=
 Sound1.still λF w ρ Mine M a _ _ h=>by
  have b:=h x (by simp[k,za]);rw[e]at b;generalize l:a.eval x=u at b;cases b with
  |tup j f=>
   rename_i vs;have g:i<vs.size:=j▸(List.getElem?_eq_some_iff.1 d).1;exact⟨vs[i],.value (by simp_all[zb,Instr.extract]),f i v _ d jq⟩
theorem Rz1 {F:Cells}{w:qn}{ρ:Env}{Mine:Nat->Prop}{M:Mem}{i:Nat}{b:List AVal}(d:MemOk F w ρ Mine M)(h:M.get i=some (.box b)):
 ∃c e,w.heap[ρ.blk i]?=some (.cells c e (0,0))/\c.size=b.length/\(∀o,¬F (ρ.blk i) o)/\∀ (j:Nat) (a:AVal) (v:qr),b[j]?=some a->c[j]?=some v->ARel F w ρ a v/\v.oneCell'=true:=d.ok i _ h
theorem azph {t:qq}{x:xQ}{out:Out}(Q:o.op=.load t x)(h:Gzx P t (env x) m=some out)(J:holds out.obl):Sound1 P o env m id out:=by
 have C:∀ {a:Act} {w:qn} {b off:Nat} {v:qr},a.eval x=.pointer (some ⟨b,off,none⟩)->(loadVar t ⟨b,off,none⟩).run P w=.ok v w->Ran P o a w v w:=by
  intro a w b off v g z;exact .value (by simp_all[zb,Instr.loadAt,Instr.sureAddr])
 cases g:env x with
 |ref p=>
  rw[g]at h;have L:out.wr=[]:=by
   unfold Gzx at h;simp only at h;split at h<;>first|(split at h<;>first|(simp at h;subst h;rfl)|(cases h))|cases h
  obtain⟨val,rd,wr,ob⟩:=out;subst L;refine Sound1.still λF w ρ Mine M a _ _ D=>?_
  have d:=D x (by simp[Q,za]);rw[g]at d;generalize I:a.eval x=u at d;cases d with
  |ref R=>
   obtain⟨v,z,U,_⟩:=azhd (ρ:=ρ) h R
   grind
 |ptr i off=>
  rw[g]at h;simp only[Gzx]at h;split at h
  ·rename_i cs r;split at h
   ·rename_i v U;simp at h;subst h;refine Sound1.still λF w ρ Mine M a T l D=>?_
    have d:=D x (by simp[Q,za]);rw[g]at d;generalize I:a.eval x=u at d;cases d with
    |ptr=>
     obtain⟨c,e,S,hl,_,z⟩:=Rz1 T ((l i jq).trans r);rcases Yzv (F:=F) (w:=w) (ρ:=ρ) U hl.symm (λj a v d y=>(z j a v d y).1)with⟨d,s,y,H,h4⟩|⟨d,u,y,H⟩;all_goals grind[rzd]
   grind
  grind
 |eptr i sz k off=>
  rw[g]at h;simp only[Gzx]at h;split at h
  ·rename_i sz' n f sh e r;split at h
   ·rename_i B;split at h
    ·rename_i p R;simp at h;subst h;subst B;refine Sound1.still λF w ρ Mine M a T l D=>?_
     have d:=D x (by simp[Q,za]);rw[g]at d;generalize I:a.eval x=u at d;cases d with
     |eptr E=>
      have O:k<n:=J;rcases T.ok i _ ((l i jq).trans r)with⟨_,⟨N,Z⟩|⟨b',X,c,A,S,hnc,hcm,G,hFk,K,hel⟩⟩
      ·omega
      ·rw[E]at A;cases A;have W:=K k O;have Y:k * sz+sz<=c.size:=by
        rw[G,<-Nat.succ_mul];exact Nat.mul_le_mul_right _ qa
       have z:∀ (j:Nat) (q:PVal) (v:qr),(f k).cells[j]?=some q->(c.extract (k * sz) (k * sz+sz))[j]?=some v->PRel F w q v:=by
        grind
       have V:(c.extract (k * sz) (k * sz+sz)).size=sz:=jr
       rcases Szk (F:=F) (w:=w) R qa z with⟨d,s,y,H,h4⟩|⟨d,u,y,H⟩
       ·refine⟨_,C I (rzd S (.inl ⟨d,s,y,?_,rfl⟩)),.pure ?_⟩;all_goals grind
       ·refine⟨u,C I (rzd S (.inr ⟨d,?_⟩)),.pure H⟩
        grind
    grind
   grind
  grind
 |_=>rw[g]at h;simp[Gzx]at h
theorem Iza {w:qn}{b off:Nat}{s:qq}{f a:Nat}{c:qq}(h:az4q P s f=some (a,c)):
 ∀ (v:qr),v=.pointer (some ⟨b,off,none⟩)->(Instr.fieldAt s v f).run P w=.ok (.pointer (some ⟨b,off+a,none⟩)) w:=by
 unfold az4q at h;split at h
 ·split at h
  ·split at h
   ·simp_all[Instr.fieldAt,zd,Instr.sureAddr,fieldPlace,bzx,eze]
   grind
  grind
 grind
theorem azn1 {s:qq}{x:xQ}{f:Nat}{out:Out}(c:o.op=.fieldAddr s x f)(h:az4i P s (env x) f=some out):Sound1 P o env m id out:=by
 unfold az4i at h;split at h
 ·rename_i v y l;split at h
  ·rename_i i off g;simp at h;subst h;refine Sound1.still λF w ρ Mine M a n j d=>?_
   have b:=d x (by simp[c,za]);rw[g]at b;generalize e:a.eval x=u at b;cases b with
   |ptr=>exact⟨_,.value (by simp only[zb,c,xU,Iza l _ e,xT,xV]),.ptr⟩
  ·rename_i i sz k off g;simp at h;subst h;refine Sound1.still λF w ρ Mine M a n j d=>?_
   have b:=d x (by simp[c,za]);rw[g]at b;generalize e:a.eval x=u at b;cases b with
   |eptr p=>
    refine⟨_,.value (by simp only[zb,c,xU,Iza l _ e,xT,xV];rfl),?_⟩;rw[xE];exact .eptr p
  ·rename_i z g;split at h
   ·rename_i q t;simp at h;subst h;refine Sound1.still λF w ρ Mine M a n j d=>?_
    have b:=d x (by simp[c,za]);rw[g]at b;generalize e:a.eval x=u at b;cases b with
    |ref r=>exact⟨_,.value (by simp only[zb,c,xU,Iza l _ e,xT,xV]),.ref (r.part t)⟩
   grind
  grind
 grind
theorem azib {s:qq}{x:xQ}{f:Nat}{out:Out}(t:o.op=.field s x f)(h:Xzo P s (env x) f=some out):Sound1 P o env m id out:=by
 unfold Xzo at h;split at h
 ·split at h
  ·rename_i r z;have c:∀ {a:Act} {w:qn} {vs:Array qr} {v:qr},a.eval x=.agg vs->(part r.type vs r.offset).run P w=.ok v w->Ran P o a w v w:=by
    intro a w vs v i j;exact .value (by simp_all[zb,Instr.field,zd,asAgg])
   split at h
   ·rename_i y i;simp only[x9]at h;obtain⟨v,k,rfl⟩:=h;refine Sound1.still λF w ρ Mine M a A p n=>?_
    have b:=n x (by simp[t,za]);rw[i]at b;generalize g:a.eval x=u at b;cases b with
    |agg q j=>
     rcases Yzv (F:=F) (w:=w) (ρ:=ρ) k q j with⟨b,s,d,e,l⟩|⟨b,u,d,e⟩
     ·exact⟨_,c g (qzw (.inl ⟨b,s,d,rfl⟩)),l⟩
     ·exact⟨_,c g (qzw (.inr ⟨b,d⟩)),e⟩
   ·rename_i y i;simp only[x9]at h;obtain⟨v,k,rfl⟩:=h;refine Sound1.still λF w ρ Mine M a A p n=>?_
    have b:=n x (by simp[t,za]);rw[i]at b;obtain⟨vs,g,q,j⟩:=b.pure_inv.agg_inv;rcases Szk (F:=F) (w:=w) k q j with⟨b,s,d,e,l⟩|⟨b,u,d,e⟩
    ·exact⟨_,c g (qzw (.inl ⟨b,s,d,rfl⟩)),.pure l⟩
    ·exact⟨_,c g (qzw (.inr ⟨b,d⟩)),.pure e⟩
   grind
  grind
 grind
theorem az5u {t:qq}{x i:xQ}{out:Out}(z:o.op=.indexAddr t x i)(h:Iz8 P t (env x) (env i) m=some out)(v:holds out.obl):Sound1 P o env m id out:=by
 unfold Iz8 at h;split at h
 ·rename_i Q A hi;have p:∀ {F:Cells} {w:qn} {ρ:Env} {a:Act},(∀x∈o.op.operands,ARel F w ρ (env x) (a.eval x))->a.eval i=.int Q A:=λg=>
   (hi▸g i (by simp[z,za])).pure_inv.int_inv
  split at h
  ·rename_i e I;split at h
   ·rename_i sz n f y;split at h
    ·simp at h;subst h;obtain⟨h0,U⟩:=v;refine Sound1.still λF w ρ Mine M a G r g=>?_
     have d:=g x (by simp[z,za]);rw[y]at d;rcases d.pure_inv.lst_inv with⟨H,C⟩|⟨_,_,_,C,_⟩|⟨b,off,cap,c,H,K,L,N,hc,hr⟩
     ·omega
     ·omega
     ·refine⟨.pointer (some ⟨b,off+A.toNat * sz,none⟩),.value ?_,.ref ⟨λj=>c (A.toNat * sz+j),λj q S=>?_⟩⟩
      ·simp only[zb,z,Instr.indexAt,xU,p g,H,asIntOf,xV,xT,zd I]
       simp_all[bzx,eze]
      grind
    grind
   ·rename_i k y;split at h
    ·rename_i sz n f sh e' hk;split at h
     ·simp at h;subst h;obtain⟨h0,U⟩:=v;refine Sound1.still λF w ρ Mine M a G r g=>?_
      have d:=g x (by simp[z,za]);rw[y]at d;have D:=G.ok k _ ((r k jq).trans hk);generalize l:a.eval x=u at d;rcases D with⟨_,⟨J,C⟩|⟨X,T,c,E,hb,K,L,R,W,N,V⟩⟩
      ·omega
      ·cases d with
       |vnil O=>simp_all
       |vec O=>
        rw[O]at E;cases E;refine⟨.pointer (some ⟨X,A.toNat * sz+0,none⟩),.value ?_,.eptr O⟩;simp only[zb,z,Instr.indexAt,xU,p g,l,asIntOf,xV,xT,zd I]
        simp_all[bzx,eze]
     grind
    grind
   grind
  ·rename_i len e I;split at h
   ·rename_i s hs
    have B:∀ {a:Act} {w:qn} {b off:Nat},a.eval i=.int Q A->a.eval x=.pointer (some ⟨b,off,none⟩)->0<=A/\A<len->
     Ran P o a w (.pointer (some ⟨b,off+A.toNat * s,none⟩)) w:=by
     intro a w b off d Y h3;refine .value ?_;simp only[zb,z,Instr.indexAt,xU,d,Y,asIntOf,xV,xT,zd I,Instr.sureAddr]
     simp_all[bzx,eze]
    split at h
    ·rename_i k off y;simp at h;subst h;refine Sound1.still λF w ρ Mine M a G r g=>?_
     have d:=g x (by simp[z,za]);rw[y]at d;generalize l:a.eval x=u at d;cases d with
     |ptr=>exact⟨_,B (p g) l v,.ptr⟩
    ·rename_i k sz q off y;simp at h;subst h;refine Sound1.still λF w ρ Mine M a G r g=>?_
     have d:=g x (by simp[z,za]);rw[y]at d;generalize l:a.eval x=u at d;cases d with
     |eptr H=>refine⟨_,B (p g) l v,?_⟩;rw[xE];exact .eptr H
    ·rename_i cs y;split at h
     ·rename_i q S;simp at h;subst h;refine Sound1.still λF w ρ Mine M a G r g=>?_
      have d:=g x (by simp[z,za]);rw[y]at d;generalize l:a.eval x=u at d;cases d with
      |ref Z=>exact⟨_,B (p g) l v,.ref (Z.part S)⟩
     grind
    grind
   grind
  grind
 grind
theorem azn3 {t:qq}{x i:xQ}{out:Out}(y:o.op=.index t x i)(h:az4k P t (env x) (env i)=some out)(g:holds out.obl):Sound1 P o env m id out:=by
 unfold az4k at h;split at h
 ·rename_i R b hi;have A:∀ {F:Cells} {w:qn} {ρ:Env} {a:Act},(∀x∈o.op.operands,ARel F w ρ (env x) (a.eval x))->a.eval i=.int R b:=λf=>
   (hi▸f i (by simp[y,za])).pure_inv.int_inv
  split at h
  ·rename_i len e D;split at h
   ·rename_i s ps O I;have r:∀ (p:PVal),0<=b->b<len->Szj P e ps (b.toNat * s)=some p->Sound1 P o env m id ⟨.pure p,[],[],some (0<=b/\b<len)⟩:=by
     intro p q B N;refine Sound1.still λF w ρ Mine M a T K f=>?_
     have c:=f x (by simp[y,za]);rw[I]at c;obtain⟨vs,G,d,Q⟩:=c.pure_inv.agg_inv;have z:∀ {v:qr},(part e vs (b.toNat * s)).run P w=.ok v w->Ran P o a w v w:=λN=>.value (by
      simp only[zb,y,Instr.index,xU,A f,G,asIntOf,xV,xT,zd D]
      simp_all[bzx])
     rcases Szk (F:=F) (w:=w) N d Q with⟨c,s,J,L,U⟩|⟨c,u,J,L⟩
     ·exact⟨_,z (qzw (.inl ⟨c,s,J,rfl⟩)),.pure U⟩
     ·exact⟨_,z (qzw (.inr ⟨c,J⟩)),.pure L⟩
    split at h
    ·rename_i k l d;simp at h;subst h;obtain⟨q,B⟩:=g;refine r _ q B ?_;unfold az74 at d;split at d
     ·rename_i k' S n;rw[O]at n;cases n;split at d
      ·rename_i V C;split at d
       ·cases d;have H:∀ (ps:List PVal) (l:List Int),Oz5 k ps=some l->∀j,j<l.length->ps[j]?=some (.int k (l.getD j 0)):=by
         intro ps;induction ps with
         |nil=>grind[Oz5]
         |cons p ps X=>
          intro l h j W;cases p<;>simp only[Oz5]at h<;>try cases h
          grind
        have E:=H ps l C b.toNat qa;unfold Szj ezn;rw[S,O];simp only[Nat.mul_one,E];rfl
       simp_all
      simp_all
     simp_all
    ·split at h
     ·simp at h;subst h;obtain⟨q,B⟩:=g
      simp_all
     grind
   grind
  ·rename_i D;split at h
   ·rename_i s I;cases h;obtain⟨q,B⟩:=g;refine Sound1.still λF w ρ Mine M a T K f=>?_
    have c:=(I▸f x (by simp[y,za])).pure_inv.str_inv;refine⟨.int .u8 (s.data.getD b.toNat 0).toNat,.value ?_,.pure .int⟩;have E:s[b.toNat]?=some (s.data.getD b.toNat 0):=by
     simp_all[ByteArray.getElem_eq_getElem_data]
    simp only[zb,y,Instr.index,xU,A f,c,asIntOf,xV,xT,zd D,q,if_true,E]
   grind
  grind
 grind
variable {P:Program} {o:Oper} {env:xQ->AVal} {m:Mem} {id:Nat}
theorem azfw (P:Program):20<=P.depth:=by grind[Program.depth,Made.depth]
theorem aza5 {F:Cells}{w:qn}{a:BinOp}{t:qq}{p q r:PVal}{ob:Option Prop}{v u:qr}(x y:xQ)(h:azg3 P a t p q=some (r,ob))(b:holds ob)
 (f:PRel F w p v) (e:PRel F w q u):(eqGuard a t x y v u).run P w=.ok () w/\∃z,(binOp a t v u).run P w=.ok z w/\PRel F w r z:=by
 unfold azg3 at h;split at h
 ·obtain rfl:=f.int_inv;obtain rfl:=e.int_inv;refine⟨by simp_all[eqGuard],?_⟩;cases a<;>simp only at h<;>(try(split at h))<;>(try(cases h;done))<;>(try(rename_i B;subst B))<;>simp only[Option.some.injEq,Prod.mk.injEq]at h<;>obtain⟨rfl,rfl⟩:=h
  all_goals simp only[holds]at b
  all_goals first
   |(refine⟨_,?_,.int⟩;simp only[binOp,Op.intArith,ne_eq,not_true_eq_false,if_false,xV];done)
   |(refine⟨_,?_,.bool⟩;simp only[binOp,Op.intCmp,ne_eq,not_true_eq_false,if_false,xV];done)
   |(refine⟨_,?_,.int⟩;simp only[binOp,Op.intBits,ne_eq,not_true_eq_false,if_false,xV];done)
   |(refine⟨_,?_,.int⟩;simp only[binOp,Op.intDiv,ne_eq,not_true_eq_false,if_false,b,xV];done)
   |(refine⟨_,?_,.int⟩;simp only[binOp,Op.shift,Int.not_lt.2 b,if_false,xV];done)
 ·obtain rfl:=f.bool_inv;obtain rfl:=e.bool_inv;split at h
  ·refine⟨by simp_all[eqGuard],?_⟩;cases a<;>simp only at h<;>(try(cases h;done))<;>simp only[Option.some.injEq,Prod.mk.injEq]at h<;>obtain⟨rfl,rfl⟩:=h
   ·exact⟨_,by simp_all[binOp,run_equal_bool],.bool⟩
   ·exact⟨_,by grind[binOp,xU,run_equal_bool,xT,xV],.bool⟩
  grind
 ·obtain rfl:=f.str_inv;obtain rfl:=e.str_inv;refine⟨by simp_all[eqGuard],?_⟩;cases a<;>simp only at h<;>(try(cases h;done))<;>simp only[Option.some.injEq,Prod.mk.injEq]at h<;>obtain⟨rfl,rfl⟩:=h
  ·exact⟨_,by grind[binOp,Op.stringOp,xV,beq_toListBytes],.bool⟩
  ·exact⟨_,by grind[binOp,Op.stringOp,xV,bne,beq_toListBytes],.bool⟩
 ·rename_i xs D;obtain⟨vs,rfl,C,A⟩:=f.agg_inv;obtain⟨j,rfl,l,m⟩:=e.agg_inv;split at h
  ·rename_i n d;split at h
   ·rename_i o;simp only[Bool.and_eq_true]at o;split at h
    ·rename_i s k;obtain⟨⟨c,i⟩,g⟩:=o;have c:ezn P t=some true:=by simp_all
     have e:=Qze (F:=F) (w:=w) 20 t n d 9980 (.agg vs) (.agg j) xs D s (.inl ⟨c,vs,rfl,C,A⟩) (.inl ⟨c,j,rfl,l,m⟩) i g k;refine⟨run_eqGuard_agg w a t x y vs j (Mzn 20 t n d P.depth (azfw P)),?_⟩;cases a<;>simp only at h<;>(try(cases h;done))<;>simp only[Option.some.injEq,Prod.mk.injEq]at h<;>obtain⟨rfl,rfl⟩:=h
     ·exact⟨_,by simp_all[run_eql_struct],.bool⟩
     ·exact⟨_,by simp_all[run_neq_struct],.bool⟩
    grind
   grind
  grind
 grind
theorem azqc {c:BinOp}{t i:qq}{x y:xQ}{p q r:PVal}{ob:Option Prop}(e:o.op=.binOp c t x y i)(j:(env x).toP=some p)(f:(env y).toP=some q)
 (h:azg3 P c t p q=some (r,ob)) (b:holds ob):Sound1 P o env m id ⟨.pure r,[],[],ob⟩:=
 Sound1.still λF w ρ Mine M a _ _ d=>by
  obtain⟨k,z,l,g⟩:=aza5 (w:=w) x y h b ((d x (by simp[e,za])).toP j) ((d y (by simp[e,za])).toP f);exact⟨z,.value (by grind[zb,xU,xT,xV]),.pure g⟩
theorem azpj {t:qq}{x:xQ}{b:Bool}(f:o.op=.unOp .not t x)(e:env x=if b then .tt else .ff):Sound1 P o env m id (.v (if b then .ff else .tt)):=
 Sound1.still λF w ρ Mine M a _ _ d=>by
  have c:=d x (by simp[f,za]);have g:a.eval x=.bool b:=by
   rw[e]at c;generalize a.eval x=u at c⊢;cases b<;>cases c<;>rfl
  refine⟨.bool (!b),.value (by simp_all[zb,Op.unary]),?_⟩;cases b
  ·exact .tt
  ·exact .ff
theorem s_un {c:UnOp}{t:qq}{x:xQ}{p r:PVal}(f:o.op=.unOp c t x)(g:env x=.pure p)(h:evUn c p=some r):Sound1 P o env m id (.v (.pure r)):=
 Sound1.still λF w ρ Mine M a _ _ e=>by
  have b:=(g▸e x (by simp[f,za])).pure_inv;unfold evUn at h;split at h
  ·cases h;have d:=b.bool_inv;exact⟨_,.value (by grind[zb,Op.unary,xV]),.pure .bool⟩
  ·cases h;have d:=b.int_inv;exact⟨_,.value (by grind[zb,Op.unary,Op.intArith,xV]),.pure .int⟩
  ·cases h;have d:=b.int_inv;exact⟨_,.value (by grind[zb,Op.unary,Op.intBits,xV]),.pure .int⟩
  grind
theorem azpf {s d:qq}{x:xQ}{p r:PVal}(i:o.op=.convert s d x)(g:(P.underlying s).isSome=true)(f:(env x).toP=some p)(h:azbg P d p=some r):Sound1 P o env m id (.v (.pure r)):=
 Sound1.still λF w ρ Mine M a _ _ c=>by
  have b:=(c x (by simp[i,za])).toP f;obtain⟨ds,e⟩:=Option.isSome_iff_exists.1 g;unfold azbg at h;split at h
  ·cases h;have j:=b.int_inv;refine⟨_,.value ?_,.pure .int⟩
   simp_all[zb,convert,zd,Conv.intToInt]
  ·cases h;have j:=b.str_inv;refine⟨_,.value ?_,.pure .str⟩
   simp_all[zb,convert,zd]
  grind
theorem Fzb {a:Act}{w:qn}{x:xQ}{b:Array qq}{n:Int}(c:o.op=.call {callee:=.builtin .len,args:=#[x],argTypes:=b})
 (h:(Builtin.len_ b o.type #[a.eval x]).run P w=.ok (.int .i64 n) w):Ran P o a w (.int .i64 n) w:=by
 refine .value ?_
 simp_all[zb,resolve,invoke,builtin]
theorem azqf {x:xQ}{D:Array qq}{out:Out}(r:o.op=.call {callee:=.builtin .len,args:=#[x],argTypes:=D})(h:az4l P D (env x) m=some out):Sound1 P o env m id out:=by
 have d:x∈o.op.operands:=by grind[za,Call.operands]
 unfold az4l at h;split at h
 ·rename_i t J;split at h
  ·rename_i e sz n f A p;cases h;refine Sound1.still λF w ρ Mine M a _ _ j=>⟨.int .i64 n,Fzb r ?_,.pure .int⟩
   rcases(p▸j x d).pure_inv.lst_inv with⟨B,q⟩|⟨_,_,B,q,_⟩|⟨b,off,cap,c,B,_⟩;all_goals simp_all[Builtin.len_,zd,goInt]
  ·rename_i e i n A p;cases h;refine Sound1.still λF w ρ Mine M a _ _ j=>⟨.int .i64 n,Fzb r ?_,.pure .int⟩
   have g:=p▸j x d;generalize a.eval x=u at g⊢;cases g<;>simp_all[Builtin.len_,zd,goInt]
  ·rename_i e i A p;split at h
   ·rename_i sz n f sh G v;cases h;refine Sound1.still λF w ρ Mine M a y l j=>⟨.int .i64 n,Fzb r ?_,.pure .int⟩
    have g:=p▸j x d;generalize a.eval x=u at g⊢;rcases y.ok i _ ((l i jq).trans v)with⟨_,⟨k,q⟩|⟨E,z,c,C,_⟩⟩
    ·cases g<;>simp_all[Builtin.len_,zd,goInt]
    ·cases g<;>simp_all[Builtin.len_,zd,goInt]
   ·rename_i sz n f kk G off I H K v;cases h;refine Sound1.still λF w ρ Mine M a y l j=>⟨.int .i64 n,Fzb r ?_,.pure .int⟩
    have g:=p▸j x d;generalize a.eval x=u at g⊢;rcases y.ok i _ ((l i jq).trans v)with⟨_,_,⟨k,q,_⟩|⟨E,z,c,C,_⟩⟩
    ·cases g<;>simp_all[Builtin.len_,zd,goInt]
    ·cases g<;>simp_all[Builtin.len_,zd,goInt]
   ·rename_i v;cases h;refine Sound1.still λF w ρ Mine M a y l j=>⟨.int .i64 (0:Nat),Fzb r ?_,.pure .int⟩
    have g:=p▸j x d;generalize a.eval x=u at g⊢;have k:ρ.vec i=none:=y.ok i _ ((l i jq).trans v);cases g<;>simp_all[Builtin.len_,zd,goInt]
   grind
  ·rename_i s A p;cases h;refine Sound1.still λF w ρ Mine M a _ _ j=>⟨.int .i64 s.size,Fzb r ?_,.pure .int⟩
   have B:=(p▸j x d).pure_inv.str_inv
   simp_all[Builtin.len_,zd,goInt]
  ·rename_i n e A;cases h;refine Sound1.still λF w ρ Mine M a _ _ j=>⟨.int .i64 n,Fzb r ?_,.pure .int⟩
   simp_all[Builtin.len_,zd,goInt]
  grind
 grind
end Go.Abs
