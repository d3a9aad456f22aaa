import Derived.Test.YtagmfmidaochlaaGreatDoorZISoundEq
import Derived.WalkLawsBesides
open Option renaming some->AB,none->AC
open Go renaming TypeId->qp,Operand->zw,Value->qq,World->qm,execOp->zM,run_underlying->zN
open Go.Op renaming operands->zL
open Go.Result renaming andThen_ok->zB
open Go.Sem renaming run_bind->zC,run_pure->zD
open Nat renaming add_assoc->zj
open Option renaming map_eq_some_iff->zK
namespace Go.Abs
variable {P:Program} {o:Oper} {env:zw->ac} {m:Mem} {id:Nat}
theorem Ran.value {a:Act}{w b:qm}{v:qq}(h:(zM a.eval o).run P w=.ok (.value v) b):Ran P o a w v b:=.inl h
theorem aiY {x:zw}(b:o.op=.move x):aq P o env m id (.v (env x)):=
 aq.still λF w ρ d M a _ _ c=>⟨a.eval x,.value (by simp[zM,b]),c x (by simp[b,zL])⟩
theorem afP {x:zw}(b:o.op=.assign x):aq P o env m id (.v (env x)):=
 aq.still λF w ρ d M a _ _ c=>⟨a.eval x,.value (by simp[zM,b]),c x (by simp[b,zL])⟩
theorem Un {c x y:zw}(f:o.op=.pick c x y){b:Bool}(h:env c=if b then .tt else .ff):aq P o env m id (.v (env (if b then x else y))):=
 aq.still λF w ρ i M a _ _ e=>by
  have d:=e c (by simp[f,zL]);have g:a.eval c=.bool b:=by
   rw[h]at d;generalize a.eval c=u at d⊢;cases b<;>cases d<;>rfl
  refine⟨a.eval (if b then x else y),.value ?_,e _ (by grind[zL])⟩;cases b<;>simp[zM,f,g,asBool]
theorem acP {x:zw}(c:o.op=.nilCheck x)(h:match env x with| .ptr _ _| .eptr _ _ _ _| .ref _| .func _ _ _| .iface _ _=>True|_=>False):aq P o env m id (.v (env x)):=
 aq.still λF w ρ f M a _ _ e=>by
  have b:=e x (by simp[c,zL]);refine⟨a.eval x,.value ?_,b⟩;revert h b;generalize env x=y;generalize d:a.eval x=v;intro h b;cases b<;>first|(exact h.elim)|(simp[zM,c,d])
theorem SO (l:List zw){F:Cells}{w:qm}{ρ:Env}{a:Act}(h:∀x∈l,ak F w ρ (env x) (a.eval x)):
 (l.map env).length=(l.map a.eval).length/\∀ (j:Nat) (y:ac) (v:qq),(l.map env)[j]?=AB y->(l.map a.eval)[j]?=AB v->ak F w ρ y v:=by
 grind
theorem acO {f:Nat}{l b:Array zw}(i:o.op=.makeFunc (.func f) l b):aq P o env m id (.v (.func f (l.toList.map env) (b.toList.map env))):=
 aq.still λF w ρ p M a _ _ d=>by
  have g:=SO (env:=env) l.toList (F:=F) (w:=w) (ρ:=ρ) (a:=a) (λx h=>d x (by grind[zL]));have e:=SO (env:=env) b.toList (F:=F) (w:=w) (ρ:=ρ) (a:=a) (λx h=>d x (by grind[zL]));refine⟨.func (.func f) (l.map a.eval) (b.map a.eval),.value (by simp[zM,i,Instr.makeFunc]),.func jV (λj y v c k=>g.2 j y v c ?_) jV (λj y v c k=>e.2 j y v c ?_)⟩;all_goals simp_all
theorem ae5 {x:zw}{i:Nat}{c:List ac}{v:ac}(k:o.op=.extract x i)(e:env x=.tup c)(d:c[i]?=AB v):aq P o env m id (.v v):=
 aq.still λF w ρ p M a _ _ h=>by
  have b:=h x (by simp[k,zL]);rw[e]at b;generalize l:a.eval x=u at b;cases b with
  |tup j f=>
   rename_i r;have g:i<r.size:=j▸(List.getElem?_eq_some_iff.1 d).1;exact⟨r[i],.value (by simp_all[zM,Instr.extract]),f i v _ d jV⟩
theorem om {F:Cells}{w:qm}{ρ:Env}{f:Nat->Prop}{M:Mem}{i:Nat}{b:List ac}(d:aG F w ρ f M)(h:M.get i=AB (.box b)):
 ∃c e,w.heap[ρ.blk i]?=AB (.cells c e (0,0))/\c.size=b.length/\(∀o,¬F (ρ.blk i) o)/\∀ (j:Nat) (a:ac) (v:qq),b[j]?=AB a->c[j]?=AB v->ak F w ρ a v/\v.oneCell'=true:=d.ok i _ h
variable {t:qp}
theorem aiX{x:zw}{out:Out}(Q:o.op=.load t x)(h:gv P t (env x) m=AB out)(J:holds out.obl):aq P o env m id out:=by
 have C:∀ {a:Act} {w:qm} {b off:Nat} {v:qq},a.eval x=.pointer (AB ⟨b,off,AC⟩)->(loadVar t ⟨b,off,AC⟩).run P w=.ok v w->Ran P o a w v w:=by
  intro a w b off v g z;exact .value (by simp_all[zM,Instr.loadAt,Instr.sureAddr])
 cases g:env x with
 |ref p=>
  rw[g]at h;have L:out.wr=[]:=by
   unfold gv at h;simp only at h;split at h<;>first|(split at h<;>first|(simp at h;subst h;rfl)|(cases h))|cases h
  obtain⟨val,rd,wr,ob⟩:=out;subst L;refine aq.still λF w ρ Mine M a _ _ D=>?_
  have d:=D x (by simp[Q,zL]);rw[g]at d;generalize I:a.eval x=u at d;cases d with
  |ref R=>
   obtain⟨v,z,U,_⟩:=afp (ρ:=ρ) h R;grind
 |ptr i off=>
  rw[g]at h;simp only[gv]at h;split at h
  ·rename_i cs r;split at h
   ·rename_i v U;simp at h;subst h;refine aq.still λF w ρ Mine M a T l D=>?_
    have d:=D x (by simp[Q,zL]);rw[g]at d;generalize I:a.eval x=u at d;cases d with
    |ptr=>
     obtain⟨c,e,S,hl,_,z⟩:=om T ((l i jV).trans r);rcases ET (F:=F) (w:=w) (ρ:=ρ) U hl.symm (λj a v d y=>(z j a v d y).1)with⟨d,s,y,H,h4⟩|⟨d,u,y,H⟩;all_goals grind[nP]
   grind
  grind
 |eptr i sz k off=>
  rw[g]at h;simp only[gv]at h;split at h
  ·rename_i sz' n f sh e r;split at h
   ·rename_i B;split at h
    ·rename_i p R;simp at h;subst h;subst B;refine aq.still λF w ρ Mine M a T l D=>?_
     have d:=D x (by simp[Q,zL]);rw[g]at d;generalize I:a.eval x=u at d;cases d with
     |eptr E=>
      have O:k<n:=J;rcases T.ok i _ ((l i jV).trans r)with⟨_,⟨N,Z⟩|⟨b',X,c,A,S,hnc,hcm,G,hFk,K,hel⟩⟩
      {omega};rw[E]at A;cases A;have W:=K k O;have Y:k * sz+sz<=c.size:=by
       rw[G,<-Nat.succ_mul];exact Nat.mul_le_mul_right _ qa
      have z:∀ (j:Nat) (q:ae) (v:qq),(f k).cells[j]?=AB q->(c.extract (k * sz) (k * sz+sz))[j]?=AB v->aH F w q v:=by
       grind
      have V:(c.extract (k * sz) (k * sz+sz)).size=sz:=jW;rcases D1 (F:=F) (w:=w) R qa z with⟨d,s,y,H,h4⟩|⟨d,u,y,H⟩;{refine⟨_,C I (nP S (.inl ⟨d,s,y,?_,rfl⟩)),.pure ?_⟩;all_goals grind};refine⟨u,C I (nP S (.inr ⟨d,?_⟩)),.pure H⟩;grind
    grind
   grind
  grind
 |_=>rw[g]at h;simp[gv]at h
variable {c:qp}
theorem Cu{w:qm}{b d f a:Nat}(h:Fi P t f=AB (a,c)):
 ∀ (v:qq),v=.pointer (AB ⟨b,d,AC⟩)->(Instr.fieldAt t v f).run P w=.ok (.pointer (AB ⟨b,d+a,AC⟩)) w:=by
 unfold Fi at h;split at h
 ·split at h
  ·split at h;{simp_all[Instr.fieldAt,zN,Instr.sureAddr,fieldPlace,cz,dg]};grind
  grind
 grind
theorem ahF{x:zw}{f:Nat}{out:Out}(c:o.op=.fieldAddr t x f)(h:E9 P t (env x) f=AB out):aq P o env m id out:=by
 unfold E9 at h;split at h
 ·rename_i v y l;split at h
  ·rename_i i B g;simp at h;subst h;refine aq.still λF w ρ A M a n j d=>?_
   have b:=d x (by simp[c,zL]);rw[g]at b;generalize e:a.eval x=u at b;cases b with
   |ptr=>exact⟨_,.value (by simp only[zM,c,zC,Cu l _ e,zB,zD]),.ptr⟩
  ·rename_i i C k B g;simp at h;subst h;refine aq.still λF w ρ A M a n j d=>?_
   have b:=d x (by simp[c,zL]);rw[g]at b;generalize e:a.eval x=u at b;cases b with
   |eptr p=>
    refine⟨_,.value (by simp only[zM,c,zC,Cu l _ e,zB,zD];rfl),?_⟩;rw[zj];exact .eptr p
  ·rename_i z g;split at h
   ·rename_i q s;simp at h;subst h;refine aq.still λF w ρ A M a n j d=>?_
    have b:=d x (by simp[c,zL]);rw[g]at b;generalize e:a.eval x=u at b;cases b with
    |ref r=>exact⟨_,.value (by simp only[zM,c,zC,Cu l _ e,zB,zD]),.ref (r.part s)⟩
   grind
  grind
 grind
theorem afQ{x:zw}{f:Nat}{out:Out}(s:o.op=.field t x f)(h:Et P t (env x) f=AB out):aq P o env m id out:=by
 unfold Et at h;split at h
 ·split at h
  ·rename_i r z;have c:∀ {a:Act} {w:qm} {C:Array qq} {v:qq},a.eval x=.agg C->(part r.type C r.offset).run P w=.ok v w->Ran P o a w v w:=by
    intro a w C v i j;exact .value (by simp_all[zM,Instr.field,zN,asAgg])
   split at h
   ·rename_i y i;simp only[zK]at h;obtain⟨v,k,rfl⟩:=h;refine aq.still λF w ρ B M a A p n=>?_
    have b:=n x (by simp[s,zL]);rw[i]at b;generalize g:a.eval x=u at b;cases b with
    |agg q j=>
     rcases ET (F:=F) (w:=w) (ρ:=ρ) k q j with⟨b,t,d,e,l⟩|⟨b,u,d,e⟩;{exact⟨_,c g (iP (.inl ⟨b,t,d,rfl⟩)),l⟩};exact⟨_,c g (iP (.inr ⟨b,d⟩)),e⟩
   ·rename_i y i;simp only[zK]at h;obtain⟨v,k,rfl⟩:=h;refine aq.still λF w ρ B M a A p n=>?_
    have b:=n x (by simp[s,zL]);rw[i]at b;obtain⟨C,g,q,j⟩:=b.pure_inv.agg_inv;rcases D1 (F:=F) (w:=w) k q j with⟨b,t,d,e,l⟩|⟨b,u,d,e⟩
    {exact⟨_,c g (iP (.inl ⟨b,t,d,rfl⟩)),.pure l⟩};exact⟨_,c g (iP (.inr ⟨b,d⟩)),.pure e⟩
   grind
  grind
 grind
theorem abQ{x i:zw}{out:Out}(z:o.op=.indexAddr t x i)(h:Ct P t (env x) (env i) m=AB out)(v:holds out.obl):aq P o env m id out:=by
 unfold Ct at h;split at h
 ·rename_i Q A hi;have p:∀ {F:Cells} {w:qm} {ρ:Env} {a:Act},(∀x∈o.op.operands,ak F w ρ (env x) (a.eval x))->a.eval i=.int Q A:=λg=>
   (hi▸g i (by simp[z,zL])).pure_inv.int_inv
  split at h
  ·rename_i e I;split at h
   ·rename_i sz n f y;split at h
    ·simp at h;subst h;obtain⟨h0,U⟩:=v;refine aq.still λF w ρ Mine M a G r g=>?_
     have d:=g x (by simp[z,zL]);rw[y]at d;rcases d.pure_inv.lst_inv with⟨H,C⟩|⟨_,_,_,C,_⟩|⟨b,off,cap,c,H,K,L,N,hc,hr⟩
     {omega};{omega};refine⟨.pointer (AB ⟨b,off+A.toNat * sz,AC⟩),.value ?_,.ref ⟨λj=>c (A.toNat * sz+j),λj q S=>?_⟩⟩
     ·simp only[zM,z,Instr.indexAt,zC,p g,H,asIntOf,zD,zB,zN I];simp_all[cz,dg]
     grind
    grind
   ·rename_i k y;split at h
    ·rename_i sz n f sh e' hk;split at h
     ·simp at h;subst h;obtain⟨h0,U⟩:=v;refine aq.still λF w ρ Mine M a G r g=>?_
      have d:=g x (by simp[z,zL]);rw[y]at d;have D:=G.ok k _ ((r k jV).trans hk);generalize l:a.eval x=u at d;rcases D with⟨_,⟨J,C⟩|⟨X,T,c,E,hb,K,L,R,W,N,V⟩⟩
      {omega};cases d with
      |vnil O=>simp_all
      |vec O=>
       rw[O]at E;cases E;refine⟨.pointer (AB ⟨X,A.toNat * sz+0,AC⟩),.value ?_,.eptr O⟩;simp only[zM,z,Instr.indexAt,zC,p g,l,asIntOf,zD,zB,zN I];simp_all[cz,dg]
     grind
    grind
   grind
  ·rename_i len e I;split at h
   ·rename_i s hs
    have B:∀ {a:Act} {w:qm} {b off:Nat},a.eval i=.int Q A->a.eval x=.pointer (AB ⟨b,off,AC⟩)->0<=A/\A<len->
     Ran P o a w (.pointer (AB ⟨b,off+A.toNat * s,AC⟩)) w:=by
     intro a w b off d Y h3;refine .value ?_;simp only[zM,z,Instr.indexAt,zC,d,Y,asIntOf,zD,zB,zN I,Instr.sureAddr];simp_all[cz,dg]
    split at h
    ·rename_i k off y;simp at h;subst h;refine aq.still λF w ρ Mine M a G r g=>?_
     have d:=g x (by simp[z,zL]);rw[y]at d;generalize l:a.eval x=u at d;cases d with
     |ptr=>exact⟨_,B (p g) l v,.ptr⟩
    ·rename_i k sz q off y;simp at h;subst h;refine aq.still λF w ρ Mine M a G r g=>?_
     have d:=g x (by simp[z,zL]);rw[y]at d;generalize l:a.eval x=u at d;cases d with
     |eptr H=>refine⟨_,B (p g) l v,?_⟩;rw[zj];exact .eptr H
    ·rename_i cs y;split at h
     ·rename_i q S;simp at h;subst h;refine aq.still λF w ρ Mine M a G r g=>?_
      have d:=g x (by simp[z,zL]);rw[y]at d;generalize l:a.eval x=u at d;cases d with
      |ref Z=>exact⟨_,B (p g) l v,.ref (Z.part S)⟩
     grind
    grind
   grind
  grind
 grind
theorem ahH{x i:zw}{out:Out}(y:o.op=.index t x i)(h:Fc P t (env x) (env i)=AB out)(g:holds out.obl):aq P o env m id out:=by
 unfold Fc at h;split at h
 ·rename_i R b hi;have A:∀ {F:Cells} {w:qm} {ρ:Env} {a:Act},(∀x∈o.op.operands,ak F w ρ (env x) (a.eval x))->a.eval i=.int R b:=λf=>
   (hi▸f i (by simp[y,zL])).pure_inv.int_inv
  split at h
  ·rename_i len e D;split at h
   ·rename_i s Y O I;have r:∀ (p:ae),0<=b->b<len->f9 P e Y (b.toNat * s)=AB p->aq P o env m id ⟨.pure p,[],[],AB (0<=b/\b<len)⟩:=by
     intro p q B N;refine aq.still λF w ρ Z M a T K f=>?_
     have c:=f x (by simp[y,zL]);rw[I]at c;obtain⟨vs,G,d,Q⟩:=c.pure_inv.agg_inv;have z:∀ {v:qq},(part e vs (b.toNat * s)).run P w=.ok v w->Ran P o a w v w:=λN=>.value (by
      simp only[zM,y,Instr.index,zC,A f,G,asIntOf,zD,zB,zN D];simp_all[cz])
     rcases D1 (F:=F) (w:=w) N d Q with⟨c,s,J,L,U⟩|⟨c,u,J,L⟩;{exact⟨_,z (iP (.inl ⟨c,s,J,rfl⟩)),.pure U⟩};exact⟨_,z (iP (.inr ⟨c,J⟩)),.pure L⟩
    split at h
    ·rename_i k l d;simp at h;subst h;obtain⟨q,B⟩:=g;refine r _ q B ?_;unfold te at d;split at d
     ·rename_i k' S n;rw[O]at n;cases n;split at d
      ·rename_i V C;split at d
       ·cases d;have H:∀ (Y:List ae) (l:List Int),iX k Y=AB l->∀j,j<l.length->Y[j]?=AB (.int k (l.getD j 0)):=by
         intro Y;induction Y with
         |nil=>grind[iX]
         |cons p Y X=>
          intro l h j W;cases p<;>simp only[iX]at h<;>try cases h
          grind
        have E:=H Y l C b.toNat qa;unfold f9 bA;rw[S,O];simp only[Nat.mul_one,E];rfl
       simp_all
      simp_all
     simp_all
    split at h
    ·simp at h;subst h;obtain⟨q,B⟩:=g;simp_all
    grind
   grind
  ·rename_i D;split at h
   ·rename_i s I;cases h;obtain⟨q,B⟩:=g;refine aq.still λF w ρ Z M a T K f=>?_
    have c:=(I▸f x (by simp[y,zL])).pure_inv.str_inv;refine⟨.int .u8 (s.data.getD b.toNat 0).toNat,.value ?_,.pure .int⟩;have E:s[b.toNat]?=AB (s.data.getD b.toNat 0):=by
     simp_all[ByteArray.getElem_eq_getElem_data]
    simp only[zM,y,Instr.index,zC,A f,c,asIntOf,zD,zB,zN D,q,if_true,E]
   grind
  grind
 grind
variable {P:Program} {o:Oper} {env:zw->ac} {m:Mem} {id:Nat}
theorem aer (P:Program):20<=P.depth:=by grind[Program.depth,Made.depth]
variable {G:Option Prop}
theorem ad0{F:Cells}{w:qm}{a:BinOp}{p q r:ae}{v u:qq}(x y:zw)(h:tE P a t p q=AB (r,G))(b:holds G)
 (f:aH F w p v) (e:aH F w q u):(eqGuard a t x y v u).run P w=.ok () w/\∃z,(binOp a t v u).run P w=.ok z w/\aH F w r z:=by
 unfold tE at h;split at h
 ·obtain rfl:=f.int_inv;obtain rfl:=e.int_inv;refine⟨by simp_all[eqGuard],?_⟩;cases a<;>simp only at h<;>(try(split at h))<;>(try(cases h;done))<;>(try(rename_i B;subst B))<;>simp only[Option.some.injEq,Prod.mk.injEq]at h<;>obtain⟨rfl,rfl⟩:=h
  all_goals simp only[holds]at b
  all_goals first
   |(refine⟨_,?_,.int⟩;simp only[binOp,Op.intArith,ne_eq,not_true_eq_false,if_false,zD];done)
   |(refine⟨_,?_,.bool⟩;simp only[binOp,Op.intCmp,ne_eq,not_true_eq_false,if_false,zD];done)
   |(refine⟨_,?_,.int⟩;simp only[binOp,Op.intBits,ne_eq,not_true_eq_false,if_false,zD];done)
   |(refine⟨_,?_,.int⟩;simp only[binOp,Op.intDiv,ne_eq,not_true_eq_false,if_false,b,zD];done)
   |(refine⟨_,?_,.int⟩;simp only[binOp,Op.shift,Int.not_lt.2 b,if_false,zD];done)
 ·obtain rfl:=f.bool_inv;obtain rfl:=e.bool_inv;split at h
  ·refine⟨by simp_all[eqGuard],?_⟩;cases a<;>simp only at h<;>(try(cases h;done))<;>simp only[Option.some.injEq,Prod.mk.injEq]at h<;>obtain⟨rfl,rfl⟩:=h
   {exact⟨_,by simp_all[binOp,run_equal_bool],.bool⟩};exact⟨_,by grind[binOp,zC,run_equal_bool,zB,zD],.bool⟩
  grind
 ·obtain rfl:=f.str_inv;obtain rfl:=e.str_inv;refine⟨by simp_all[eqGuard],?_⟩;cases a<;>simp only at h<;>(try(cases h;done))<;>simp only[Option.some.injEq,Prod.mk.injEq]at h<;>obtain⟨rfl,rfl⟩:=h
  {exact⟨_,by grind[binOp,Op.stringOp,zD,beq_toListBytes],.bool⟩};exact⟨_,by grind[binOp,Op.stringOp,zD,bne,beq_toListBytes],.bool⟩
 ·rename_i H D;obtain⟨E,rfl,C,A⟩:=f.agg_inv;obtain⟨j,rfl,l,m⟩:=e.agg_inv;split at h
  ·rename_i n d;split at h
   ·rename_i o;simp only[Bool.and_eq_true]at o;split at h
    ·rename_i s k;obtain⟨⟨c,i⟩,g⟩:=o;have c:bA P t=AB true:=by simp_all
     have e:=su (F:=F) (w:=w) 20 t n d 9980 (.agg E) (.agg j) H D s (.inl ⟨c,E,rfl,C,A⟩) (.inl ⟨c,j,rfl,l,m⟩) i g k;refine⟨run_eqGuard_agg w a t x y E j (Dg 20 t n d P.depth (aer P)),?_⟩;cases a<;>simp only at h<;>(try(cases h;done))<;>simp only[Option.some.injEq,Prod.mk.injEq]at h<;>obtain⟨rfl,rfl⟩:=h
     {exact⟨_,by simp_all[run_eql_struct],.bool⟩};exact⟨_,by simp_all[run_neq_struct],.bool⟩
    grind
   grind
  grind
 grind
theorem aju{i:BinOp}{x y:zw}{p q r:ae}(e:o.op=.binOp i t x y c)(j:(env x).toP=AB p)(f:(env y).toP=AB q)
 (h:tE P i t p q=AB (r,G)) (b:holds G):aq P o env m id ⟨.pure r,[],[],G⟩:=
 aq.still λF w ρ A M a _ _ d=>by
  obtain⟨k,z,l,g⟩:=ad0 (w:=w) x y h b ((d x (by simp[e,zL])).toP j) ((d y (by simp[e,zL])).toP f);exact⟨z,.value (by grind[zM,zC,zB,zD]),.pure g⟩
theorem UT{x:zw}{b:Bool}(f:o.op=.unOp .not t x)(e:env x=if b then .tt else .ff):aq P o env m id (.v (if b then .ff else .tt)):=
 aq.still λF w ρ h M a _ _ d=>by
  have c:=d x (by simp[f,zL]);have g:a.eval x=.bool b:=by
   rw[e]at c;generalize a.eval x=u at c⊢;cases b<;>cases c<;>rfl
  refine⟨.bool (!b),.value (by simp_all[zM,Op.unary]),?_⟩;cases b;{exact .tt};exact .ff
theorem s_un{c:UnOp}{x:zw}{p r:ae}(f:o.op=.unOp c t x)(g:env x=.pure p)(h:evUn c p=AB r):aq P o env m id (.v (.pure r)):=
 aq.still λF w ρ i M a _ _ e=>by
  have b:=(g▸e x (by simp[f,zL])).pure_inv;unfold evUn at h;split at h;{cases h;have d:=b.bool_inv;exact⟨_,.value (by grind[zM,Op.unary,zD]),.pure .bool⟩};{cases h;have d:=b.int_inv;exact⟨_,.value (by grind[zM,Op.unary,Op.intArith,zD]),.pure .int⟩};{cases h;have d:=b.int_inv;exact⟨_,.value (by grind[zM,Op.unary,Op.intBits,zD]),.pure .int⟩};grind
theorem aiV{x:zw}{p r:ae}(i:o.op=.convert t c x)(g:(P.underlying t).isSome=true)(f:(env x).toP=AB p)(h:FF P c p=AB r):aq P o env m id (.v (.pure r)):=
 aq.still λF w ρ k M a _ _ d=>by
  have b:=(d x (by simp[i,zL])).toP f;obtain⟨l,e⟩:=Option.isSome_iff_exists.1 g;unfold FF at h;split at h
  ·cases h;have j:=b.int_inv;refine⟨_,.value ?_,.pure .int⟩;simp_all[zM,convert,zN,Conv.intToInt]
  ·cases h;have j:=b.str_inv;refine⟨_,.value ?_,.pure .str⟩;simp_all[zM,convert,zN]
  grind
theorem iS {a:Act}{w:qm}{x:zw}{b:Array qp}{n:Int}(c:o.op=.call {callee:=.builtin .len,args:=#[x],argTypes:=b})
 (h:(Builtin.len_ b o.type #[a.eval x]).run P w=.ok (.int .i64 n) w):Ran P o a w (.int .i64 n) w:=by
 refine .value ?_;simp_all[zM,resolve,invoke,builtin]
theorem ajx {x:zw}{D:Array qp}{out:Out}(r:o.op=.call {callee:=.builtin .len,args:=#[x],argTypes:=D})(h:lC P D (env x) m=AB out):aq P o env m id out:=by
 have d:x∈o.op.operands:=by grind[zL,Call.operands]
 unfold lC at h;split at h
 ·rename_i t J;split at h
  ·rename_i e O n f A p;cases h;refine aq.still λF w ρ L M a _ _ j=>⟨.int .i64 n,iS r ?_,.pure .int⟩
   rcases(p▸j x d).pure_inv.lst_inv with⟨B,q⟩|⟨_,_,B,q,_⟩|⟨b,N,Q,c,B,_⟩;all_goals simp_all[Builtin.len_,zN,goInt]
  ·rename_i e i n A p;cases h;refine aq.still λF w ρ L M a _ _ j=>⟨.int .i64 n,iS r ?_,.pure .int⟩
   have g:=p▸j x d;generalize a.eval x=u at g⊢;cases g<;>simp_all[Builtin.len_,zN,goInt]
  ·rename_i e i A p;split at h
   ·rename_i O n f S G v;cases h;refine aq.still λF w ρ L M a y l j=>⟨.int .i64 n,iS r ?_,.pure .int⟩
    have g:=p▸j x d;generalize a.eval x=u at g⊢;rcases y.ok i _ ((l i jV).trans v)with⟨_,⟨k,q⟩|⟨E,z,c,C,_⟩⟩
    {cases g<;>simp_all[Builtin.len_,zN,goInt]};cases g<;>simp_all[Builtin.len_,zN,goInt]
   ·rename_i O n f R G N I H K v;cases h;refine aq.still λF w ρ L M a y l j=>⟨.int .i64 n,iS r ?_,.pure .int⟩
    have g:=p▸j x d;generalize a.eval x=u at g⊢;rcases y.ok i _ ((l i jV).trans v)with⟨_,_,⟨k,q,_⟩|⟨E,z,c,C,_⟩⟩
    {cases g<;>simp_all[Builtin.len_,zN,goInt]};cases g<;>simp_all[Builtin.len_,zN,goInt]
   ·rename_i v;cases h;refine aq.still λF w ρ L M a y l j=>⟨.int .i64 (0:Nat),iS r ?_,.pure .int⟩
    have g:=p▸j x d;generalize a.eval x=u at g⊢;have k:ρ.vec i=none:=y.ok i _ ((l i jV).trans v);cases g<;>simp_all[Builtin.len_,zN,goInt]
   grind
  ·rename_i s A p;cases h;refine aq.still λF w ρ L M a _ _ j=>⟨.int .i64 s.size,iS r ?_,.pure .int⟩
   have B:=(p▸j x d).pure_inv.str_inv;simp_all[Builtin.len_,zN,goInt]
  ·rename_i n e A;cases h;refine aq.still λF w ρ L M a _ _ j=>⟨.int .i64 n,iS r ?_,.pure .int⟩
   simp_all[Builtin.len_,zN,goInt]
  grind
 grind
end Go.Abs
