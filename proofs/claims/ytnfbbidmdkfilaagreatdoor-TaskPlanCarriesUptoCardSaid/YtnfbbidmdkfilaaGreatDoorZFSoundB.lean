import Derived.Test.YtnfbbidmdkfilaaGreatDoorZFSoundEq
import Derived.WalkLawsBesides
open Go renaming TypeId->qq,Operand->zd,Value->qr,World->qn,execOp->zt,run_underlying->zu
open Go.Op renaming operands->zs
open Go.Result renaming andThen_ok->zg
open Go.Sem renaming run_bind->zh,run_pure->zi
open Nat renaming add_assoc->xQ
open Option renaming map_eq_some_iff->zr
namespace Go.Abs
variable {P:Program} {o:Oper} {env:zd->AVal} {m:Mem} {id:Nat}
theorem Ran.value {a:Act}{w b:qn}{v:qr}(h:(zt a.eval o).run P w=.ok (.value v) b):Ran P o a w v b:=.inl h
theorem aznl {x:zd}(b:o.op=.move x):Sound1 P o env m id (.v (env x)):=
 Sound1.still λF w ρ Mine M a _ _ c=>⟨a.eval x,.value (by simp[zt,b]),c x (by simp[b,zs])⟩
theorem azgx {x:zd}(b:o.op=.assign x):Sound1 P o env m id (.v (env x)):=
 Sound1.still λF w ρ Mine M a _ _ c=>⟨a.eval x,.value (by simp[zt,b]),c x (by simp[b,zs])⟩
theorem aziq {c x y:zd}(f:o.op=.pick c x y){b:Bool}(h:env c=if b then .tt else .ff):Sound1 P o env m id (.v (env (if b then x else y))):=
 Sound1.still λF w ρ Mine M a _ _ e=>by
  have d:=e c (by simp[f,zs]);have g:a.eval c=.bool b:=by
   rw[h]at d;generalize a.eval c=u at d⊢;cases b<;>cases d<;>rfl
  refine⟨a.eval (if b then x else y),.value ?_,e _ (by grind[zs])⟩;cases b<;>simp[zt,f,g,asBool]
theorem az8r {x:zd}(c:o.op=.nilCheck x)(h:match env x with| .ptr _ _| .eptr _ _ _ _| .ref _| .func _ _ _| .iface _ _=>True|_=>False):Sound1 P o env m id (.v (env x)):=
 Sound1.still λF w ρ Mine M a _ _ e=>by
  have b:=e x (by simp[c,zs]);refine⟨a.eval x,.value ?_,b⟩;revert h b;generalize env x=y;generalize d:a.eval x=v;intro h b;cases b<;>first|(exact h.elim)|(simp[zt,c,d])
theorem az6w (l:List zd){F:Cells}{w:qn}{ρ:Env}{a:Act}(h:∀x∈l,ARel F w ρ (env x) (a.eval x)):
 (l.map env).length=(l.map a.eval).length/\∀ (j:Nat) (y:AVal) (v:qr),(l.map env)[j]?=some y->(l.map a.eval)[j]?=some v->ARel F w ρ y v:=by
 grind
theorem az8q {f:Nat}{xs b:Array zd}(i:o.op=.makeFunc (.func f) xs b):Sound1 P o env m id (.v (.func f (xs.toList.map env) (b.toList.map env))):=
 Sound1.still λF w ρ Mine M a _ _ d=>by
  have g:=az6w (env:=env) xs.toList (F:=F) (w:=w) (ρ:=ρ) (a:=a) (λx h=>d x (by grind[zs]));have e:=az6w (env:=env) b.toList (F:=F) (w:=w) (ρ:=ρ) (a:=a) (λx h=>d x (by grind[zs]));refine⟨.func (.func f) (xs.map a.eval) (b.map a.eval),.value (by simp[zt,i,Instr.makeFunc]),.func jG (λj y v c k=>g.2 j y v c ?_) jG (λj y v c k=>e.2 j y v c ?_)⟩;all_goals simp_all
theorem azd8 {x:zd}{i:Nat}{c:List AVal}{v:AVal}(k:o.op=.extract x i)(e:env x=.tup c)(d:c[i]?=some v):Sound1 P o env m id (.v v):=
 Sound1.still λF w ρ Mine M a _ _ h=>by
  have b:=h x (by simp[k,zs]);rw[e]at b;generalize l:a.eval x=u at b;cases b with
  |tup j f=>
   rename_i vs;have g:i<vs.size:=j▸(List.getElem?_eq_some_iff.1 d).1;exact⟨vs[i],.value (by simp_all[zt,Instr.extract]),f i v _ d jG⟩
theorem Rz0 {F:Cells}{w:qn}{ρ:Env}{Mine:Nat->Prop}{M:Mem}{i:Nat}{b:List AVal}(d:MemOk F w ρ Mine M)(h:M.get i=some (.box b)):
 ∃c e,w.heap[ρ.blk i]?=some (.cells c e (0,0))/\c.size=b.length/\(∀o,¬F (ρ.blk i) o)/\∀ (j:Nat) (a:AVal) (v:qr),b[j]?=some a->c[j]?=some v->ARel F w ρ a v/\v.oneCell'=true:=d.ok i _ h
theorem aznk {t:qq}{x:zd}{out:Out}(Q:o.op=.load t x)(h:Gzo P t (env x) m=some out)(J:holds out.obl):Sound1 P o env m id out:=by
 have C:∀ {a:Act} {w:qn} {b off:Nat} {v:qr},a.eval x=.pointer (some ⟨b,off,none⟩)->(loadVar t ⟨b,off,none⟩).run P w=.ok v w->Ran P o a w v w:=by
  intro a w b off v g z;exact .value (by simp_all[zt,Instr.loadAt,Instr.sureAddr])
 cases g:env x with
 |ref p=>
  rw[g]at h;have L:out.wr=[]:=by
   unfold Gzo at h;simp only at h;split at h<;>first|(split at h<;>first|(simp at h;subst h;rfl)|(cases h))|cases h
  obtain⟨val,rd,wr,ob⟩:=out;subst L;refine Sound1.still λF w ρ Mine M a _ _ D=>?_
  have d:=D x (by simp[Q,zs]);rw[g]at d;generalize I:a.eval x=u at d;cases d with
  |ref R=>
   obtain⟨v,z,U,_⟩:=azg1 (ρ:=ρ) h R
   grind
 |ptr i off=>
  rw[g]at h;simp only[Gzo]at h;split at h
  ·rename_i cs r;split at h
   ·rename_i v U;simp at h;subst h;refine Sound1.still λF w ρ Mine M a T l D=>?_
    have d:=D x (by simp[Q,zs]);rw[g]at d;generalize I:a.eval x=u at d;cases d with
    |ptr=>
     obtain⟨c,e,S,hl,_,z⟩:=Rz0 T ((l i jG).trans r);rcases Yzh (F:=F) (w:=w) (ρ:=ρ) U hl.symm (λj a v d y=>(z j a v d y).1)with⟨d,s,y,H,h4⟩|⟨d,u,y,H⟩;all_goals grind[rzb]
   grind
  grind
 |eptr i sz k off=>
  rw[g]at h;simp only[Gzo]at h;split at h
  ·rename_i sz' n f sh e r;split at h
   ·rename_i B;split at h
    ·rename_i p R;simp at h;subst h;subst B;refine Sound1.still λF w ρ Mine M a T l D=>?_
     have d:=D x (by simp[Q,zs]);rw[g]at d;generalize I:a.eval x=u at d;cases d with
     |eptr E=>
      have O:k<n:=J;rcases T.ok i _ ((l i jG).trans r)with⟨_,⟨N,Z⟩|⟨b',X,c,A,S,hnc,hcm,G,hFk,K,hel⟩⟩
      ·omega
      ·rw[E]at A;cases A;have W:=K k O;have Y:k * sz+sz<=c.size:=by
        rw[G,<-Nat.succ_mul];exact Nat.mul_le_mul_right _ qa
       have z:∀ (j:Nat) (q:PVal) (v:qr),(f k).cells[j]?=some q->(c.extract (k * sz) (k * sz+sz))[j]?=some v->PRel F w q v:=by
        grind
       have V:(c.extract (k * sz) (k * sz+sz)).size=sz:=jH
       rcases Szh (F:=F) (w:=w) R qa z with⟨d,s,y,H,h4⟩|⟨d,u,y,H⟩
       ·refine⟨_,C I (rzb S (.inl ⟨d,s,y,?_,rfl⟩)),.pure ?_⟩;all_goals grind
       ·refine⟨u,C I (rzb S (.inr ⟨d,?_⟩)),.pure H⟩
        grind
    grind
   grind
  grind
 |_=>rw[g]at h;simp[Gzo]at h
theorem Iz5 {w:qn}{b off:Nat}{s:qq}{f a:Nat}{c:qq}(h:az3v P s f=some (a,c)):
 ∀ (v:qr),v=.pointer (some ⟨b,off,none⟩)->(Instr.fieldAt s v f).run P w=.ok (.pointer (some ⟨b,off+a,none⟩)) w:=by
 unfold az3v at h;split at h
 ·split at h
  ·split at h
   ·simp_all[Instr.fieldAt,zu,Instr.sureAddr,fieldPlace,bzz,ezd]
   grind
  grind
 grind
theorem azkw {s:qq}{x:zd}{f:Nat}{out:Out}(c:o.op=.fieldAddr s x f)(h:az3n P s (env x) f=some out):Sound1 P o env m id out:=by
 unfold az3n at h;split at h
 ·rename_i v y l;split at h
  ·rename_i i off g;simp at h;subst h;refine Sound1.still λF w ρ Mine M a n j d=>?_
   have b:=d x (by simp[c,zs]);rw[g]at b;generalize e:a.eval x=u at b;cases b with
   |ptr=>exact⟨_,.value (by simp only[zt,c,zh,Iz5 l _ e,zg,zi]),.ptr⟩
  ·rename_i i sz k off g;simp at h;subst h;refine Sound1.still λF w ρ Mine M a n j d=>?_
   have b:=d x (by simp[c,zs]);rw[g]at b;generalize e:a.eval x=u at b;cases b with
   |eptr p=>
    refine⟨_,.value (by simp only[zt,c,zh,Iz5 l _ e,zg,zi];rfl),?_⟩;rw[xQ];exact .eptr p
  ·rename_i z g;split at h
   ·rename_i q t;simp at h;subst h;refine Sound1.still λF w ρ Mine M a n j d=>?_
    have b:=d x (by simp[c,zs]);rw[g]at b;generalize e:a.eval x=u at b;cases b with
    |ref r=>exact⟨_,.value (by simp only[zt,c,zh,Iz5 l _ e,zg,zi]),.ref (r.part t)⟩
   grind
  grind
 grind
theorem azgy {s:qq}{x:zd}{f:Nat}{out:Out}(t:o.op=.field s x f)(h:Xz7 P s (env x) f=some out):Sound1 P o env m id out:=by
 unfold Xz7 at h;split at h
 ·split at h
  ·rename_i r z;have c:∀ {a:Act} {w:qn} {vs:Array qr} {v:qr},a.eval x=.agg vs->(part r.type vs r.offset).run P w=.ok v w->Ran P o a w v w:=by
    intro a w vs v i j;exact .value (by simp_all[zt,Instr.field,zu,asAgg])
   split at h
   ·rename_i y i;simp only[zr]at h;obtain⟨v,k,rfl⟩:=h;refine Sound1.still λF w ρ Mine M a A p n=>?_
    have b:=n x (by simp[t,zs]);rw[i]at b;generalize g:a.eval x=u at b;cases b with
    |agg q j=>
     rcases Yzh (F:=F) (w:=w) (ρ:=ρ) k q j with⟨b,s,d,e,l⟩|⟨b,u,d,e⟩
     ·exact⟨_,c g (qzv (.inl ⟨b,s,d,rfl⟩)),l⟩
     ·exact⟨_,c g (qzv (.inr ⟨b,d⟩)),e⟩
   ·rename_i y i;simp only[zr]at h;obtain⟨v,k,rfl⟩:=h;refine Sound1.still λF w ρ Mine M a A p n=>?_
    have b:=n x (by simp[t,zs]);rw[i]at b;obtain⟨vs,g,q,j⟩:=b.pure_inv.agg_inv;rcases Szh (F:=F) (w:=w) k q j with⟨b,s,d,e,l⟩|⟨b,u,d,e⟩
    ·exact⟨_,c g (qzv (.inl ⟨b,s,d,rfl⟩)),.pure l⟩
    ·exact⟨_,c g (qzv (.inr ⟨b,d⟩)),.pure e⟩
   grind
  grind
 grind
theorem az4y {t:qq}{x i:zd}{out:Out}(z:o.op=.indexAddr t x i)(h:Iz3 P t (env x) (env i) m=some out)(v:holds out.obl):Sound1 P o env m id out:=by
 unfold Iz3 at h;split at h
 ·rename_i Q A hi;have p:∀ {F:Cells} {w:qn} {ρ:Env} {a:Act},(∀x∈o.op.operands,ARel F w ρ (env x) (a.eval x))->a.eval i=.int Q A:=λg=>
   (hi▸g i (by simp[z,zs])).pure_inv.int_inv
  split at h
  ·rename_i e I;split at h
   ·rename_i sz n f y;split at h
    ·simp at h;subst h;obtain⟨h0,U⟩:=v;refine Sound1.still λF w ρ Mine M a G r g=>?_
     have d:=g x (by simp[z,zs]);rw[y]at d;rcases d.pure_inv.lst_inv with⟨H,C⟩|⟨_,_,_,C,_⟩|⟨b,off,cap,c,H,K,L,N,hc,hr⟩
     ·omega
     ·omega
     ·refine⟨.pointer (some ⟨b,off+A.toNat * sz,none⟩),.value ?_,.ref ⟨λj=>c (A.toNat * sz+j),λj q S=>?_⟩⟩
      ·simp only[zt,z,Instr.indexAt,zh,p g,H,asIntOf,zi,zg,zu I]
       simp_all[bzz,ezd]
      grind
    grind
   ·rename_i k y;split at h
    ·rename_i sz n f sh e' hk;split at h
     ·simp at h;subst h;obtain⟨h0,U⟩:=v;refine Sound1.still λF w ρ Mine M a G r g=>?_
      have d:=g x (by simp[z,zs]);rw[y]at d;have D:=G.ok k _ ((r k jG).trans hk);generalize l:a.eval x=u at d;rcases D with⟨_,⟨J,C⟩|⟨X,T,c,E,hb,K,L,R,W,N,V⟩⟩
      ·omega
      ·cases d with
       |vnil O=>simp_all
       |vec O=>
        rw[O]at E;cases E;refine⟨.pointer (some ⟨X,A.toNat * sz+0,none⟩),.value ?_,.eptr O⟩;simp only[zt,z,Instr.indexAt,zh,p g,l,asIntOf,zi,zg,zu I]
        simp_all[bzz,ezd]
     grind
    grind
   grind
  ·rename_i len e I;split at h
   ·rename_i s hs
    have B:∀ {a:Act} {w:qn} {b off:Nat},a.eval i=.int Q A->a.eval x=.pointer (some ⟨b,off,none⟩)->0<=A/\A<len->
     Ran P o a w (.pointer (some ⟨b,off+A.toNat * s,none⟩)) w:=by
     intro a w b off d Y h3;refine .value ?_;simp only[zt,z,Instr.indexAt,zh,d,Y,asIntOf,zi,zg,zu I,Instr.sureAddr]
     simp_all[bzz,ezd]
    split at h
    ·rename_i k off y;simp at h;subst h;refine Sound1.still λF w ρ Mine M a G r g=>?_
     have d:=g x (by simp[z,zs]);rw[y]at d;generalize l:a.eval x=u at d;cases d with
     |ptr=>exact⟨_,B (p g) l v,.ptr⟩
    ·rename_i k sz q off y;simp at h;subst h;refine Sound1.still λF w ρ Mine M a G r g=>?_
     have d:=g x (by simp[z,zs]);rw[y]at d;generalize l:a.eval x=u at d;cases d with
     |eptr H=>refine⟨_,B (p g) l v,?_⟩;rw[xQ];exact .eptr H
    ·rename_i cs y;split at h
     ·rename_i q S;simp at h;subst h;refine Sound1.still λF w ρ Mine M a G r g=>?_
      have d:=g x (by simp[z,zs]);rw[y]at d;generalize l:a.eval x=u at d;cases d with
      |ref Z=>exact⟨_,B (p g) l v,.ref (Z.part S)⟩
     grind
    grind
   grind
  grind
 grind
theorem azky {t:qq}{x i:zd}{out:Out}(y:o.op=.index t x i)(h:az3p P t (env x) (env i)=some out)(g:holds out.obl):Sound1 P o env m id out:=by
 unfold az3p at h;split at h
 ·rename_i R b hi;have A:∀ {F:Cells} {w:qn} {ρ:Env} {a:Act},(∀x∈o.op.operands,ARel F w ρ (env x) (a.eval x))->a.eval i=.int R b:=λf=>
   (hi▸f i (by simp[y,zs])).pure_inv.int_inv
  split at h
  ·rename_i len e D;split at h
   ·rename_i s ps O I;have r:∀ (p:PVal),0<=b->b<len->Szg P e ps (b.toNat * s)=some p->Sound1 P o env m id ⟨.pure p,[],[],some (0<=b/\b<len)⟩:=by
     intro p q B N;refine Sound1.still λF w ρ Mine M a T K f=>?_
     have c:=f x (by simp[y,zs]);rw[I]at c;obtain⟨vs,G,d,Q⟩:=c.pure_inv.agg_inv;have z:∀ {v:qr},(part e vs (b.toNat * s)).run P w=.ok v w->Ran P o a w v w:=λN=>.value (by
      simp only[zt,y,Instr.index,zh,A f,G,asIntOf,zi,zg,zu D]
      simp_all[bzz])
     rcases Szh (F:=F) (w:=w) N d Q with⟨c,s,J,L,U⟩|⟨c,u,J,L⟩
     ·exact⟨_,z (qzv (.inl ⟨c,s,J,rfl⟩)),.pure U⟩
     ·exact⟨_,z (qzv (.inr ⟨c,J⟩)),.pure L⟩
    split at h
    ·rename_i k l d;simp at h;subst h;obtain⟨q,B⟩:=g;refine r _ q B ?_;unfold az67 at d;split at d
     ·rename_i k' S n;rw[O]at n;cases n;split at d
      ·rename_i V C;split at d
       ·cases d;have H:∀ (ps:List PVal) (l:List Int),Oz4 k ps=some l->∀j,j<l.length->ps[j]?=some (.int k (l.getD j 0)):=by
         intro ps;induction ps with
         |nil=>grind[Oz4]
         |cons p ps X=>
          intro l h j W;cases p<;>simp only[Oz4]at h<;>try cases h
          grind
        have E:=H ps l C b.toNat qa;unfold Szg ezn;rw[S,O];simp only[Nat.mul_one,E];rfl
       simp_all
      simp_all
     simp_all
    ·split at h
     ·simp at h;subst h;obtain⟨q,B⟩:=g
      simp_all
     grind
   grind
  ·rename_i D;split at h
   ·rename_i s I;cases h;obtain⟨q,B⟩:=g;refine Sound1.still λF w ρ Mine M a T K f=>?_
    have c:=(I▸f x (by simp[y,zs])).pure_inv.str_inv;refine⟨.int .u8 (s.data.getD b.toNat 0).toNat,.value ?_,.pure .int⟩;have E:s[b.toNat]?=some (s.data.getD b.toNat 0):=by
     simp_all[ByteArray.getElem_eq_getElem_data]
    simp only[zt,y,Instr.index,zh,A f,c,asIntOf,zi,zg,zu D,q,if_true,E]
   grind
  grind
 grind
variable {P:Program} {o:Oper} {env:zd->AVal} {m:Mem} {id:Nat}
theorem azei (P:Program):20<=P.depth:=by grind[Program.depth,Made.depth]
theorem az99 {F:Cells}{w:qn}{a:BinOp}{t:qq}{p q r:PVal}{ob:Option Prop}{v u:qr}(x y:zd)(h:azeo P a t p q=some (r,ob))(b:holds ob)
 (f:PRel F w p v) (e:PRel F w q u):(eqGuard a t x y v u).run P w=.ok () w/\∃z,(binOp a t v u).run P w=.ok z w/\PRel F w r z:=by
 unfold azeo at h;split at h
 ·obtain rfl:=f.int_inv;obtain rfl:=e.int_inv;refine⟨by simp_all[eqGuard],?_⟩;cases a<;>simp only at h<;>(try(split at h))<;>(try(cases h;done))<;>(try(rename_i B;subst B))<;>simp only[Option.some.injEq,Prod.mk.injEq]at h<;>obtain⟨rfl,rfl⟩:=h
  all_goals simp only[holds]at b
  all_goals first
   |(refine⟨_,?_,.int⟩;simp only[binOp,Op.intArith,ne_eq,not_true_eq_false,if_false,zi];done)
   |(refine⟨_,?_,.bool⟩;simp only[binOp,Op.intCmp,ne_eq,not_true_eq_false,if_false,zi];done)
   |(refine⟨_,?_,.int⟩;simp only[binOp,Op.intBits,ne_eq,not_true_eq_false,if_false,zi];done)
   |(refine⟨_,?_,.int⟩;simp only[binOp,Op.intDiv,ne_eq,not_true_eq_false,if_false,b,zi];done)
   |(refine⟨_,?_,.int⟩;simp only[binOp,Op.shift,Int.not_lt.2 b,if_false,zi];done)
 ·obtain rfl:=f.bool_inv;obtain rfl:=e.bool_inv;split at h
  ·refine⟨by simp_all[eqGuard],?_⟩;cases a<;>simp only at h<;>(try(cases h;done))<;>simp only[Option.some.injEq,Prod.mk.injEq]at h<;>obtain⟨rfl,rfl⟩:=h
   ·exact⟨_,by simp_all[binOp,run_equal_bool],.bool⟩
   ·exact⟨_,by grind[binOp,zh,run_equal_bool,zg,zi],.bool⟩
  grind
 ·obtain rfl:=f.str_inv;obtain rfl:=e.str_inv;refine⟨by simp_all[eqGuard],?_⟩;cases a<;>simp only at h<;>(try(cases h;done))<;>simp only[Option.some.injEq,Prod.mk.injEq]at h<;>obtain⟨rfl,rfl⟩:=h
  ·exact⟨_,by grind[binOp,Op.stringOp,zi,beq_toListBytes],.bool⟩
  ·exact⟨_,by grind[binOp,Op.stringOp,zi,bne,beq_toListBytes],.bool⟩
 ·rename_i xs D;obtain⟨vs,rfl,C,A⟩:=f.agg_inv;obtain⟨j,rfl,l,m⟩:=e.agg_inv;split at h
  ·rename_i n d;split at h
   ·rename_i o;simp only[Bool.and_eq_true]at o;split at h
    ·rename_i s k;obtain⟨⟨c,i⟩,g⟩:=o;have c:ezn P t=some true:=by simp_all
     have e:=Qz9 (F:=F) (w:=w) 20 t n d 9980 (.agg vs) (.agg j) xs D s (.inl ⟨c,vs,rfl,C,A⟩) (.inl ⟨c,j,rfl,l,m⟩) i g k;refine⟨run_eqGuard_agg w a t x y vs j (Mzf 20 t n d P.depth (azei P)),?_⟩;cases a<;>simp only at h<;>(try(cases h;done))<;>simp only[Option.some.injEq,Prod.mk.injEq]at h<;>obtain⟨rfl,rfl⟩:=h
     ·exact⟨_,by simp_all[run_eql_struct],.bool⟩
     ·exact⟨_,by simp_all[run_neq_struct],.bool⟩
    grind
   grind
  grind
 grind
theorem azol {c:BinOp}{t i:qq}{x y:zd}{p q r:PVal}{ob:Option Prop}(e:o.op=.binOp c t x y i)(j:(env x).toP=some p)(f:(env y).toP=some q)
 (h:azeo P c t p q=some (r,ob)) (b:holds ob):Sound1 P o env m id ⟨.pure r,[],[],ob⟩:=
 Sound1.still λF w ρ Mine M a _ _ d=>by
  obtain⟨k,z,l,g⟩:=az99 (w:=w) x y h b ((d x (by simp[e,zs])).toP j) ((d y (by simp[e,zs])).toP f);exact⟨z,.value (by grind[zt,zh,zg,zi]),.pure g⟩
theorem aznm {t:qq}{x:zd}{b:Bool}(f:o.op=.unOp .not t x)(e:env x=if b then .tt else .ff):Sound1 P o env m id (.v (if b then .ff else .tt)):=
 Sound1.still λF w ρ Mine M a _ _ d=>by
  have c:=d x (by simp[f,zs]);have g:a.eval x=.bool b:=by
   rw[e]at c;generalize a.eval x=u at c⊢;cases b<;>cases c<;>rfl
  refine⟨.bool (!b),.value (by simp_all[zt,Op.unary]),?_⟩;cases b
  ·exact .tt
  ·exact .ff
theorem s_un {c:UnOp}{t:qq}{x:zd}{p r:PVal}(f:o.op=.unOp c t x)(g:env x=.pure p)(h:evUn c p=some r):Sound1 P o env m id (.v (.pure r)):=
 Sound1.still λF w ρ Mine M a _ _ e=>by
  have b:=(g▸e x (by simp[f,zs])).pure_inv;unfold evUn at h;split at h
  ·cases h;have d:=b.bool_inv;exact⟨_,.value (by grind[zt,Op.unary,zi]),.pure .bool⟩
  ·cases h;have d:=b.int_inv;exact⟨_,.value (by grind[zt,Op.unary,Op.intArith,zi]),.pure .int⟩
  ·cases h;have d:=b.int_inv;exact⟨_,.value (by grind[zt,Op.unary,Op.intBits,zi]),.pure .int⟩
  grind
theorem azni {s d:qq}{x:zd}{p r:PVal}(i:o.op=.convert s d x)(g:(P.underlying s).isSome=true)(f:(env x).toP=some p)(h:aza8 P d p=some r):Sound1 P o env m id (.v (.pure r)):=
 Sound1.still λF w ρ Mine M a _ _ c=>by
  have b:=(c x (by simp[i,zs])).toP f;obtain⟨ds,e⟩:=Option.isSome_iff_exists.1 g;unfold aza8 at h;split at h
  ·cases h;have j:=b.int_inv;refine⟨_,.value ?_,.pure .int⟩
   simp_all[zt,convert,zu,Conv.intToInt]
  ·cases h;have j:=b.str_inv;refine⟨_,.value ?_,.pure .str⟩
   simp_all[zt,convert,zu]
  grind
theorem Ezv {a:Act}{w:qn}{x:zd}{b:Array qq}{n:Int}(c:o.op=.call {callee:=.builtin .len,args:=#[x],argTypes:=b})
 (h:(Builtin.len_ b o.type #[a.eval x]).run P w=.ok (.int .i64 n) w):Ran P o a w (.int .i64 n) w:=by
 refine .value ?_
 simp_all[zt,resolve,invoke,builtin]
theorem azoo {x:zd}{D:Array qq}{out:Out}(r:o.op=.call {callee:=.builtin .len,args:=#[x],argTypes:=D})(h:az3q P D (env x) m=some out):Sound1 P o env m id out:=by
 have d:x∈o.op.operands:=by grind[zs,Call.operands]
 unfold az3q at h;split at h
 ·rename_i t J;split at h
  ·rename_i e sz n f A p;cases h;refine Sound1.still λF w ρ Mine M a _ _ j=>⟨.int .i64 n,Ezv r ?_,.pure .int⟩
   rcases(p▸j x d).pure_inv.lst_inv with⟨B,q⟩|⟨_,_,B,q,_⟩|⟨b,off,cap,c,B,_⟩;all_goals simp_all[Builtin.len_,zu,goInt]
  ·rename_i e i n A p;cases h;refine Sound1.still λF w ρ Mine M a _ _ j=>⟨.int .i64 n,Ezv r ?_,.pure .int⟩
   have g:=p▸j x d;generalize a.eval x=u at g⊢;cases g<;>simp_all[Builtin.len_,zu,goInt]
  ·rename_i e i A p;split at h
   ·rename_i sz n f sh G v;cases h;refine Sound1.still λF w ρ Mine M a y l j=>⟨.int .i64 n,Ezv r ?_,.pure .int⟩
    have g:=p▸j x d;generalize a.eval x=u at g⊢;rcases y.ok i _ ((l i jG).trans v)with⟨_,⟨k,q⟩|⟨E,z,c,C,_⟩⟩
    ·cases g<;>simp_all[Builtin.len_,zu,goInt]
    ·cases g<;>simp_all[Builtin.len_,zu,goInt]
   ·rename_i sz n f kk G off I H K v;cases h;refine Sound1.still λF w ρ Mine M a y l j=>⟨.int .i64 n,Ezv r ?_,.pure .int⟩
    have g:=p▸j x d;generalize a.eval x=u at g⊢;rcases y.ok i _ ((l i jG).trans v)with⟨_,_,⟨k,q,_⟩|⟨E,z,c,C,_⟩⟩
    ·cases g<;>simp_all[Builtin.len_,zu,goInt]
    ·cases g<;>simp_all[Builtin.len_,zu,goInt]
   ·rename_i v;cases h;refine Sound1.still λF w ρ Mine M a y l j=>⟨.int .i64 (0:Nat),Ezv r ?_,.pure .int⟩
    have g:=p▸j x d;generalize a.eval x=u at g⊢;have k:ρ.vec i=none:=y.ok i _ ((l i jG).trans v);cases g<;>simp_all[Builtin.len_,zu,goInt]
   grind
  ·rename_i s A p;cases h;refine Sound1.still λF w ρ Mine M a _ _ j=>⟨.int .i64 s.size,Ezv r ?_,.pure .int⟩
   have B:=(p▸j x d).pure_inv.str_inv
   simp_all[Builtin.len_,zu,goInt]
  ·rename_i n e A;cases h;refine Sound1.still λF w ρ Mine M a _ _ j=>⟨.int .i64 n,Ezv r ?_,.pure .int⟩
   simp_all[Builtin.len_,zu,goInt]
  grind
 grind
end Go.Abs
