import Derived.Test.YtagmfmidaochlaaGreatDoorZISoundF
open Array renaming getElem?_eq_getElem->zo
open Bool renaming and_eq_true->ql
open Go renaming TypeId->qp,Operand->zw
open Go.Op renaming operands->zL
open List renaming getElem?_of_mem->zT
open Nat renaming succ_mul->zS,mul_le_mul_right->xo
open Option renaming map_some->wx
namespace Go.Abs
variable {P:Program} {o:Oper} {env:zw->ac} {m:Mem} {id:Nat}{c:Array Value}
theorem rn{w:World}{t e:qp}{b off s:Nat}{v:Value}(h:aQ P t=some s)(g:v.cells.size=s)(a:w.heap[b]?=some (.cells c e (0,0)))
 (d:off+s<=c.size) (f:∀u∈v.cells.toList,u.oneCell'=true):
 (storeVar t ⟨b,off,none⟩ v).run P w=.ok () (w.setRow b (c.toList.take off++v.cells.toList++c.toList.drop (off+v.cells.toList.length)).toArray):=by
 have:=run_storeCells_at (P:=P) b off e v.cells.toList 0 c w a jW f;simp_all[storeVar,cz]
variable {e:qp}
theorem Step.write{p:Nat->Prop}{F:Cells}{w:World}(g:bM F w p){b:Nat}{c d:Array Value}(l:w.heap[b]?=some (.cells c e (0,0)))(a:p b)
 (m:∀o,F b o->d[o]?=c[o]?):Step p F w F (w.setRow b d):=by
 refine⟨λ_ _ h=>h,λf o h=>?_,λ_ _ h=>.inl h,λf o h=>by simpa using g.lt f o h,⟨rfl,rfl,rfl,jV,λk j i=>setRow_other w b k d (λe=>i (e▸a))⟩⟩;grind[cell_setRow_same,cell_of_row,cell_setRow_other]
variable {p:List ae}
theorem PT{l:List ac}(h:allP l=some p)(f:p.all (·.scalar)=true):l.all (·.scalar)=true:=by
 obtain⟨m,i⟩:=gp h;rw[List.all_eq_true]at f⊢;intro a k;obtain⟨j,g⟩:=zT k;have c:j<p.length:=jX;obtain⟨b,e,d⟩:=i j _ (List.getElem?_eq_getElem c);rw[g]at e;cases e;have:=f _ (List.getElem_mem c);cases a<;>simp[ac.toP]at d<;>simp[ac.scalar]
 grind[ae.scalar]
theorem Bd{b:ae}(d:b.cells.length=p.length)(c:b.scalar=true->p.all (·.scalar)=true):(lu b p).cells=p:=by
 cases b with
 |agg l=>rfl
 |_=>
  obtain⟨q,rfl⟩:=List.length_eq_one_iff.1 d.symm;have:=c rfl;simp at this;simp[lu,ae.cells_scalar this]
theorem D9 {t:qp}{x y:zw}{i sz k off s n sh:Nat}{f:Nat->ae}{e:qp}{ps:List ae}{el:ae}{ob:Option Prop}(ho:o.op=.store t x y)(hs:aQ P t=some s)(hvl:(env y).cells.length=s)
 (hx:env x=.eptr i sz k off) (hcs:m.get i=some (.vec sz n f sh e)) (Y:allP (env y).cells=some ps) (X:ps.all (·.scalar)=true) (E:(f k).cells.length=sz->off+s<=(f k).cells.length)
 (U:(f k).cells.length=sz->el.cells=(f k).cells.take off++ps++(f k).cells.drop (off+s)) (hkn:k<n) (hsk:sh<=k):
 aq P o env m id ⟨.any,[i],[(i,.vec sz n (λj=>if j=k then el else f j) sh e)],ob⟩:=by
 have run:∀ {a:Act} {w w':World} {b off:Nat},a.eval x=.pointer (some ⟨b,off,none⟩)->(storeVar t ⟨b,off,none⟩ (a.eval y)).run P w=.ok () w'->Ran P o a w undef w':=by
  intro a w w' b off hx hr;exact .inr ⟨by simp_all[execOp,Instr.storeAt,Instr.sureAddr],rfl⟩
 intro F w ρ Mine M a W g fr hrd hfe ha;have l:=(hrd i jV).trans hcs;have J:=ha x (by simp[ho,zL]);have hay:=ha y (by simp[ho,zL]);rw[hx]at J;generalize hu:a.eval x=u at J;cases J with
 |eptr d=>
  rename_i b n' cap;obtain⟨T,hok⟩:=W.ok i _ l;rcases hok with⟨hnone,hn0⟩|⟨b',cap',c,R,hb,hnc,hcm,G,hFk,L,V⟩
  {omega};rw[d]at R;cases R;have C:(env y).cells.all (·.scalar)=true:=PT Y X;obtain⟨hpl,hpg⟩:=gp Y;obtain⟨hvs,hvc⟩:=hay.cells C;have h1:∀u∈(a.eval y).cells.toList,u.oneCell'=true:=by
   grind[zT]
  have K:(f k).cells.length=sz:=L k hkn;have E:=E K;have hsub:k * sz+sz<=c.size:=by rw[G,<-zS];exact xo _ qa
  have hr:=rn (P:=P) (off:=k * sz+off) hs qa hb qa h1;have v:=W.mine i _ b l (.inl (by simp[aX,d]));have I:(a.eval y).cells.toList.length=s:=jW
  have Q:∀q,((c.toList.take (k * sz+off)++(a.eval y).cells.toList++c.toList.drop (k * sz+off+(a.eval y).cells.toList.length)).toArray)[q]?=
   if k * sz+off<=q/\q<k * sz+off+s then(a.eval y).cells[q- (k * sz+off)]? else c[q]?:=by
   intro q;rw[List.getElem?_toArray,fQ _ _ _ _ jX,I];simp
  have H:Step Mine F w F (w.setRow b (c.toList.take (k * sz+off)++(a.eval y).cells.toList++c.toList.drop (k * sz+off+(a.eval y).cells.toList.length)).toArray):=by
   refine Step.write g hb v.1 (λo h=>?_);have h3:sh * sz<=k * sz:=xo _ hsk;grind
  refine⟨undef,_,F,ρ,run hu hr,H,λ_ _=>⟨rfl,rfl⟩,.any,?_⟩;have hnl:((f k).cells.take off++ps++(f k).cells.drop (off+s)).length=(f k).cells.length:=by
   grind
  have Z:=U K;refine aG.step W H (λ_=>True) (λ_ _=>⟨rfl,rfl⟩) [(i,_)] (λj r h hn=>⟨trivial,λk hk=>absurd trivial hk,λb' hbj=>⟨?_,λ_ h=>h⟩⟩) (λj r h=>?_) (λj j' r r' b h h' _ _=>?_);{refine setRow_other w _ b' _ (λe=>?_);subst e;have:=W.disj i j _ r _ l h (.inl (by simp[aX,d])) hbj;subst this;simp[Mem.get]at hn}
  ·simp only[Mem.get]at h;split at h
   ·rename_i e1;subst e1;cases h;refine⟨⟨T,.inr ⟨b,cap,_,d,setRow_heap w _ c _ e _ hb,hnc,hcm,?_,hFk,λq N=>?_,λq j p N B=>?_⟩⟩,λb' A=>⟨?_,?_,λk r' hk hn hbk=>?_⟩⟩;{rw[List.size_toArray,P7 _ _ _ jZ];simpa using G}
    ·by_cases z:q=k;{subst z;simp only[if_true];rw[Z,hnl];exact K};simp only[qb z];exact L q N
    ·rw[Q];by_cases z:q=k
     ·subst z;simp only[if_true]at B;rw[Z]at B;have S:=fQ (f q).cells ps off j qa;rw[show ps.length=s from qa]at S;rw[S]at B;by_cases O:off<=j/\j<off+s
      ·rw[qc O]at B;rw[qc qa];obtain⟨aa,ha1,ha2⟩:=hpg _ _ B;have D:j-off<(a.eval y).cells.size:=qa;obtain⟨r1,r2⟩:=hvc (j-off) aa _ ha1 (zo D);refine⟨(a.eval y).cells[j-off],?_,r2,(r1.toP ha2).mono H.sub H.cell⟩;rw[show q * sz+j- (q * sz+off)=j-off from qa];exact zo D
      rw[qb O]at B;rw[qb qa];obtain⟨u,u1,u2,u3⟩:=V q j p N B;exact⟨u,u1,u2,u3.mono H.sub H.cell⟩
     simp only[qb z]at B;obtain⟨u,u1,u2,u3⟩:=V q j p N B;have hjs:j<sz:=by have:=(List.getElem?_eq_some_iff.1 B).1;rw[L q N]at this;exact this
     have hne:¬ (k * sz+off<=q * sz+j/\q * sz+j<k * sz+off+s):=by
      rcases Nat.lt_or_gt_of_ne z with D|hgt;{have:(q+1) * sz<=k * sz:=xo _ D;rw[zS]at this;omega};have:(k+1) * sz<=q * sz:=xo _ hgt;rw[zS]at this;omega
     rw[qb hne];exact⟨u,u1,u2,u3.mono H.sub H.cell⟩
    {simp only[owns_vec,d,wx,Option.some.injEq]at A;subst A;exact v.1};{simp only[owns_vec,d,wx,Option.some.injEq]at A;subst A;simpa using v.2};simp only[owns_vec,d,wx,Option.some.injEq]at A;subst A;have:=W.disj i k _ r' _ l hk (.inl (by simp[aX,d])) hbk;subst this;simp[Mem.get]at hn
   cases h
  simp only[Mem.get]at h h';split at h
  ·split at h';{rename_i e1 e2;exact e1.symm.trans e2};cases h'
  cases h
theorem s6{x y:zw}{out:Out}(U:o.op=.store e x y)(h:ll P e (env x) (env y) m=some out)(hob:holds out.obl):aq P o env m id out:=by
 unfold ll at h;split at h;{cases h};rename_i s hs;split at h
 ·rename_i H;have T:∀ {a:Act} {w X:World} {b off:Nat},a.eval x=.pointer (some ⟨b,off,none⟩)->(storeVar e ⟨b,off,none⟩ (a.eval y)).run P w=.ok () X->Ran P o a w undef X:=by
   intro a w X b off L hr;exact .inr ⟨by simp_all[execOp,Instr.storeAt,Instr.sureAddr],rfl⟩
  split at h
  ·rename_i i off L;split at h
   ·rename_i cs p;split at h
    ·rename_i C;simp only[ql,qf]at C;cases h;intro F w ρ Mine M a I g fr hrd hfe ha;have J:=(hrd i jV).trans p;obtain⟨c,t,R,hl,B,G⟩:=om I J;have l:=ha x (by simp[U,zL]);have Z:=ha y (by simp[U,zL]);rw[L]at l;generalize hu:a.eval x=u at l;cases l with
     |ptr=>
      obtain⟨hvs,W⟩:=Z.cells C.2;have D:∀u∈(a.eval y).cells.toList,u.oneCell'=true:=by
       grind[zT]
      have hr:=rn (P:=P) (off:=off) hs qa R qa D;have q:=I.mine i _ _ J (.inl rfl)
      have K:Step Mine F w F (w.setRow (ρ.blk i) (c.toList.take off++(a.eval y).cells.toList++c.toList.drop (off+(a.eval y).cells.toList.length)).toArray):=
       Step.write g R q.1 (λo h=>absurd h (B o))
      refine⟨undef,_,F,ρ,T hu hr,K,λ_ _=>⟨rfl,rfl⟩,.any,?_⟩;refine aG.step I K (λ_=>True) (λ_ _=>⟨rfl,rfl⟩) [(i,_)] (λj r h hn=>⟨trivial,λk Q=>absurd trivial Q,λb V=>⟨?_,λ_ h=>h⟩⟩) (λj r h=>?_) (λj j' r r' b h h' _ _=>?_)
      ·refine setRow_other w _ b _ (λt=>?_);subst t;have:=I.disj i j _ r _ J h (.inl rfl) V;grind[Mem.get]
      ·simp only[Mem.get]at h;split at h
       ·rename_i e1;subst e1;cases h;have old:LRel F w ρ cs c.toList:=⟨jW,λj a v D h2=>(G j a v D jW).1⟩;have S:LRel F w ρ (env y).cells (a.eval y).cells.toList:=⟨qa,λj a v D h2=>(W j a v D jW).1⟩;have d:=old.over S off qa;rw[H]at d;refine⟨⟨_,t,setRow_heap w _ c _ t _ R,jW,B,λj b v N hv=>⟨(d.2 j b v N jW).mono' K.sub K.cell,?_⟩⟩,λb z=>⟨?_,?_,λk r' Q hn Y=>?_⟩⟩;{grind};{cases z.resolve_right (λh=>h);simp_all};{cases z.resolve_right (λh=>h);simp_all};cases z.resolve_right (λh=>h);have:=I.disj i k _ r' _ J Q (.inl rfl) Y;grind[Mem.get]
       grind
      grind[Mem.get]
    grind
   grind
  ·rename_i i sz k off L;split at h
   ·rename_i sz' n f sh t p;split at h
    ·rename_i ps hps;split at h
     ·rename_i C;simp only[ql,qf]at C;obtain⟨⟨rfl,E⟩,A⟩:=C;cases h;obtain⟨O,hsk⟩:=hob;refine D9 U hs H L p hps A (λ_=>E) (λhfk=>?_) O hsk;grind[gp,Bd,ae.cells_scalar]
     grind
    grind
   grind
  grind
 grind
theorem afZ{x y:zw}{out:Out}(r:o.op=.store e x y)(h:EA P e (env x) (env y) m=some out)(b:holds out.obl):aq P o env m id out:=by
 unfold EA at h;split at h
 ·rename_i i F k z;split at h
  ·rename_i B n f D t g;split at h
   ·rename_i E a;split at h
    ·rename_i q;simp only[ql,qf]at q;obtain⟨⟨⟨rfl,A⟩,w⟩,d⟩:=q;have C:=(gp a).1;have c:∀el:ae,el.cells=E->(k<n/\D<=k)->aq P o env m id ⟨.any,[i],[(i,.vec F n (λj=>if j=k then el else f j) D t)],some (k<n/\D<=k)⟩:=by
      intro el v l;refine D9 (off:=0) (s:=F) r A qa z g a d (λh=>qa) (λu=>?_) l.1 l.2;simp_all
     split at h;{cases h;exact c (.agg E) rfl b}
     ·split at h;{rename_i p;cases h;exact c p (ae.cells_scalar jW) b};grind
     grind
    grind
   grind
  grind
 grind
end Go.Abs
