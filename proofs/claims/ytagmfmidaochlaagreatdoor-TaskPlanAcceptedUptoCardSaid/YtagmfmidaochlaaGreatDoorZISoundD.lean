import Derived.Test.YtagmfmidaochlaaGreatDoorZISoundB
open List renaming length->AA
open Option renaming some->AB,none->AC
open Bool renaming and_eq_true->ql
open Classical renaming not_not->zt
open Go renaming TypeId->qp,Operand->zw,Value->qq,World->qm
open Nat renaming le_refl->wg
open Option renaming isSome_iff_exists->zO
namespace Go.Abs
theorem jo.mono {F F':Cells}{w a:qm}{L n k:Nat}{f:Nat->ae}{e:qp}{x:Option (Nat×Nat×Nat)}(h:jo F w L n f k e x)(C:∀b o,F b o->F' b o)
 (z:∀b o,F b o->a.cell? ⟨b,o,AC⟩=w.cell? ⟨b,o,AC⟩) (D:∀b m K,x=AB (b,m,K)->a.heap[b]?=w.heap[b]?/\∀o,F' b o->F b o):jo F' a L n f k e x:=by
 obtain⟨s,h⟩:=h;refine⟨s,?_⟩;rcases h with h|⟨b,K,c,d,I,l,u,E,t,A,y⟩;{simp_all};obtain⟨J,r⟩:=D _ _ _ d;refine .inr ⟨b,K,c,d,jW,l,u,E,λo G=>t o (r o G),A,λi j p M H=>?_⟩;obtain⟨v,B,g,q⟩:=y i j p M H;exact⟨v,B,g,q.mono C z⟩
theorem cH.keep {F F':Cells}{w W:qm}{ρ ρ':Env}{j:Nat}{r:Res}(h:cH F w ρ j r)(N:Nat->Prop)(G:∀b o,F b o->F' b o)
 (D:∀b o,F b o->W.cell? ⟨b,o,AC⟩=w.cell? ⟨b,o,AC⟩) (S:∀i,N i->ρ'.blk i=ρ.blk i/\ρ'.vec i=ρ.vec i) (hj:N j)
 (hr:∀i,¬N i->r.has i=false) (d:∀b,aE w ρ j r b->W.heap[b]?=w.heap[b]?/\∀o,F' b o->F b o):cH F' W ρ' j r:=by
 obtain⟨hb,P⟩:=S j hj;cases r with
 |gone=>trivial
 |nilv=>show ρ'.vec j=AC;rw[P];exact h
 |box cs=>
  obtain⟨c,e,l,C,E,A⟩:=h;obtain⟨Q,I⟩:=d _ (.inl rfl);refine⟨c,e,jW,C,λo H=>?_,λk a v ha Y=>?_⟩;{simp_all};obtain⟨y,K⟩:=A k a v ha Y;refine⟨y.mono N G D S λi hi=>?_,K⟩;grind[iO,Res.has]
 |map tm dom val=>
  obtain⟨es,M,l,C,E,A,y⟩:=h;obtain⟨Q,I⟩:=d _ (.inl rfl);exact⟨es,M,jW,λo H=>jW,E,A,λp v L P=>⟨(y p v L P).1,(y p v L P).2.mono G D⟩⟩
 |iter s pos=>
  obtain⟨l,C⟩:=h;obtain⟨Q,I⟩:=d _ (.inl rfl);exact⟨jW,λo H=>jW⟩
 |tok τ p=>exact τ.keep h G D λb hb=>d b (.inr hb)
 |dat sz n f=>show aH F' W (.lst sz n f) (dA (ρ'.vec j));rw[P];exact aH.mono G D h
 |vecT sz n f e e' H=>
  obtain⟨b,cap,c,l,C,E,A,y,K,u,R,h9⟩:=h;obtain⟨Q,I⟩:=d b (.inl (by simp[aX,l]));refine⟨b,cap,c,jW,jW,E,A,y,λo H=>K o (I o H),λi hi=>?_,R,h9⟩;obtain⟨v,v1,v2,v3⟩:=u i hi;refine⟨v,v1,v2,?_⟩;by_cases V:H=AB i;{simp_all};refine .inr ?_;obtain⟨x,n',g,q1,T,q3⟩:=v3.resolve_left V;refine⟨x,n',g,q1,T,q3.mono G D λb1 m B O=>?_⟩;subst O;exact d b1 (.inr ⟨b,n,cap,c,e,i,l,C,hi,V,m,B,by rw[v1,T];rfl⟩)
 |vecX sz n f e h off i=>
  obtain⟨h0,b,cap,c,l,C,E,A,K,y⟩:=h;have hi:ρ'.vec i=ρ.vec i:=by
   grind[Res.has]
  obtain⟨Q,I⟩:=d b (.inl (by simp[aX,l]));refine⟨?_,b,cap,c,jW,jW,E,A,K,jW⟩;rw[P];exact h0.mono G D λb' m cap' O=>jW
 |vecU sz n f k e off s' e' hs=>
  obtain⟨h0,X,h⟩:=h;refine⟨h0,X,?_⟩;rcases h with⟨l,C⟩|⟨b,cap,c,l,C,E,A,y,K,u,R⟩;{simp_all};obtain⟨Q,I⟩:=d b (.inl (by simp[aX,l]));refine .inr ⟨b,cap,c,jW,jW,E,A,y,λo H=>K o (I o H),⟨u.len,λi j' p hi Z L=>?_,λi p hi U L=>?_,λx O=>⟨(u.hole x O).1,?_⟩,u.nodup,u.inj⟩,R⟩;{obtain⟨v,q,z,t⟩:=u.cell i j' p hi Z L;exact⟨v,q,z,t.mono G D⟩};{obtain⟨v,q,z,t,hv4⟩:=u.own i p hi U L;refine⟨v,q,z,λJ=>?_,λJ=>(hv4 J).mono G D⟩;obtain⟨x,n',g,q1,T,q3⟩:=t J;refine⟨x,n',g,q1,T,q3.mono G D λb1 m B O=>?_⟩;subst O;exact d b1 (.inr ⟨b,n,cap,c,e,i,l,C,hi,J,U,m,B,by rw[q,T];rfl⟩)};have hi:ρ'.vec x.2=ρ.vec x.2:=by
   grind[Res.has]
  rw[hi];exact(u.hole x O).2
 |vec sz n f k e=>
  obtain⟨X,h⟩:=h;refine⟨X,?_⟩;rcases h with⟨l,C⟩|⟨b,cap,c,l,C,E,A,y,K,u,R⟩;{simp_all};obtain⟨Q,I⟩:=d b (.inl (by simp[aX,l]));refine .inr ⟨b,cap,c,jW,jW,E,A,y,λo H=>K o (I o H),u,λi j' p hi L=>?_⟩;obtain⟨v,q,z,t⟩:=R i j' p hi L;exact⟨v,q,z,t.mono G D⟩
theorem h6 {w q:qm}{ρ ρ':Env}{j:Nat}{r:Res}(h:ρ'.blk j=ρ.blk j/\ρ'.vec j=ρ.vec j)(o:∀b,aE w ρ j r b->q.heap[b]?=w.heap[b]?)(b:Nat):aE q ρ' j r b↔aE w ρ j r b:=by
 have s:aX ρ' j r=aX ρ j r:=by simp_all[aX]
 unfold aE;rw[s];refine or_congr Iff.rfl ?_;cases r with
 |vecT A n f e t x=>
  simp only[cX,h.2];refine⟨λ⟨d,m,y,c,g,i,a,p,l⟩=>⟨d,m,y,c,g,i,a,?_,l⟩,λ⟨d,m,y,c,g,i,a,p,l⟩=>⟨d,m,y,c,g,i,a,?_,l⟩⟩;{rw[<-o d (.inl (by simp[aX,a]))];omega};rw[o d (.inl (by simp[aX,a]))];omega
 |vecU A n f k e z u t v=>
  simp only[cX,h.2];refine⟨λ⟨d,m,y,c,g,i,a,p,l⟩=>⟨d,m,y,c,g,i,a,?_,l⟩,λ⟨d,m,y,c,g,i,a,p,l⟩=>⟨d,m,y,c,g,i,a,?_,l⟩⟩;{rw[<-o d (.inl (by simp[aX,a]))];omega};rw[o d (.inl (by simp[aX,a]))];omega
 |_=>exact Iff.rfl
variable {e:qp}
theorem owns_vec{w:qm}{ρ:Env}{j a n k b:Nat}{f:Nat->ae}:aE w ρ j (.vec a n f k e) b↔(ρ.vec j).map (·.1)=AB b:=by simp[aE,cX,aX]
theorem aG.step {F J:Cells}{w n:qm}{ρ ρ':Env}{I:Nat->Prop}{M:Mem}(z:aG F w ρ I M)(B:Step I F w J n)(N:Nat->Prop)
 (f:∀i,N i->ρ'.blk i=ρ.blk i/\ρ'.vec i=ρ.vec i) (g:Mem)
 (c:∀j r,M.get j=AB r->g.get j=none->N j/\(∀i,¬N i->r.has i=false)/\∀b,aE w ρ j r b->n.heap[b]?=w.heap[b]?/\∀o,J b o->F b o)
 (E:∀j r,g.get j=AB r->cH J n ρ' j r/\∀b,aE n ρ' j r b->I b/\b<n.heap.size/\∀k e,M.get k=AB e->g.get k=none->¬aE w ρ k e b)
 (D:∀j m r e b,g.get j=AB r->g.get m=AB e->aE n ρ' j r b->aE n ρ' m e b->j=m):aG J n ρ' I (g++M):=by
 have a:∀j r,Mem.get (g++M) j=AB r->(g.get j=AB r)\/(g.get j=AC/\M.get j=AB r):=by
  intro j r h;rw[Mem.get_append]at h;simp_all
 refine⟨λj r h=>?_,λj r b h d=>?_,λj m r e b h C d s=>?_⟩
 ·rcases a j r h with h|⟨q,l⟩;{simp_all};obtain⟨p,A,t⟩:=c j r l q;exact(z.ok j r l).keep N B.sub B.cell f p A t
 ·rcases a j r h with h|⟨q,l⟩;{grind};obtain⟨p,A,t⟩:=c j r l q;rw[h6 (f j p) (λb d=>(t b d).1)]at d;obtain⟨H,G⟩:=z.mine j r b l d;grind
 rcases a j r h with h|⟨q,l⟩<;>rcases a m e C with C|⟨x,u⟩
 {grind};{grind[h6]};{grind[h6]};obtain⟨p,_,t⟩:=c j r l q;obtain⟨v,_,y⟩:=c m e u x;rw[h6 (f j p) (λb d=>(t b d).1)]at d;rw[h6 (f m v) (λb d=>(y b d).1)]at s;exact z.disj j m r e b l u d s
theorem Step.alloc {c:Nat->Prop}{F:Cells}{w:qm}(g:bM F w c)(d:Obj)(G:Nat->Prop):
 Step c F w (λb o=>F b o\/(b=w.heap.size/\G o)) (w.alloc d):=by
 refine⟨λb o h=>.inl h,λb o h=>World.cell?_alloc_lt _ _ _ (g.lt b o h),λb o h=>?_,λb o h=>?_,⟨rfl,rfl,rfl,jV,λk a _=>heap_alloc_old w d a⟩⟩
 ·rcases h with h|⟨rfl,_⟩;{simp_all};exact .inr (g.mine _ (wg _))
 rcases h with h|⟨rfl,_⟩;{have:=g.lt b o h;simp;omega};simp
theorem Step.draw {a:Nat->Prop}{F:Cells}{w:qm}(g:bM F w a):Step a F w F w.drew:=
 ⟨λ_ _ h=>h,λ_ _ _=>rfl,λ_ _ h=>.inl h,g.lt,⟨rfl,rfl,rfl,wg _,λ_ _ _=>rfl⟩⟩
theorem RC {F:Cells}{w:qm}{ρ:Env}{g:Nat->Prop}{M:Mem}{id:Nat}(c:aG F w ρ g M)(a:dN id M)(l:Obj)(G:Nat->Prop)(j:Nat)(r:Res)(h:M.get j=AB r):
 ¬Own id j/\(∀i,¬¬Own id i->r.has i=false)/\∀b,aE w ρ j r b->(w.alloc l).heap[b]?=w.heap[b]?/\∀o,(F b o\/(b=w.heap.size/\G o))->F b o:=by
 refine⟨λf=>?_,λi k=>a.has i j r (zt.1 k) h,λb d=>?_⟩;{rw[a.none j f]at h;cases h};have e:=(c.mine j r b h d).2;grind[heap_alloc_old]
def Env.setBlk (ρ:Env)(id b:Nat):Env:={ρ with blk:=λi=>if i=id then b else ρ.blk i}
def Env.setVec (ρ:Env)(id:Nat)(x:Option (Nat×Nat×Nat)):Env:={ρ with vec:=λi=>if i=id then x else ρ.vec i}
def Env.clear (ρ:Env)(id:Nat):Env:={ρ with vec:=λi=>if id<=i/\i<id+64 then AC else ρ.vec i}
theorem rW {F:Cells}{w:qm}{ρ:Env}:∀ (l:List qq) (id:Nat),(∀i,id<=i->i<id+AA l->ρ.vec i=AC)->
 (AA (fc id l))=AA l/\∀ (j:Nat) (a:ac) (v:qq),(fc id l)[j]?=AB a->l[j]?=AB v->ak F w ρ a v
 |[],id,_=>by simp[fc]
 |x::l,id,h=>by
  have f:=rW (F:=F) (w:=w) (ρ:=ρ) l (id+1) (λi g e=>h i qa jX);have b:∀ (c:ac),ak F w ρ c x->AA (c::fc (id+1) l)=AA (x::l)/\∀ (j:Nat) (a:ac) (v:qq),(c::fc (id+1) l)[j]?=AB a->(x::l)[j]?=AB v->ak F w ρ a v:=by
   grind
  by_cases d:x=.slice AC 0 0;{subst d;exact b _ (.vnil (h id (wg _) jV))};grind[fc,nF]
theorem E3:∀ (l:List qq) (id i:Nat) (r:Res),(zmem id l).get i=AB r->r=.nilv/\id<=i/\i<id+AA l
 |[],id,i,r,h=>by grind[zmem,Mem.get]
 |x::l,id,i,r,h=>by
  have a:=E3 l (id+1) i r;by_cases b:x=.slice AC 0 0;all_goals grind[zmem,Mem.get]
variable {P:Program} {o:Oper} {env:zw->ac} {m:Mem} {id:Nat}
theorem tj {F:Cells}{w:qm}{ρ:Env}{Q:Nat->Prop}{M:Mem}(s:aG F w ρ Q M)(g:bM F w Q)(H:dN id M)(e:qp)(c:Array qq)(f:List ac)(q:Mem)
 (K:∀i r,q.get i=AB r->r=.nilv/\id<i/\i<id+64) (C:AA f=c.size)
 (G:∀ (R:Cells) (x:qm) (ρ':Env),(∀b o,F b o->R b o)->(∀b o,F b o->x.cell? ⟨b,o,AC⟩=w.cell? ⟨b,o,AC⟩)->cA id ρ ρ'->(∀i,Own id i->ρ'.vec i=AC)->
  ∀ (j:Nat) (a:ac) (v:qq),f[j]?=AB a->c[j]?=AB v->ak R x ρ' a v/\v.oneCell'=true):
 ∃R ρ',Step Q F w R (w.alloc (.cells c e))/\cA id ρ ρ'/\ρ'.blk id=w.heap.size/\aG R (w.alloc (.cells c e)) ρ' Q ((id,.box f)::q++M):=by
 have p:=Step.alloc g (.cells c e) (λ_=>False);let ρ':=(ρ.clear id).setBlk id w.heap.size;have u:cA id ρ ρ':=by
  intro i S;constructor;{show(if i=id then _ else _)=_;rw[qb (λh=>S ⟨qa,qa⟩)];rfl};exact qb S
 have m:∀i,Own id i->ρ'.vec i=none:=λi S=>qc S
 have y:ρ'.blk id=w.heap.size:=by show(if id=id then _ else _)=_;simp_all
 refine⟨_,ρ',p,u,y,?_⟩;have l:∀j r,Mem.get ((id,.box f)::q) j=AB r->(j=id/\r=.box f)\/(r=.nilv/\id<j/\j<id+64):=by
  grind[Mem.get]
 refine aG.step s p (λi=>¬Own id i) u ((id,.box f)::q) (λj r h _=>RC s H _ _ j r h) (λj r h=>?_) (λj N r z b h L J A=>?_)
 ·rcases l j r h with⟨rfl,rfl⟩|⟨rfl,O,I⟩
  ·refine⟨⟨c,e,by grind[heap_alloc_new],C.symm,λo n=>?_,λk a v B D=>G _ _ _ p.sub p.cell u m k a v B D⟩,λb d=>?_⟩
   ·rcases n with n|⟨_,n⟩;{exact absurd (g.lt _ _ n) qa};omega
   simp only[aE,cX,or_false,aX,y,Option.some.injEq]at d;subst d;refine⟨g.mine _ (wg _),jV,λk z E _ t=>?_⟩;exact absurd (s.mine k z _ E t).2 qa
  exact⟨m j ⟨qa,I⟩,λb d=>by grind[aE,cX,aX]⟩
 grind[aE,cX,aX]
theorem ajv{x:zw}(C:o.op=.box e x)(f:(env x).cells.all (·.scalar)=true):aq P o env m id ⟨.ptr id 0,[],[(id,.box (env x).cells)],AC⟩:=by
 intro F w ρ Mine M a k g s _ c q;have b:x∈o.op.operands:=by simp[C,Op.operands]
 have h:=q x b;obtain⟨B,_⟩:=h.cells f;obtain⟨E,ρ',z,d,A,l⟩:=tj k g s e (a.eval x).cells (env x).cells [] (by simp[Mem.get]) B (λE D ρ' t u d _ j y v p n=>by
  have r:=h.mono (λi=>¬Own id i) t u d (λi G=>c x b i (zt.1 G));exact(r.cells f).2 j y v p n)
 refine⟨.pointer (AB ⟨w.heap.size,0,AC⟩),w.alloc (.cells (a.eval x).cells e),E,ρ',.value ?_,z,d,?_,qa⟩;{simp_all[execOp,Instr.box,newVar,newRow]};rw[<-A];exact .ptr
variable {z:List qq}
theorem ahC(H:o.op=.alloc e)(n:ee P e=AB z)(f:AA z<60)(d:z.all (λv=>v.oneCell')=true):
 aq P o env m id ⟨.ptr id 0,[],(id,.box (fc (id+1) z))::zmem (id+1) z,AC⟩:=by
 intro F w ρ Mine M a l g p _ D J;obtain⟨v,O,s⟩:=sF (P:=P) (w:=w) n;have b:v.cells.size=AA z:=jX
 obtain⟨Q,ρ',x,k,A,q⟩:=tj l g p e v.cells (fc (id+1) z) (zmem (id+1) z)
  (λi r h=>by obtain⟨K,L,N⟩:=E3 z (id+1) i r h;grind)
  (by rw[b];exact(rW (F:=F) (w:=w) (ρ:=ρ.clear id) z (id+1) (λi d C=>qc ⟨qa,qa⟩)).1)
  (λQ t ρ' G E k c j y u B I=>by
   have:=(rW (F:=Q) (w:=t) (ρ:=ρ') z (id+1) (λi d C=>c i ⟨qa,qa⟩)).2 j y u B;grind)
 refine⟨.pointer (AB ⟨w.heap.size,0,AC⟩),w.alloc (.cells v.cells e),Q,ρ',.value ?_,x,k,?_,qa⟩;{simp_all[execOp,Instr.alloc,newVar,newRow]};rw[<-A];exact .ptr
inductive All2 {α β:Type} (R:α->β->Prop):List α->List β->Prop
 |nil:All2 R [] []
 |cons {a:α} {b:β} {l:List α} {m:List β}:R a b->All2 R l m->All2 R (a::l) (b::m)
theorem Ri (b:Nat):∀ (c:List qq) (i:Nat) (a:Array qq),b+i+AA c<=a.size->
 ((c.zipIdx i).foldl (λa (x:qq×Nat)=>a.setIfInBounds (b+x.2) x.1) a)=(a.toList.take (b+i)++c++a.toList.drop (b+i+AA c)).toArray
 |[],i,a,_=>jV
 |v::c,i,a,h=>by
  simp only[List.length_cons]at h;simp only[List.zipIdx_cons,List.foldl_cons];rw[Ri b c (i+1) _ jZ];have e:=list_seg_step a.toList (b+i) v c qa;simpa[Array.toList_setIfInBounds,Nat.add_assoc]using e
theorem Rh (d:Array qq)(b:Nat)(a:Array qq)(h:b+d.size<=a.size):
 (d.zipIdx.foldl (λa (c,j)=>a.setIfInBounds (b+j) c) a)=(a.toList.take b++d.toList++a.toList.drop (b+d.size)).toArray:=by
 have:=Ri b d.toList 0 a qa;grind[Array.toList_zipIdx]
theorem fQ {b:Type}(a e:List b)(d j:Nat)(h:d+AA e<=AA a):
 (a.take d++e++a.drop (d+AA e))[j]?=if d<=j/\j<d+AA e then e[j-d]? else a[j]?:=by
 by_cases c:j<d;all_goals grind
theorem P7 {b:Type}(a d:List b)(c:Nat)(h:c+AA d<=AA a):(a.take c++d++a.drop (c+AA d)).length=AA a:=by grind
variable {P:Program} {o:Oper} {env:zw->ac} {m:Mem} {id:Nat}
section
variable {F:Cells} {w:qm} {ρ:Env}
def LRel (F:Cells)(w:qm)(ρ:Env)(b:List ac)(c:List qq):Prop:=
 (AA b)=AA c/\∀ (j:Nat) (a:ac) (v:qq),b[j]?=AB a->c[j]?=AB v->ak F w ρ a v
theorem LRel.over {d e:List ac}{r s:List qq}(h:LRel F w ρ d r)(i:LRel F w ρ e s)(p:Nat)(g:p+AA e<=AA d):
 LRel F w ρ (d.take p++e++d.drop (p+AA e)) (r.take p++s++r.drop (p+AA s)):=by
 have l:=h.1;have k:=i.1;refine⟨jW,λj a v c b=>?_⟩;rw[fQ _ _ _ _ g]at c;rw[fQ _ _ _ _ qa,<-k]at b;split at c;{rename_i f;rw[qc f]at b;exact i.2 _ a v c b};rename_i f;rw[qb f]at b;exact h.2 _ a v c b
theorem Sh {a:Act}(d:Nat->Option (Nat×Nat)):∀ (c:List (Nat×zw)) (O:List (Nat×List ac)) (g e:List ac) (N:Array qq),
 LRel F w ρ g N.toList->(∀x∈c,ak F w ρ (env x.2) (a.eval x.2))->
 (All2 (λ(x:Nat×zw) (y:Nat×List ac)=>∃s,d x.1=AB (y.1,s)/\y.2=(env x.2).cells/\(AA y.2)=s/\y.2.all (·.scalar)=true) c O)->
 over g O=AB e->∃f:Array qq,Instr.fill d N (c.map λx=>(x.1,a.eval x.2))=AB f/\LRel F w ρ e f.toList
 |[],_,g,e,N,l,_,k,h=>by
  cases k;grind[over,Instr.fill]
 |x::c,_,g,e,N,l,q,k,h=>by
  cases k with
  |cons n k=>
   rename_i y O;obtain⟨s,K,B,I,t⟩:=n;obtain⟨i,x⟩:=x;obtain⟨M,G⟩:=y;subst B;simp only[over]at h;split at h
   ·rename_i m;have A:=q (i,x) jV;obtain⟨E,u⟩:=A.cells t;have r:AA g=N.size:=by simpa using l.1
    have o:LRel F w ρ (env x).cells (a.eval x).cells.toList:=⟨qa,λj b v C H=>(u j b v C jW).1⟩;have p:=l.over o M m;obtain⟨f,D,L⟩:=Sh d c O _ e ((N.toList.take M++(a.eval x).cells.toList++N.toList.drop (M+(a.eval x).cells.toList.length)).toArray) qa (λz J=>q z jX) k h;grind[Instr.fill,Rh]
   grind
end
def mL (P:Program)(t:qp)(i:Nat):Option (Nat×Nat):=
 match P.underlying t with
 |some (.struct a)=>match a[i]? with
  |some f=>match aQ P f.type with
   |some s=>AB (f.offset,s)
   |none=>AC
  |none=>AC
 |some (.array _ e)=>match aQ P e with
  |some s=>AB (i * s,s)
  |none=>AC
 |_=>AC
theorem Od {t:qp}:∀ (a:List (Nat×zw)) (g:List (Nat×List ac)),nQ P t env a=AB g->
 All2 (λ(x:Nat×zw) (y:Nat×List ac)=>∃s,mL P t x.1=AB (y.1,s)/\y.2=(env x.2).cells/\(AA y.2)=s/\y.2.all (·.scalar)=true) a g
 |[],g,h=>by simp[nQ]at h;subst h;exact .nil
 |(i,x)::a,g,h=>by
  have e:nQ P t env ((i,x)::a)=match mL P t i,nQ P t env a with
   |some (f,s),AB l=>if(env x).cells.length=s&&(env x).cells.all (·.scalar)then AB ((f,(env x).cells)::l)else AC
   |_,_=>none:=rfl
  rw[e]at h;split at h
  ·rename_i f s l d c;split at h;{rename_i b;simp only[ql,qf]at b;simp at h;subst h;exact .cons ⟨s,d,rfl,b.1,b.2⟩ (Od a l c)};cases h
  cases h
theorem QO:∀ (a:List Field),(a.all λf=>(aQ P f.type).isSome)=true->∃b,a.mapM (λ(f:Field)=>(P.info? f.type).map λi=>(f.offset,i.size))=AB b/\
 ∀ (i:Nat),b[i]?=match a[i]? with|some f=>(match aQ P f.type with|some s=>AB (f.offset,s)|none=>AC)|none=>AC
 |[],_=>⟨[],jV,jV⟩
 |f::a,h=>by
  simp only[List.all_cons,ql]at h;obtain⟨b,j,g⟩:=QO a h.2;obtain⟨s,d⟩:=zO.1 h.1;obtain⟨c,k,e⟩:=kQ d;refine⟨(f.offset,s)::b,jW,λi=>?_⟩;grind
theorem run_build'{w:qm}(o:ee P e=AB z)(d:FU P e=true)(b:Array (Nat×qq))(a:Array qq)
 (h:Instr.fill (mL P e) z.toArray b.toList=AB a):(Instr.build e b).run P w=.ok (.agg a) w:=by
 refine run_build w e b a ?_;obtain⟨r,v,y,c,q⟩:=nO o;have j:v.cells=z.toArray:=jX;unfold FU at d;split at d
 ·rename_i m f;obtain⟨x,p,u⟩:=QO (P:=P) m.toList d;simp only[Program.built,y,f,c,p,j];rw[<-h];congr 1;grind[mL]
 ·rename_i n t f;obtain⟨s,g⟩:=zO.1 d;obtain⟨k,i,l⟩:=kQ g;simp only[Program.built,y,f,c,i,j];rw[<-h];congr 1;grind[mL]
 simp_all
theorem Q9 {F:Cells}{w:qm}{ρ:Env}{s:Nat->Prop}{M:Mem}(m:aG F w ρ s M)(g:bM F w s)(d:dN id M)(a:Mem)
 (f:∀i r,a.get i=AB r->r=.nilv/\Own id i):cA id ρ (ρ.clear id)/\aG F w (ρ.clear id) s (a++M):=by
 have c:cA id ρ (ρ.clear id):=λi t=>⟨rfl,qb t⟩
 refine⟨c,aG.step m (Step.refl g) (λi=>¬Own id i) c a (λj r h _=>⟨λe=>(by rw[d.none j e]at h;cases h),λi t=>d.has i j r (zt.1 t) h,λb _=>⟨rfl,λ_ h=>h⟩⟩) (λj r h=>?_) (λj o r q b h p k n=>?_)⟩;{obtain⟨rfl,l⟩:=f j r h;exact⟨qc l,λb k=>by grind[aE,cX,aX]⟩};grind[aE,cX,aX]
theorem ahD{c:Array (Nat×zw)}{out:Out}(J:o.op=.build e c)(h:E7 P e id env c.toList=AB out):aq P o env m id out:=by
 unfold E7 at h;split at h
 ·rename_i z Q G p;split at h
  ·rename_i K l;split at h
   ·rename_i u;simp only[ql,qf]at u;cases h;intro F w ρ Mine M a A g D _ q B;have t:∀x∈c.toList,x.2∈o.op.operands:=λx n=>by
     grind[Op.operands]
    obtain⟨y,f⟩:=Q9 A g D (zmem id z) (λi r h=>by obtain⟨C,H,L⟩:=E3 z id i r h;exact⟨C,H,qa⟩);have E:=rW (F:=F) (w:=w) (ρ:=ρ.clear id) z id (λi s k=>qc ⟨s,qa⟩)
    obtain⟨d,s,k⟩:=Sh (F:=F) (w:=w) (ρ:=ρ.clear id) (env:=env) (a:=a) (mL P e) c.toList Q (fc id z) K z.toArray ⟨jW,jX⟩
     (λx n=>(B x.2 (t x n)).mono (λi=>¬Own id i) (λ_ _ h=>h) (λ_ _ _=>rfl) y (λi R=>q x.2 (t x n) i (zt.1 R))) (Od c.toList Q p) l
    refine⟨.agg d,w,F,ρ.clear id,.value ?_,Step.refl g,y,ak.mkAgg (by simpa using k.1) (λj b v I N=>k.2 j b v I jW),f⟩;have O:=run_build' (w:=w) G u.1 (c.map λx=>(x.1,a.eval x.2)) d jW;simp only[execOp,J,Sem.run_bind];simp_all
   grind
  grind
 grind
theorem ajy (c:o.op=.assign (.const (.slice AC 0 0))):aq P o env m id ⟨.vec id,[],[(id,.nilv)],AC⟩:=by
 intro F w ρ Mine M a j g f _ _ _;obtain⟨d,b⟩:=Q9 j g f [(id,.nilv)] (λi r h=>by
  simp only[Mem.get]at h;split at h;{rename_i e;subst e;cases h;exact⟨rfl,wg _,qa⟩};grind)
 exact⟨.slice AC 0 0,w,F,ρ.clear id,.value (by simp[execOp,c,Act.eval]),Step.refl g,d,.vnil (qc ⟨wg _,qa⟩),b⟩
end Go.Abs
