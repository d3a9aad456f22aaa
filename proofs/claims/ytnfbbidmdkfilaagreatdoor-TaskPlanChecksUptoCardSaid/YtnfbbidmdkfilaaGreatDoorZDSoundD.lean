import Derived.Test.YtnfbbidmdkfilaaGreatDoorZDSoundB
open Bool renaming and_eq_true->qm
open Classical renaming not_not->xO
open Go renaming TypeId->qq,Operand->xQ,Value->qr,World->qn
open Nat renaming le_refl->qk
open Option renaming isSome_iff_exists->ze
namespace Go.Abs
theorem VecAt.mono {F F':Cells}{w a:qn}{sz n k:Nat}{f:Nat->PVal}{e:qq}{x:Option (Nat×Nat×Nat)}(h:VecAt F w sz n f k e x)(C:∀b o,F b o->F' b o)
 (z:∀b o,F b o->a.cell? ⟨b,o,none⟩=w.cell? ⟨b,o,none⟩) (D:∀b m cap,x=some (b,m,cap)->a.heap[b]?=w.heap[b]?/\∀o,F' b o->F b o):VecAt F' a sz n f k e x:=by
 obtain⟨s,h⟩:=h;refine⟨s,?_⟩;rcases h with h|⟨b,cap,c,d,I,l,u,E,t,A,y⟩
 ·simp_all
 ·obtain⟨J,r⟩:=D _ _ _ d;refine .inr ⟨b,cap,c,d,jr,l,u,E,λo G=>t o (r o G),A,λi j p hi H=>?_⟩;obtain⟨v,B,g,q⟩:=y i j p hi H;exact⟨v,B,g,q.mono C z⟩
theorem ResOk.keep {F F':Cells}{w W:qn}{ρ ρ':Env}{j:Nat}{r:Res}(h:ResOk F w ρ j r)(N:Nat->Prop)(G:∀b o,F b o->F' b o)
 (D:∀b o,F b o->W.cell? ⟨b,o,none⟩=w.cell? ⟨b,o,none⟩) (S:∀i,N i->ρ'.blk i=ρ.blk i/\ρ'.vec i=ρ.vec i) (hj:N j)
 (hr:∀i,¬N i->r.has i=false) (d:∀b,Owns w ρ j r b->W.heap[b]?=w.heap[b]?/\∀o,F' b o->F b o):ResOk F' W ρ' j r:=by
 obtain⟨hb,P⟩:=S j hj;cases r with
 |gone=>trivial
 |nilv=>show ρ'.vec j=none;rw[P];exact h
 |box cs=>
  obtain⟨c,e,l,C,E,A⟩:=h;obtain⟨Q,I⟩:=d _ (.inl rfl);refine⟨c,e,jr,C,λo H=>?_,λk a v ha Y=>?_⟩
  ·simp_all
  ·obtain⟨y,K⟩:=A k a v ha Y;refine⟨y.mono N G D S λi hi=>?_,K⟩
   grind[qzl,Res.has]
 |map tm dom val=>
  obtain⟨es,M,l,C,E,A,y⟩:=h;obtain⟨Q,I⟩:=d _ (.inl rfl);exact⟨es,M,jr,λo H=>jr,E,A,λp v L P=>⟨(y p v L P).1,(y p v L P).2.mono G D⟩⟩
 |iter s pos=>
  obtain⟨l,C⟩:=h;obtain⟨Q,I⟩:=d _ (.inl rfl);exact⟨jr,λo H=>jr⟩
 |tok τ p=>exact τ.keep h G D λb hb=>d b (.inr hb)
 |dat sz n f=>show PRel F' W (.lst sz n f) (gzs (ρ'.vec j));rw[P];exact PRel.mono G D h
 |vecT sz n f e e' H=>
  obtain⟨b,cap,c,l,C,E,A,y,K,u,R,h9⟩:=h;obtain⟨Q,I⟩:=d b (.inl (by simp[bz8,l]));refine⟨b,cap,c,jr,jr,E,A,y,λo H=>K o (I o H),λi hi=>?_,R,h9⟩;obtain⟨v,v1,v2,v3⟩:=u i hi;refine⟨v,v1,v2,?_⟩;by_cases V:H=some i
  ·simp_all
  ·refine .inr ?_;obtain⟨x,n',g,q1,T,q3⟩:=v3.resolve_left V;refine⟨x,n',g,q1,T,q3.mono G D λb1 m B O=>?_⟩;subst O;exact d b1 (.inr ⟨b,n,cap,c,e,i,l,C,hi,V,m,B,by rw[v1,T];rfl⟩)
 |vecX sz n f e h off i=>
  obtain⟨h0,b,cap,c,l,C,E,A,K,y⟩:=h;have hi:ρ'.vec i=ρ.vec i:=by
   grind[Res.has]
  obtain⟨Q,I⟩:=d b (.inl (by simp[bz8,l]));refine⟨?_,b,cap,c,jr,jr,E,A,K,jr⟩;rw[P];exact h0.mono G D λb' m cap' O=>jr
 |vecU sz n f k e off s' e' hs=>
  obtain⟨h0,X,h⟩:=h;refine⟨h0,X,?_⟩;rcases h with⟨l,C⟩|⟨b,cap,c,l,C,E,A,y,K,u,R⟩
  ·simp_all
  ·obtain⟨Q,I⟩:=d b (.inl (by simp[bz8,l]));refine .inr ⟨b,cap,c,jr,jr,E,A,y,λo H=>K o (I o H),⟨u.len,λi j' p hi Z L=>?_,λi p hi U L=>?_,λx O=>⟨(u.hole x O).1,?_⟩,u.nodup,u.inj⟩,R⟩
   ·obtain⟨v,q,z,t⟩:=u.cell i j' p hi Z L;exact⟨v,q,z,t.mono G D⟩
   ·obtain⟨v,q,z,t,hv4⟩:=u.own i p hi U L;refine⟨v,q,z,λJ=>?_,λJ=>(hv4 J).mono G D⟩;obtain⟨x,n',g,q1,T,q3⟩:=t J;refine⟨x,n',g,q1,T,q3.mono G D λb1 m B O=>?_⟩;subst O;exact d b1 (.inr ⟨b,n,cap,c,e,i,l,C,hi,J,U,m,B,by rw[q,T];rfl⟩)
   ·have hi:ρ'.vec x.2=ρ.vec x.2:=by
     grind[Res.has]
    rw[hi];exact(u.hole x O).2
 |vec sz n f k e=>
  obtain⟨X,h⟩:=h;refine⟨X,?_⟩;rcases h with⟨l,C⟩|⟨b,cap,c,l,C,E,A,y,K,u,R⟩
  ·simp_all
  ·obtain⟨Q,I⟩:=d b (.inl (by simp[bz8,l]));refine .inr ⟨b,cap,c,jr,jr,E,A,y,λo H=>K o (I o H),u,λi j' p hi L=>?_⟩;obtain⟨v,q,z,t⟩:=R i j' p hi L;exact⟨v,q,z,t.mono G D⟩
theorem yzo {w q:qn}{ρ ρ':Env}{j:Nat}{r:Res}(h:ρ'.blk j=ρ.blk j/\ρ'.vec j=ρ.vec j)(o:∀b,Owns w ρ j r b->q.heap[b]?=w.heap[b]?)(b:Nat):Owns q ρ' j r b↔Owns w ρ j r b:=by
 have s:bz8 ρ' j r=bz8 ρ j r:=by simp_all[bz8]
 unfold Owns;rw[s];refine or_congr Iff.rfl ?_;cases r with
 |vecT sz n f e t x=>
  simp only[mzh,h.2];refine⟨λ⟨d,m,cap,c,g,i,a,p,l⟩=>⟨d,m,cap,c,g,i,a,?_,l⟩,λ⟨d,m,cap,c,g,i,a,p,l⟩=>⟨d,m,cap,c,g,i,a,?_,l⟩⟩
  ·rw[<-o d (.inl (by simp[bz8,a]))];omega
  ·rw[o d (.inl (by simp[bz8,a]))];omega
 |vecU sz n f k e off u t v=>
  simp only[mzh,h.2];refine⟨λ⟨d,m,cap,c,g,i,a,p,l⟩=>⟨d,m,cap,c,g,i,a,?_,l⟩,λ⟨d,m,cap,c,g,i,a,p,l⟩=>⟨d,m,cap,c,g,i,a,?_,l⟩⟩
  ·rw[<-o d (.inl (by simp[bz8,a]))];omega
  ·rw[o d (.inl (by simp[bz8,a]))];omega
 |_=>exact Iff.rfl
theorem owns_vec {w:qn}{ρ:Env}{j sz n k b:Nat}{f:Nat->PVal}{e:qq}:Owns w ρ j (.vec sz n f k e) b↔(ρ.vec j).map (·.1)=some b:=by
 simp[Owns,mzh,bz8]
theorem MemOk.step {F F':Cells}{w n:qn}{ρ ρ':Env}{Mine:Nat->Prop}{M:Mem}(z:MemOk F w ρ Mine M)(B:Step Mine F w F' n)(N:Nat->Prop)
 (f:∀i,N i->ρ'.blk i=ρ.blk i/\ρ'.vec i=ρ.vec i) (g:Mem)
 (c:∀j r,M.get j=some r->g.get j=none->N j/\(∀i,¬N i->r.has i=false)/\∀b,Owns w ρ j r b->n.heap[b]?=w.heap[b]?/\∀o,F' b o->F b o)
 (E:∀j r,g.get j=some r->ResOk F' n ρ' j r/\∀b,Owns n ρ' j r b->Mine b/\b<n.heap.size/\∀k e,M.get k=some e->g.get k=none->¬Owns w ρ k e b)
 (D:∀j m r e b,g.get j=some r->g.get m=some e->Owns n ρ' j r b->Owns n ρ' m e b->j=m):MemOk F' n ρ' Mine (g++M):=by
 have a:∀j r,Mem.get (g++M) j=some r->(g.get j=some r)\/(g.get j=none/\M.get j=some r):=by
  intro j r h;rw[Mem.get_append]at h
  simp_all
 refine⟨λj r h=>?_,λj r b h d=>?_,λj m r e b h C d s=>?_⟩
 ·rcases a j r h with h|⟨q,l⟩
  ·simp_all
  ·obtain⟨p,A,t⟩:=c j r l q;exact(z.ok j r l).keep N B.sub B.cell f p A t
 ·rcases a j r h with h|⟨q,l⟩
  ·grind
  ·obtain⟨p,A,t⟩:=c j r l q;rw[yzo (f j p) (λb d=>(t b d).1)]at d;obtain⟨H,G⟩:=z.mine j r b l d
   grind
 ·rcases a j r h with h|⟨q,l⟩<;>rcases a m e C with C|⟨x,u⟩
  ·grind
  ·grind[yzo]
  ·grind[yzo]
  ·obtain⟨p,_,t⟩:=c j r l q;obtain⟨v,_,y⟩:=c m e u x;rw[yzo (f j p) (λb d=>(t b d).1)]at d;rw[yzo (f m v) (λb d=>(y b d).1)]at s;exact z.disj j m r e b l u d s
theorem Step.alloc {Mine:Nat->Prop}{F:Cells}{w:qn}(g:Good F w Mine)(ob:Obj)(G:Nat->Prop):
 Step Mine F w (λb o=>F b o\/(b=w.heap.size/\G o)) (w.alloc ob):=by
 refine⟨λb o h=>.inl h,λb o h=>World.cell?_alloc_lt _ _ _ (g.lt b o h),λb o h=>?_,λb o h=>?_,⟨rfl,rfl,rfl,jq,λk a _=>heap_alloc_old w ob a⟩⟩
 ·rcases h with h|⟨rfl,_⟩
  ·simp_all
  ·exact .inr (g.mine _ (qk _))
 ·rcases h with h|⟨rfl,_⟩
  ·have:=g.lt b o h;simp;omega
  ·simp
theorem Step.draw {Mine:Nat->Prop}{F:Cells}{w:qn}(g:Good F w Mine):Step Mine F w F w.drew:=
 ⟨λ_ _ h=>h,λ_ _ _=>rfl,λ_ _ h=>.inl h,g.lt,⟨rfl,rfl,rfl,qk _,λ_ _ _=>rfl⟩⟩
theorem az22 {F:Cells}{w:qn}{ρ:Env}{Mine:Nat->Prop}{M:Mem}{id:Nat}(c:MemOk F w ρ Mine M)(a:Fresh id M)(ob:Obj)(G:Nat->Prop)(j:Nat)(r:Res)(h:M.get j=some r):
 ¬Own id j/\(∀i,¬¬Own id i->r.has i=false)/\∀b,Owns w ρ j r b->(w.alloc ob).heap[b]?=w.heap[b]?/\∀o,(F b o\/(b=w.heap.size/\G o))->F b o:=by
 refine⟨λf=>?_,λi hi=>a.has i j r (xO.1 hi) h,λb d=>?_⟩
 ·rw[a.none j f]at h;cases h
 ·have e:=(c.mine j r b h d).2
  grind[heap_alloc_old]
def Env.setBlk (ρ:Env)(id b:Nat):Env:={ρ with blk:=λi=>if i=id then b else ρ.blk i}
def Env.setVec (ρ:Env)(id:Nat)(x:Option (Nat×Nat×Nat)):Env:={ρ with vec:=λi=>if i=id then x else ρ.vec i}
def Env.clear (ρ:Env)(id:Nat):Env:={ρ with vec:=λi=>if id<=i/\i<id+64 then none else ρ.vec i}
theorem Gz9 {F:Cells}{w:qn}{ρ:Env}:∀ (l:List qr) (id:Nat),(∀i,id<=i->i<id+l.length->ρ.vec i=none)->
 (yzm id l).length=l.length/\∀ (j:Nat) (a:AVal) (v:qr),(yzm id l)[j]?=some a->l[j]?=some v->ARel F w ρ a v
 |[],id,_=>by simp[yzm]
 |x::l,id,h=>by
  have f:=Gz9 (F:=F) (w:=w) (ρ:=ρ) l (id+1) (λi g e=>h i qa jt);have b:∀ (c:AVal),ARel F w ρ c x->(c::yzm (id+1) l).length=(x::l).length/\∀ (j:Nat) (a:AVal) (v:qr),(c::yzm (id+1) l)[j]?=some a->(x::l)[j]?=some v->ARel F w ρ a v:=by
   grind
  by_cases d:x=.slice none 0 0
  ·subst d;exact b _ (.vnil (h id (qk _) jq))
  grind[yzm,gzy]
theorem az05:∀ (l:List qr) (id i:Nat) (r:Res),(zmem id l).get i=some r->r=.nilv/\id<=i/\i<id+l.length
 |[],id,i,r,h=>by grind[zmem,Mem.get]
 |x::l,id,i,r,h=>by
  have a:=az05 l (id+1) i r;by_cases b:x=.slice none 0 0;all_goals grind[zmem,Mem.get]
variable {P:Program} {o:Oper} {env:xQ->AVal} {m:Mem} {id:Nat}
theorem az7d {F:Cells}{w:qn}{ρ:Env}{Mine:Nat->Prop}{M:Mem}(s:MemOk F w ρ Mine M)(g:Good F w Mine)(H:Fresh id M)(e:qq)(c:Array qr)(f:List AVal)(q:Mem)
 (K:∀i r,q.get i=some r->r=.nilv/\id<i/\i<id+64) (C:f.length=c.size)
 (G:∀ (F':Cells) (x:qn) (ρ':Env),(∀b o,F b o->F' b o)->(∀b o,F b o->x.cell? ⟨b,o,none⟩=w.cell? ⟨b,o,none⟩)->dz4 id ρ ρ'->(∀i,Own id i->ρ'.vec i=none)->
  ∀ (j:Nat) (a:AVal) (v:qr),f[j]?=some a->c[j]?=some v->ARel F' x ρ' a v/\v.oneCell'=true):
 ∃F' ρ',Step Mine F w F' (w.alloc (.cells c e))/\dz4 id ρ ρ'/\ρ'.blk id=w.heap.size/\MemOk F' (w.alloc (.cells c e)) ρ' Mine ((id,.box f)::q++M):=by
 have p:=Step.alloc g (.cells c e) (λ_=>False);let ρ':=(ρ.clear id).setBlk id w.heap.size;have u:dz4 id ρ ρ':=by
  intro i hi;constructor
  ·show(if i=id then _ else _)=_;rw[qb (λh=>hi ⟨qa,qa⟩)];rfl
  ·exact qb hi
 have m:∀i,Own id i->ρ'.vec i=none:=λi hi=>qc hi
 have y:ρ'.blk id=w.heap.size:=by show(if id=id then _ else _)=_;simp_all
 refine⟨_,ρ',p,u,y,?_⟩;have l:∀j r,Mem.get ((id,.box f)::q) j=some r->(j=id/\r=.box f)\/(r=.nilv/\id<j/\j<id+64):=by
  grind[Mem.get]
 refine MemOk.step s p (λi=>¬Own id i) u ((id,.box f)::q) (λj r h _=>az22 s H _ _ j r h) (λj r h=>?_) (λj N r z b h L J A=>?_)
 ·rcases l j r h with⟨rfl,rfl⟩|⟨rfl,O,I⟩
  ·refine⟨⟨c,e,by grind[heap_alloc_new],C.symm,λo n=>?_,λk a v B D=>G _ _ _ p.sub p.cell u m k a v B D⟩,λb d=>?_⟩
   ·rcases n with n|⟨_,n⟩
    ·exact absurd (g.lt _ _ n) qa
    omega
   ·simp only[Owns,mzh,or_false,bz8,y,Option.some.injEq]at d;subst d;refine⟨g.mine _ (qk _),jq,λk z E _ t=>?_⟩;exact absurd (s.mine k z _ E t).2 qa
  ·exact⟨m j ⟨qa,I⟩,λb d=>by grind[Owns,mzh,bz8]⟩
 grind[Owns,mzh,bz8]
theorem azqd {e:qq}{x:xQ}(C:o.op=.box e x)(f:(env x).cells.all (·.scalar)=true):Sound1 P o env m id ⟨.ptr id 0,[],[(id,.box (env x).cells)],none⟩:=by
 intro F w ρ Mine M a k g s _ c q;have b:x∈o.op.operands:=by simp[C,Op.operands]
 have h:=q x b;obtain⟨B,_⟩:=h.cells f;obtain⟨F',ρ',z,d,A,l⟩:=az7d k g s e (a.eval x).cells (env x).cells [] (by simp[Mem.get]) B (λF' D ρ' t u d _ j y v p n=>by
  have r:=h.mono (λi=>¬Own id i) t u d (λi hi=>c x b i (xO.1 hi));exact(r.cells f).2 j y v p n)
 refine⟨.pointer (some ⟨w.heap.size,0,none⟩),w.alloc (.cells (a.eval x).cells e),F',ρ',.value ?_,z,d,?_,qa⟩
 ·simp_all[execOp,Instr.box,newVar,newRow]
 ·rw[<-A];exact .ptr
theorem azmy {e:qq}{z:List qr}(H:o.op=.alloc e)(n:mzg P e=some z)(f:z.length<60)(d:z.all (λv=>v.oneCell')=true):
 Sound1 P o env m id ⟨.ptr id 0,[],(id,.box (yzm (id+1) z))::zmem (id+1) z,none⟩:=by
 intro F w ρ Mine M a l g p _ D J;obtain⟨v,O,s⟩:=Lzi (P:=P) (w:=w) n;have b:v.cells.size=z.length:=jt
 obtain⟨F',ρ',x,k,A,q⟩:=az7d l g p e v.cells (yzm (id+1) z) (zmem (id+1) z)
  (λi r h=>by obtain⟨K,L,N⟩:=az05 z (id+1) i r h;grind)
  (by rw[b];exact(Gz9 (F:=F) (w:=w) (ρ:=ρ.clear id) z (id+1) (λi d C=>qc ⟨qa,qa⟩)).1)
  (λF' t ρ' G E k c j y u B I=>by
   have:=(Gz9 (F:=F') (w:=t) (ρ:=ρ') z (id+1) (λi d C=>c i ⟨qa,qa⟩)).2 j y u B
   grind)
 refine⟨.pointer (some ⟨w.heap.size,0,none⟩),w.alloc (.cells v.cells e),F',ρ',.value ?_,x,k,?_,qa⟩
 ·simp_all[execOp,Instr.alloc,newVar,newRow]
 ·rw[<-A];exact .ptr
inductive All2 {α β:Type} (R:α->β->Prop):List α->List β->Prop
 |nil:All2 R [] []
 |cons {a:α} {b:β} {l:List α} {m:List β}:R a b->All2 R l m->All2 R (a::l) (b::m)
theorem az1a (off:Nat):∀ (vs:List qr) (i:Nat) (a:Array qr),off+i+vs.length<=a.size->
 ((vs.zipIdx i).foldl (λa (x:qr×Nat)=>a.setIfInBounds (off+x.2) x.1) a)=(a.toList.take (off+i)++vs++a.toList.drop (off+i+vs.length)).toArray
 |[],i,a,_=>jq
 |v::vs,i,a,h=>by
  simp only[List.length_cons]at h;simp only[List.zipIdx_cons,List.foldl_cons];rw[az1a off vs (i+1) _ jv];have e:=list_seg_step a.toList (off+i) v vs qa;simpa[Array.toList_setIfInBounds,Nat.add_assoc]using e
theorem az18 (vs:Array qr)(off:Nat)(a:Array qr)(h:off+vs.size<=a.size):
 (vs.zipIdx.foldl (λa (c,j)=>a.setIfInBounds (off+j) c) a)=(a.toList.take off++vs.toList++a.toList.drop (off+vs.size)).toArray:=by
 have:=az1a off vs.toList 0 a qa
 grind[Array.toList_zipIdx]
theorem jzm {b:Type}(a vs:List b)(off j:Nat)(h:off+vs.length<=a.length):
 (a.take off++vs++a.drop (off+vs.length))[j]?=if off<=j/\j<off+vs.length then vs[j-off]? else a[j]?:=by
 by_cases c:j<off;all_goals grind
theorem Szf {b:Type}(a vs:List b)(off:Nat)(h:off+vs.length<=a.length):(a.take off++vs++a.drop (off+vs.length)).length=a.length:=by
 grind
variable {P:Program} {o:Oper} {env:xQ->AVal} {m:Mem} {id:Nat}
section
variable {F:Cells} {w:qn} {ρ:Env}
def LRel (F:Cells)(w:qn)(ρ:Env)(b:List AVal)(vs:List qr):Prop:=
 b.length=vs.length/\∀ (j:Nat) (a:AVal) (v:qr),b[j]?=some a->vs[j]?=some v->ARel F w ρ a v
theorem LRel.over {d e:List AVal}{vs xs:List qr}(h:LRel F w ρ d vs)(i:LRel F w ρ e xs)(off:Nat)(g:off+e.length<=d.length):
 LRel F w ρ (d.take off++e++d.drop (off+e.length)) (vs.take off++xs++vs.drop (off+xs.length)):=by
 have l:=h.1;have k:=i.1;refine⟨jr,λj a v c b=>?_⟩;rw[jzm _ _ _ _ g]at c;rw[jzm _ _ _ _ qa,<-k]at b;split at c
 ·rename_i f;rw[qc f]at b;exact i.2 _ a v c b
 ·rename_i f;rw[qb f]at b;exact h.2 _ a v c b
theorem az6x {a:Act}(d:Nat->Option (Nat×Nat)):∀ (c:List (Nat×xQ)) (ps:List (Nat×List AVal)) (g e:List AVal) (vs:Array qr),
 LRel F w ρ g vs.toList->(∀x∈c,ARel F w ρ (env x.2) (a.eval x.2))->
 (All2 (λ(x:Nat×xQ) (y:Nat×List AVal)=>∃s,d x.1=some (y.1,s)/\y.2=(env x.2).cells/\y.2.length=s/\y.2.all (·.scalar)=true) c ps)->
 over g ps=some e->∃f:Array qr,Instr.fill d vs (c.map λx=>(x.1,a.eval x.2))=some f/\LRel F w ρ e f.toList
 |[],_,g,e,vs,l,_,k,h=>by
  cases k
  grind[over,Instr.fill]
 |x::c,_,g,e,vs,l,q,k,h=>by
  cases k with
  |cons n k=>
   rename_i y ps;obtain⟨s,K,B,I,t⟩:=n;obtain⟨i,x⟩:=x;obtain⟨off,G⟩:=y;subst B;simp only[over]at h;split at h
   ·rename_i m;have A:=q (i,x) jq;obtain⟨E,u⟩:=A.cells t;have r:g.length=vs.size:=by simpa using l.1
    have o:LRel F w ρ (env x).cells (a.eval x).cells.toList:=⟨qa,λj b v C H=>(u j b v C jr).1⟩;have p:=l.over o off m;obtain⟨f,D,L⟩:=az6x d c ps _ e ((vs.toList.take off++(a.eval x).cells.toList++vs.toList.drop (off+(a.eval x).cells.toList.length)).toArray) qa (λz J=>q z jt) k h
    grind[Instr.fill,az18]
   grind
end
def Nz0 (P:Program)(t:qq)(i:Nat):Option (Nat×Nat):=
 match P.underlying t with
 |some (.struct a)=>match a[i]? with
  |some f=>match bzi P f.type with
   |some s=>some (f.offset,s)
   |none=>none
  |none=>none
 |some (.array _ e)=>match bzi P e with
  |some s=>some (i * s,s)
  |none=>none
 |_=>none
theorem Hz9 {t:qq}:∀ (a:List (Nat×xQ)) (ps:List (Nat×List AVal)),rze P t env a=some ps->
 All2 (λ(x:Nat×xQ) (y:Nat×List AVal)=>∃s,Nz0 P t x.1=some (y.1,s)/\y.2=(env x.2).cells/\y.2.length=s/\y.2.all (·.scalar)=true) a ps
 |[],ps,h=>by simp[rze]at h;subst h;exact .nil
 |(i,x)::a,ps,h=>by
  have e:rze P t env ((i,x)::a)=match Nz0 P t i,rze P t env a with
   |some (off,s),some l=>if(env x).cells.length=s&&(env x).cells.all (·.scalar)then some ((off,(env x).cells)::l)else none
   |_,_=>none:=rfl
  rw[e]at h;split at h
  ·rename_i off s l d c;split at h
   ·rename_i b;simp only[qm,qf]at b;simp at h;subst h;exact .cons ⟨s,d,rfl,b.1,b.2⟩ (Hz9 a l c)
   ·cases h
  ·cases h
theorem Wzp:∀ (a:List Field),(a.all λf=>(bzi P f.type).isSome)=true->∃b,a.mapM (λ(f:Field)=>(P.info? f.type).map λi=>(f.offset,i.size))=some b/\
 ∀ (i:Nat),b[i]?=match a[i]? with|some f=>(match bzi P f.type with|some s=>some (f.offset,s)|none=>none)|none=>none
 |[],_=>⟨[],jq,jq⟩
 |f::a,h=>by
  simp only[List.all_cons,qm]at h;obtain⟨b,j,g⟩:=Wzp a h.2;obtain⟨s,d⟩:=ze.1 h.1;obtain⟨c,hi,e⟩:=iz9 d;refine⟨(f.offset,s)::b,jr,λi=>?_⟩
  grind
theorem run_build' {w:qn}{t:qq}{z:List qr}(o:mzg P t=some z)(d:azev P t=true)(b:Array (Nat×qr))(a:Array qr)
 (h:Instr.fill (Nz0 P t) z.toArray b.toList=some a):(Instr.build t b).run P w=.ok (.agg a) w:=by
 refine run_build w t b a ?_;obtain⟨r,v,hi,c,q⟩:=nzt o;have j:v.cells=z.toArray:=jt
 unfold azev at d;split at d
 ·rename_i m f;obtain⟨x,p,u⟩:=Wzp (P:=P) m.toList d;simp only[Program.built,hi,f,c,p,j];rw[<-h];congr 1
  grind[Nz0]
 ·rename_i n e f;obtain⟨s,g⟩:=ze.1 d;obtain⟨k,i,l⟩:=iz9 g;simp only[Program.built,hi,f,c,i,j];rw[<-h];congr 1
  grind[Nz0]
 simp_all
theorem az0u {F:Cells}{w:qn}{ρ:Env}{Mine:Nat->Prop}{M:Mem}(m:MemOk F w ρ Mine M)(g:Good F w Mine)(d:Fresh id M)(a:Mem)
 (f:∀i r,a.get i=some r->r=.nilv/\Own id i):dz4 id ρ (ρ.clear id)/\MemOk F w (ρ.clear id) Mine (a++M):=by
 have c:dz4 id ρ (ρ.clear id):=λi hi=>⟨rfl,qb hi⟩
 refine⟨c,MemOk.step m (Step.refl g) (λi=>¬Own id i) c a (λj r h _=>⟨λe=>(by rw[d.none j e]at h;cases h),λi hi=>d.has i j r (xO.1 hi) h,λb _=>⟨rfl,λ_ h=>h⟩⟩) (λj r h=>?_) (λj o r q b h p k n=>?_)⟩
 ·obtain⟨rfl,l⟩:=f j r h;exact⟨qc l,λb k=>by grind[Owns,mzh,bz8]⟩
 grind[Owns,mzh,bz8]
theorem azmz {t:qq}{c:Array (Nat×xQ)}{out:Out}(J:o.op=.build t c)(h:az4g P t id env c.toList=some out):Sound1 P o env m id out:=by
 unfold az4g at h;split at h
 ·rename_i z ps G p;split at h
  ·rename_i K l;split at h
   ·rename_i u;simp only[qm,qf]at u;cases h;intro F w ρ Mine M a A g D _ q B;have e:∀x∈c.toList,x.2∈o.op.operands:=λx n=>by
     grind[Op.operands]
    obtain⟨y,f⟩:=az0u A g D (zmem id z) (λi r h=>by obtain⟨C,H,L⟩:=az05 z id i r h;exact⟨C,H,qa⟩);have E:=Gz9 (F:=F) (w:=w) (ρ:=ρ.clear id) z id (λi s k=>qc ⟨s,qa⟩)
    obtain⟨d,s,k⟩:=az6x (F:=F) (w:=w) (ρ:=ρ.clear id) (env:=env) (a:=a) (Nz0 P t) c.toList ps (yzm id z) K z.toArray ⟨jr,jt⟩
     (λx n=>(B x.2 (e x n)).mono (λi=>¬Own id i) (λ_ _ h=>h) (λ_ _ _=>rfl) y (λi hi=>q x.2 (e x n) i (xO.1 hi))) (Hz9 c.toList ps p) l
    refine⟨.agg d,w,F,ρ.clear id,.value ?_,Step.refl g,y,ARel.mkAgg (by simpa using k.1) (λj b v I N=>k.2 j b v I jr),f⟩;have O:=run_build' (w:=w) G u.1 (c.map λx=>(x.1,a.eval x.2)) d jr;simp only[execOp,J,Sem.run_bind]
    simp_all
   grind
  grind
 grind
theorem azqg (c:o.op=.assign (.const (.slice none 0 0))):Sound1 P o env m id ⟨.vec id,[],[(id,.nilv)],none⟩:=by
 intro F w ρ Mine M a j g f _ _ _;obtain⟨d,b⟩:=az0u j g f [(id,.nilv)] (λi r h=>by
  simp only[Mem.get]at h;split at h
  ·rename_i e;subst e;cases h;exact⟨rfl,qk _,qa⟩
  grind)
 exact⟨.slice none 0 0,w,F,ρ.clear id,.value (by simp[execOp,c,Act.eval]),Step.refl g,d,.vnil (qc ⟨qk _,qa⟩),b⟩
end Go.Abs
