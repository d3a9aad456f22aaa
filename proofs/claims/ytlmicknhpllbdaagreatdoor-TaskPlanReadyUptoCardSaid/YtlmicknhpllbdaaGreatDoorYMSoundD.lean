/-
  SoundD (a part of a claim: our own text).
-/
import Derived.Test.YtlmicknhpllbdaaGreatDoorYMSoundB
namespace Go.Abs
theorem VecAt.mono {F F':Cells}{w a:World}{sz n k:Nat}{f:Nat->PVal}{e:TypeId}{x:Option (Nat×Nat×Nat)}(h:VecAt F w sz n f k e x)(C:∀b o,F b o->F' b o)
 (z:∀b o,F b o->a.cell? ⟨b,o,none⟩=w.cell? ⟨b,o,none⟩) (D:∀b m cap,x=some (b,m,cap)->a.heap[b]?=w.heap[b]?/\∀o,F' b o->F b o):VecAt F' a sz n f k e x:=by
 obtain⟨s,h⟩:=h
 refine⟨s,?_⟩
 rcases h with h|⟨b,cap,c,d,I,l,u,E,t,A,y⟩
 ·simp_all
 ·obtain⟨J,r⟩:=D _ _ _ d
  refine .inr ⟨b,cap,c,d,by simp_all,l,u,E,fun o G=>t o (r o G),A,fun i j p hi H=>?_⟩
  obtain⟨v,B,g,q⟩:=y i j p hi H
  exact⟨v,B,g,q.mono C z⟩
theorem ResOk.keep {F F':Cells}{w W:World}{ρ ρ':Env}{j:Nat}{r:Res}(h:ResOk F w ρ j r)(N:Nat->Prop)(G:∀b o,F b o->F' b o)
 (D:∀b o,F b o->W.cell? ⟨b,o,none⟩=w.cell? ⟨b,o,none⟩) (S:∀i,N i->ρ'.blk i=ρ.blk i/\ρ'.vec i=ρ.vec i) (hj:N j)
 (hr:∀i,¬N i->r.has i=false) (d:∀b,Owns w ρ j r b->W.heap[b]?=w.heap[b]?/\∀o,F' b o->F b o):ResOk F' W ρ' j r:=by
 obtain⟨hb,P⟩:=S j hj
 cases r with
 |gone=>trivial
 |nilv=>show ρ'.vec j=none;rw[P];exact h
 |box cs=>
  obtain⟨c,e,l,C,E,A⟩:=h
  obtain⟨Q,I⟩:=d _ (.inl rfl)
  refine⟨c,e,by simp_all,C,fun o H=>?_,fun k a v ha Y=>?_⟩
  ·simp_all
  ·obtain⟨y,K⟩:=A k a v ha Y
   refine⟨y.mono N G D S fun i hi=>?_,K⟩
   grind[qz6,Res.has]
 |map tm dom val=>
  obtain⟨es,M,l,C,E,A,y⟩:=h
  obtain⟨Q,I⟩:=d _ (.inl rfl)
  exact⟨es,M,by simp_all,fun o H=>by simp_all,E,A,fun p v L P=>⟨(y p v L P).1,(y p v L P).2.mono G D⟩⟩
 |iter s pos=>
  obtain⟨l,C⟩:=h
  obtain⟨Q,I⟩:=d _ (.inl rfl)
  exact⟨by simp_all,fun o H=>by simp_all⟩
 |tok τ p=>exact τ.keep h G D fun b hb=>d b (.inr hb)
 |dat sz n f=>show PRel F' W (.lst sz n f) (jzp (ρ'.vec j));rw[P];exact PRel.mono G D h
 |vecT sz n f e e' H=>
  obtain⟨b,cap,c,l,C,E,A,y,K,u,R,h9⟩:=h
  obtain⟨Q,I⟩:=d b (.inl (by simp[bz4,l]))
  refine⟨b,cap,c,by simp_all,by simp_all,E,A,y,fun o H=>K o (I o H),fun i hi=>?_,R,h9⟩
  obtain⟨v,v1,v2,v3⟩:=u i hi
  refine⟨v,v1,v2,?_⟩
  by_cases V:H=some i
  ·simp_all
  ·refine .inr ?_
   obtain⟨x,n',g,q1,T,q3⟩:=v3.resolve_left V
   refine⟨x,n',g,q1,T,q3.mono G D fun b1 m B O=>?_⟩
   subst O
   exact d b1 (.inr ⟨b,n,cap,c,e,i,l,C,hi,V,m,B,by rw[v1,T];rfl⟩)
 |vecX sz n f e h off i=>
  obtain⟨h0,b,cap,c,l,C,E,A,K,y⟩:=h
  have hi:ρ'.vec i=ρ.vec i:=by
   grind[Res.has]
  obtain⟨Q,I⟩:=d b (.inl (by simp[bz4,l]))
  refine⟨?_,b,cap,c,by simp_all,by simp_all,E,A,K,by simp_all⟩
  rw[P]
  exact h0.mono G D fun b' m cap' O=>by simp_all
 |vecU sz n f k e off s' e' hs=>
  obtain⟨h0,X,h⟩:=h
  refine⟨h0,X,?_⟩
  rcases h with⟨l,C⟩|⟨b,cap,c,l,C,E,A,y,K,u,R⟩
  ·simp_all
  ·obtain⟨Q,I⟩:=d b (.inl (by simp[bz4,l]))
   refine .inr ⟨b,cap,c,by simp_all,by simp_all,E,A,y,fun o H=>K o (I o H),⟨u.len,fun i j' p hi Z L=>?_,fun i p hi U L=>?_,fun x O=>⟨(u.hole x O).1,?_⟩,u.nodup,u.inj⟩,R⟩
   ·obtain⟨v,q,z,t⟩:=u.cell i j' p hi Z L
    exact⟨v,q,z,t.mono G D⟩
   ·obtain⟨v,q,z,t,hv4⟩:=u.own i p hi U L
    refine⟨v,q,z,fun J=>?_,fun J=>(hv4 J).mono G D⟩
    obtain⟨x,n',g,q1,T,q3⟩:=t J
    refine⟨x,n',g,q1,T,q3.mono G D fun b1 m B O=>?_⟩
    subst O
    exact d b1 (.inr ⟨b,n,cap,c,e,i,l,C,hi,J,U,m,B,by rw[q,T];rfl⟩)
   ·have hi:ρ'.vec x.2=ρ.vec x.2:=by
     grind[Res.has]
    rw[hi];exact(u.hole x O).2
 |vec sz n f k e=>
  obtain⟨X,h⟩:=h
  refine⟨X,?_⟩
  rcases h with⟨l,C⟩|⟨b,cap,c,l,C,E,A,y,K,u,R⟩
  ·simp_all
  ·obtain⟨Q,I⟩:=d b (.inl (by simp[bz4,l]))
   refine .inr ⟨b,cap,c,by simp_all,by simp_all,E,A,y,fun o H=>K o (I o H),u,fun i j' p hi L=>?_⟩
   obtain⟨v,q,z,t⟩:=R i j' p hi L
   exact⟨v,q,z,t.mono G D⟩
theorem wzg {w q:World}{ρ ρ':Env}{j:Nat}{r:Res}(h:ρ'.blk j=ρ.blk j/\ρ'.vec j=ρ.vec j)(o:∀b,Owns w ρ j r b->q.heap[b]?=w.heap[b]?)(b:Nat):Owns q ρ' j r b↔Owns w ρ j r b:=by
 have s:bz4 ρ' j r=bz4 ρ j r:=by simp_all[bz4]
 unfold Owns
 rw[s]
 refine or_congr Iff.rfl ?_
 cases r with
 |vecT sz n f e t x=>
  simp only[oz0,h.2]
  refine⟨fun ⟨d,m,cap,c,g,i,a,p,l⟩=>⟨d,m,cap,c,g,i,a,?_,l⟩,fun ⟨d,m,cap,c,g,i,a,p,l⟩=>⟨d,m,cap,c,g,i,a,?_,l⟩⟩
  ·rw[←o d (.inl (by simp[bz4,a]))];omega
  ·rw[o d (.inl (by simp[bz4,a]))];omega
 |vecU sz n f k e off u t v=>
  simp only[oz0,h.2]
  refine⟨fun ⟨d,m,cap,c,g,i,a,p,l⟩=>⟨d,m,cap,c,g,i,a,?_,l⟩,fun ⟨d,m,cap,c,g,i,a,p,l⟩=>⟨d,m,cap,c,g,i,a,?_,l⟩⟩
  ·rw[←o d (.inl (by simp[bz4,a]))];omega
  ·rw[o d (.inl (by simp[bz4,a]))];omega
 |_=>exact Iff.rfl
theorem owns_vec {w:World}{ρ:Env}{j sz n k b:Nat}{f:Nat->PVal}{e:TypeId}:Owns w ρ j (.vec sz n f k e) b↔(ρ.vec j).map (·.1)=some b:=by
 simp[Owns,oz0,bz4]
theorem MemOk.step {F F':Cells}{w n:World}{ρ ρ':Env}{Mine:Nat->Prop}{M:Mem}(z:MemOk F w ρ Mine M)(B:Step Mine F w F' n)(N:Nat->Prop)
 (f:∀i,N i->ρ'.blk i=ρ.blk i/\ρ'.vec i=ρ.vec i) (g:Mem)
 (c:∀j r,M.get j=some r->g.get j=none->N j/\(∀i,¬N i->r.has i=false)/\∀b,Owns w ρ j r b->n.heap[b]?=w.heap[b]?/\∀o,F' b o->F b o)
 (E:∀j r,g.get j=some r->ResOk F' n ρ' j r/\∀b,Owns n ρ' j r b->Mine b/\b<n.heap.size/\∀k e,M.get k=some e->g.get k=none->¬Owns w ρ k e b)
 (D:∀j m r e b,g.get j=some r->g.get m=some e->Owns n ρ' j r b->Owns n ρ' m e b->j=m):MemOk F' n ρ' Mine (g++M):=by
 have a:∀j r,Mem.get (g++M) j=some r->(g.get j=some r)\/(g.get j=none/\M.get j=some r):=by
  intro j r h
  rw[Mem.get_append]at h
  simp_all
 refine⟨fun j r h=>?_,fun j r b h d=>?_,fun j m r e b h C d s=>?_⟩
 ·rcases a j r h with h|⟨q,l⟩
  ·simp_all
  ·obtain⟨p,A,t⟩:=c j r l q
   exact(z.ok j r l).keep N B.sub B.cell f p A t
 ·rcases a j r h with h|⟨q,l⟩
  ·grind
  ·obtain⟨p,A,t⟩:=c j r l q
   rw[wzg (f j p) (fun b d=>(t b d).1)]at d
   obtain⟨H,G⟩:=z.mine j r b l d
   grind
 ·rcases a j r h with h|⟨q,l⟩<;>rcases a m e C with C|⟨x,u⟩
  ·grind
  ·grind[wzg]
  ·grind[wzg]
  ·obtain⟨p,_,t⟩:=c j r l q
   obtain⟨v,_,y⟩:=c m e u x
   rw[wzg (f j p) (fun b d=>(t b d).1)]at d
   rw[wzg (f m v) (fun b d=>(y b d).1)]at s
   exact z.disj j m r e b l u d s
theorem Step.alloc {Mine:Nat->Prop}{F:Cells}{w:World}(g:Good F w Mine)(ob:Obj)(G:Nat->Prop):
 Step Mine F w (fun b o=>F b o\/(b=w.heap.size/\G o)) (w.alloc ob):=by
 refine⟨fun b o h=>.inl h,fun b o h=>World.cell?_alloc_lt _ _ _ (g.lt b o h),fun b o h=>?_,fun b o h=>?_,⟨rfl,rfl,rfl,by simp,fun k a _=>heap_alloc_old w ob a⟩⟩
 ·rcases h with h|⟨rfl,_⟩
  ·simp_all
  ·exact .inr (g.mine _ (Nat.le_refl _))
 ·rcases h with h|⟨rfl,_⟩
  ·have:=g.lt b o h;simp;omega
  ·simp
theorem Step.draw {Mine:Nat->Prop}{F:Cells}{w:World}(g:Good F w Mine):Step Mine F w F w.drew:=
 ⟨fun _ _ h=>h,fun _ _ _=>rfl,fun _ _ h=>.inl h,g.lt,⟨rfl,rfl,rfl,Nat.le_refl _,fun _ _ _=>rfl⟩⟩
theorem Yzk {F:Cells}{w:World}{ρ:Env}{Mine:Nat->Prop}{M:Mem}{id:Nat}(c:MemOk F w ρ Mine M)(a:Fresh id M)(ob:Obj)(G:Nat->Prop)(j:Nat)(r:Res)(h:M.get j=some r):
 ¬Own id j/\(∀i,¬¬Own id i->r.has i=false)/\∀b,Owns w ρ j r b->(w.alloc ob).heap[b]?=w.heap[b]?/\∀o,(F b o\/(b=w.heap.size/\G o))->F b o:=by
 refine⟨fun f=>?_,fun i hi=>a.has i j r (Classical.not_not.1 hi) h,fun b d=>?_⟩
 ·rw[a.none j f]at h;cases h
 ·have e:=(c.mine j r b h d).2
  grind[heap_alloc_old]
def Env.setBlk (ρ:Env)(id b:Nat):Env:={ρ with blk:=fun i=>if i=id then b else ρ.blk i}
def Env.setVec (ρ:Env)(id:Nat)(x:Option (Nat×Nat×Nat)):Env:={ρ with vec:=fun i=>if i=id then x else ρ.vec i}
def Env.clear (ρ:Env)(id:Nat):Env:={ρ with vec:=fun i=>if id≤i/\i<id+64 then none else ρ.vec i}
theorem Czy {F:Cells}{w:World}{ρ:Env}:∀ (l:List Value) (id:Nat),(∀i,id≤i->i<id+l.length->ρ.vec i=none)->
 (wze id l).length=l.length/\∀ (j:Nat) (a:AVal) (v:Value),(wze id l)[j]?=some a->l[j]?=some v->ARel F w ρ a v
 |[],id,_=>by simp[wze]
 |x::l,id,h=>by
  have f:=Czy (F:=F) (w:=w) (ρ:=ρ) l (id+1) (fun i g e=>h i (by omega) (by grind))
  have b:∀ (c:AVal),ARel F w ρ c x->(c::wze (id+1) l).length=(x::l).length/\∀ (j:Nat) (a:AVal) (v:Value),(c::wze (id+1) l)[j]?=some a->(x::l)[j]?=some v->ARel F w ρ a v:=by
   grind
  by_cases d:x=.slice none 0 0
  ·subst d
   exact b _ (.vnil (h id (Nat.le_refl _) (by simp)))
  grind[wze,izj]
theorem Wzw:∀ (l:List Value) (id i:Nat) (r:Res),(zmem id l).get i=some r->r=.nilv/\id≤i/\i<id+l.length
 |[],id,i,r,h=>by grind[zmem,Mem.get]
 |x::l,id,i,r,h=>by
  have a:=Wzw l (id+1) i r
  by_cases b:x=.slice none 0 0
  all_goals grind[zmem,Mem.get]
variable {P:Program} {o:Oper} {env:Operand->AVal} {m:Mem} {id:Nat}
theorem az2w {F:Cells}{w:World}{ρ:Env}{Mine:Nat->Prop}{M:Mem}(s:MemOk F w ρ Mine M)(g:Good F w Mine)(H:Fresh id M)(e:TypeId)(c:Array Value)(f:List AVal)(q:Mem)
 (K:∀i r,q.get i=some r->r=.nilv/\id<i/\i<id+64) (C:f.length=c.size)
 (G:∀ (F':Cells) (x:World) (ρ':Env),(∀b o,F b o->F' b o)->(∀b o,F b o->x.cell? ⟨b,o,none⟩=w.cell? ⟨b,o,none⟩)->dz3 id ρ ρ'->(∀i,Own id i->ρ'.vec i=none)->
  ∀ (j:Nat) (a:AVal) (v:Value),f[j]?=some a->c[j]?=some v->ARel F' x ρ' a v/\v.oneCell'=true):
 ∃F' ρ',Step Mine F w F' (w.alloc (.cells c e))/\dz3 id ρ ρ'/\ρ'.blk id=w.heap.size/\MemOk F' (w.alloc (.cells c e)) ρ' Mine ((id,.box f)::q++M):=by
 have p:=Step.alloc g (.cells c e) (fun _=>False)
 let ρ':=(ρ.clear id).setBlk id w.heap.size
 have u:dz3 id ρ ρ':=by
  intro i hi
  constructor
  ·show(if i=id then _ else _)=_
   rw[if_neg (fun h=>hi ⟨by omega,by omega⟩)];rfl
  ·exact if_neg hi
 have m:∀i,Own id i->ρ'.vec i=none:=fun i hi=>if_pos hi
 have y:ρ'.blk id=w.heap.size:=by show(if id=id then _ else _)=_;simp_all
 refine⟨_,ρ',p,u,y,?_⟩
 have l:∀j r,Mem.get ((id,.box f)::q) j=some r->(j=id/\r=.box f)\/(r=.nilv/\id<j/\j<id+64):=by
  grind[Mem.get]
 refine MemOk.step s p (fun i=>¬Own id i) u ((id,.box f)::q) (fun j r h _=>Yzk s H _ _ j r h) (fun j r h=>?_) (fun j N r z b h L J A=>?_)
 ·rcases l j r h with⟨rfl,rfl⟩|⟨rfl,O,I⟩
  ·refine⟨⟨c,e,by grind[heap_alloc_new],C.symm,fun o n=>?_,fun k a v B D=>G _ _ _ p.sub p.cell u m k a v B D⟩,fun b d=>?_⟩
   ·rcases n with n|⟨_,n⟩
    ·exact absurd (g.lt _ _ n) (by omega)
    omega
   ·simp only[Owns,oz0,or_false,bz4,y,Option.some.injEq]at d
    subst d
    refine⟨g.mine _ (Nat.le_refl _),by simp,fun k z E _ t=>?_⟩
    exact absurd (s.mine k z _ E t).2 (by omega)
  ·exact⟨m j ⟨by omega,I⟩,fun b d=>by grind[Owns,oz0,bz4]⟩
 grind[Owns,oz0,bz4]
theorem azhc {e:TypeId}{x:Operand}(C:o.op=.box e x)(f:(env x).cells.all (·.scalar)=true):Sound1 P o env m id ⟨.ptr id 0,[],[(id,.box (env x).cells)],none⟩:=by
 intro F w ρ Mine M a k g s _ c q
 have b:x∈o.op.operands:=by simp[C,Op.operands]
 have h:=q x b
 obtain⟨B,_⟩:=h.cells f
 obtain⟨F',ρ',z,d,A,l⟩:=az2w k g s e (a.eval x).cells (env x).cells [] (by simp[Mem.get]) B (fun F' D ρ' t u d _ j y v p n=>by
  have r:=h.mono (fun i=>¬Own id i) t u d (fun i hi=>c x b i (Classical.not_not.1 hi))
  exact(r.cells f).2 j y v p n)
 refine⟨.pointer (some ⟨w.heap.size,0,none⟩),w.alloc (.cells (a.eval x).cells e),F',ρ',.value ?_,z,d,?_,by omega⟩
 ·simp_all[execOp,Instr.box,newVar,newRow]
 ·rw[←A];exact .ptr
theorem azeg {e:TypeId}{z:List Value}(H:o.op=.alloc e)(n:ozl P e=some z)(f:z.length<60)(d:z.all (fun v=>v.oneCell')=true):
 Sound1 P o env m id ⟨.ptr id 0,[],(id,.box (wze (id+1) z))::zmem (id+1) z,none⟩:=by
 intro F w ρ Mine M a l g p _ D J
 obtain⟨v,O,s⟩:=Nzl (P:=P) (w:=w) n
 have b:v.cells.size=z.length:=by grind
 obtain⟨F',ρ',x,k,A,q⟩:=az2w l g p e v.cells (wze (id+1) z) (zmem (id+1) z)
  (fun i r h=>by obtain⟨K,L,N⟩:=Wzw z (id+1) i r h;grind)
  (by rw[b];exact(Czy (F:=F) (w:=w) (ρ:=ρ.clear id) z (id+1) (fun i d C=>if_pos ⟨by omega,by omega⟩)).1)
  (fun F' t ρ' G E k c j y u B I=>by
   have:=(Czy (F:=F') (w:=t) (ρ:=ρ') z (id+1) (fun i d C=>c i ⟨by omega,by omega⟩)).2 j y u B
   grind)
 refine⟨.pointer (some ⟨w.heap.size,0,none⟩),w.alloc (.cells v.cells e),F',ρ',.value ?_,x,k,?_,by omega⟩
 ·simp_all[execOp,Instr.alloc,newVar,newRow]
 ·rw[←A];exact .ptr
inductive All2 {α β:Type} (R:α->β->Prop):List α->List β->Prop
 |nil:All2 R [] []
 |cons {a:α} {b:β} {l:List α} {m:List β}:R a b->All2 R l m->All2 R (a::l) (b::m)
theorem Xzs (off:Nat):∀ (vs:List Value) (i:Nat) (a:Array Value),off+i+vs.length≤a.size->
 ((vs.zipIdx i).foldl (fun a (x:Value×Nat)=>a.setIfInBounds (off+x.2) x.1) a)=(a.toList.take (off+i)++vs++a.toList.drop (off+i+vs.length)).toArray
 |[],i,a,_=>by simp
 |v::vs,i,a,h=>by
  simp only[List.length_cons]at h
  simp only[List.zipIdx_cons,List.foldl_cons]
  rw[Xzs off vs (i+1) _ (by simp;omega)]
  have e:=list_seg_step a.toList (off+i) v vs (by omega)
  simpa[Array.toList_setIfInBounds,Nat.add_assoc]using e
theorem Xzq (vs:Array Value)(off:Nat)(a:Array Value)(h:off+vs.size≤a.size):
 (vs.zipIdx.foldl (fun a (c,j)=>a.setIfInBounds (off+j) c) a)=(a.toList.take off++vs.toList++a.toList.drop (off+vs.size)).toArray:=by
 have:=Xzs off vs.toList 0 a (by omega)
 grind[Array.toList_zipIdx]
theorem kz1 {b:Type}(a vs:List b)(off j:Nat)(h:off+vs.length≤a.length):
 (a.take off++vs++a.drop (off+vs.length))[j]?=if off≤j/\j<off+vs.length then vs[j-off]? else a[j]?:=by
 by_cases c:j<off
 all_goals grind
theorem Pzc {b:Type}(a vs:List b)(off:Nat)(h:off+vs.length≤a.length):(a.take off++vs++a.drop (off+vs.length)).length=a.length:=by
 grind
variable {P:Program} {o:Oper} {env:Operand->AVal} {m:Mem} {id:Nat}
section
variable {F:Cells} {w:World} {ρ:Env}
def LRel (F:Cells)(w:World)(ρ:Env)(b:List AVal)(vs:List Value):Prop:=
 b.length=vs.length/\∀ (j:Nat) (a:AVal) (v:Value),b[j]?=some a->vs[j]?=some v->ARel F w ρ a v
theorem LRel.over {d e:List AVal}{vs xs:List Value}(h:LRel F w ρ d vs)(i:LRel F w ρ e xs)(off:Nat)(g:off+e.length≤d.length):
 LRel F w ρ (d.take off++e++d.drop (off+e.length)) (vs.take off++xs++vs.drop (off+xs.length)):=by
 have l:=h.1
 have k:=i.1
 refine⟨by simp_all,fun j a v c b=>?_⟩
 rw[kz1 _ _ _ _ g]at c
 rw[kz1 _ _ _ _ (by omega),←k]at b
 split at c
 ·rename_i f;rw[if_pos f]at b;exact i.2 _ a v c b
 ·rename_i f;rw[if_neg f]at b;exact h.2 _ a v c b
theorem az2n {a:Act}(d:Nat->Option (Nat×Nat)):∀ (c:List (Nat×Operand)) (ps:List (Nat×List AVal)) (g e:List AVal) (vs:Array Value),
 LRel F w ρ g vs.toList->(∀x∈c,ARel F w ρ (env x.2) (a.eval x.2))->
 (All2 (fun (x:Nat×Operand) (y:Nat×List AVal)=>∃s,d x.1=some (y.1,s)/\y.2=(env x.2).cells/\y.2.length=s/\y.2.all (·.scalar)=true) c ps)->
 over g ps=some e->∃f:Array Value,Instr.fill d vs (c.map fun x=>(x.1,a.eval x.2))=some f/\LRel F w ρ e f.toList
 |[],_,g,e,vs,l,_,k,h=>by
  cases k
  grind[over,Instr.fill]
 |x::c,_,g,e,vs,l,q,k,h=>by
  cases k with
  |cons n k=>
   rename_i y ps
   obtain⟨s,K,B,I,t⟩:=n
   obtain⟨i,x⟩:=x
   obtain⟨off,G⟩:=y
   subst B
   simp only[over]at h
   split at h
   ·rename_i m
    have A:=q (i,x) (by simp)
    obtain⟨E,u⟩:=A.cells t
    have r:g.length=vs.size:=by simpa using l.1
    have o:LRel F w ρ (env x).cells (a.eval x).cells.toList:=⟨by omega,fun j b v C H=>(u j b v C (by simp_all)).1⟩
    have p:=l.over o off m
    obtain⟨f,D,L⟩:=az2n d c ps _ e ((vs.toList.take off++(a.eval x).cells.toList++vs.toList.drop (off+(a.eval x).cells.toList.length)).toArray) (by omega) (fun z J=>q z (by grind)) k h
    grind[Instr.fill,Xzq]
   grind
end
def Jzy (P:Program)(t:TypeId)(i:Nat):Option (Nat×Nat):=
 match P.underlying t with
 |some (.struct a)=>match a[i]? with
  |some f=>match bz9 P f.type with
   |some s=>some (f.offset,s)
   |none=>none
  |none=>none
 |some (.array _ e)=>match bz9 P e with
  |some s=>some (i * s,s)
  |none=>none
 |_=>none
theorem Ez1 {t:TypeId}:∀ (a:List (Nat×Operand)) (ps:List (Nat×List AVal)),qzu P t env a=some ps->
 All2 (fun (x:Nat×Operand) (y:Nat×List AVal)=>∃s,Jzy P t x.1=some (y.1,s)/\y.2=(env x.2).cells/\y.2.length=s/\y.2.all (·.scalar)=true) a ps
 |[],ps,h=>by simp[qzu]at h;subst h;exact .nil
 |(i,x)::a,ps,h=>by
  have e:qzu P t env ((i,x)::a)=match Jzy P t i,qzu P t env a with
   |some (off,s),some l=>if(env x).cells.length=s&&(env x).cells.all (·.scalar)then some ((off,(env x).cells)::l)else none
   |_,_=>none:=rfl
  rw[e]at h
  split at h
  ·rename_i off s l d c
   split at h
   ·rename_i b
    simp only[Bool.and_eq_true,decide_eq_true_eq]at b
    simp at h;subst h
    exact .cons ⟨s,d,rfl,b.1,b.2⟩ (Ez1 a l c)
   ·cases h
  ·cases h
theorem Tzo:∀ (a:List Field),(a.all fun f=>(bz9 P f.type).isSome)=true->∃b,a.mapM (fun (f:Field)=>(P.info? f.type).map fun i=>(f.offset,i.size))=some b/\
 ∀ (i:Nat),b[i]?=match a[i]? with|some f=>(match bz9 P f.type with|some s=>some (f.offset,s)|none=>none)|none=>none
 |[],_=>⟨[],by simp,by simp⟩
 |f::a,h=>by
  simp only[List.all_cons,Bool.and_eq_true]at h
  obtain⟨b,j,g⟩:=Tzo a h.2
  obtain⟨s,d⟩:=Option.isSome_iff_exists.1 h.1
  obtain⟨c,hi,e⟩:=izf d
  refine⟨(f.offset,s)::b,by simp_all,fun i=>?_⟩
  grind
theorem run_build' {w:World}{t:TypeId}{z:List Value}(o:ozl P t=some z)(d:az81 P t=true)(b:Array (Nat×Value))(a:Array Value)
 (h:Instr.fill (Jzy P t) z.toArray b.toList=some a):(Instr.build t b).run P w=.ok (.agg a) w:=by
 refine run_build w t b a ?_
 obtain⟨r,v,hi,c,q⟩:=nzh o
 have j:v.cells=z.toArray:=by grind
 unfold az81 at d
 split at d
 ·rename_i m f
  obtain⟨x,p,u⟩:=Tzo (P:=P) m.toList d
  simp only[Program.built,hi,f,c,p,j]
  rw[←h]
  congr 1
  grind[Jzy]
 ·rename_i n e f
  obtain⟨s,g⟩:=Option.isSome_iff_exists.1 d
  obtain⟨k,i,l⟩:=izf g
  simp only[Program.built,hi,f,c,i,j]
  rw[←h]
  congr 1
  grind[Jzy]
 simp_all
theorem Xze {F:Cells}{w:World}{ρ:Env}{Mine:Nat->Prop}{M:Mem}(m:MemOk F w ρ Mine M)(g:Good F w Mine)(d:Fresh id M)(a:Mem)
 (f:∀i r,a.get i=some r->r=.nilv/\Own id i):dz3 id ρ (ρ.clear id)/\MemOk F w (ρ.clear id) Mine (a++M):=by
 have c:dz3 id ρ (ρ.clear id):=fun i hi=>⟨rfl,if_neg hi⟩
 refine⟨c,MemOk.step m (Step.refl g) (fun i=>¬Own id i) c a (fun j r h _=>⟨fun e=>(by rw[d.none j e]at h;cases h),fun i hi=>d.has i j r (Classical.not_not.1 hi) h,fun b _=>⟨rfl,fun _ h=>h⟩⟩) (fun j r h=>?_) (fun j o r q b h p k n=>?_)⟩
 ·obtain⟨rfl,l⟩:=f j r h
  exact⟨if_pos l,fun b k=>by grind[Owns,oz0,bz4]⟩
 grind[Owns,oz0,bz4]
theorem azeh {t:TypeId}{c:Array (Nat×Operand)}{out:Out}(J:o.op=.build t c)(h:az0h P t id env c.toList=some out):Sound1 P o env m id out:=by
 unfold az0h at h
 split at h
 ·rename_i z ps G p
  split at h
  ·rename_i K l
   split at h
   ·rename_i u
    simp only[Bool.and_eq_true,decide_eq_true_eq]at u
    cases h
    intro F w ρ Mine M a A g D _ q B
    have e:∀x∈c.toList,x.2∈o.op.operands:=fun x n=>by
     grind[Op.operands]
    obtain⟨y,f⟩:=Xze A g D (zmem id z) (fun i r h=>by obtain⟨C,H,L⟩:=Wzw z id i r h;exact⟨C,H,by omega⟩)
    have E:=Czy (F:=F) (w:=w) (ρ:=ρ.clear id) z id (fun i s k=>if_pos ⟨s,by omega⟩)
    obtain⟨d,s,k⟩:=az2n (F:=F) (w:=w) (ρ:=ρ.clear id) (env:=env) (a:=a) (Jzy P t) c.toList ps (wze id z) K z.toArray ⟨by simp_all,by grind⟩
     (fun x n=>(B x.2 (e x n)).mono (fun i=>¬Own id i) (fun _ _ h=>h) (fun _ _ _=>rfl) y (fun i hi=>q x.2 (e x n) i (Classical.not_not.1 hi))) (Ez1 c.toList ps p) l
    refine⟨.agg d,w,F,ρ.clear id,.value ?_,Step.refl g,y,ARel.mkAgg (by simpa using k.1) (fun j b v I N=>k.2 j b v I (by simp_all)),f⟩
    have O:=run_build' (w:=w) G u.1 (c.map fun x=>(x.1,a.eval x.2)) d (by simp_all)
    simp only[execOp,J,Sem.run_bind]
    simp_all
   grind
  grind
 grind
theorem azhf (c:o.op=.assign (.const (.slice none 0 0))):Sound1 P o env m id ⟨.vec id,[],[(id,.nilv)],none⟩:=by
 intro F w ρ Mine M a j g f _ _ _
 obtain⟨d,b⟩:=Xze j g f [(id,.nilv)] (fun i r h=>by
  simp only[Mem.get]at h
  split at h
  ·rename_i e;subst e;cases h;exact⟨rfl,Nat.le_refl _,by omega⟩
  grind)
 exact⟨.slice none 0 0,w,F,ρ.clear id,.value (by simp[execOp,c,Act.eval]),Step.refl g,d,.vnil (if_pos ⟨Nat.le_refl _,by omega⟩),b⟩
end Go.Abs
