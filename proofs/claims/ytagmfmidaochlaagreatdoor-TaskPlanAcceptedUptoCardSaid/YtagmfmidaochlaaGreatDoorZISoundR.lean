import Derived.Test.YtagmfmidaochlaaGreatDoorZISoundP
open Go renaming Operand->zw
open Go.Op renaming operands->zL
namespace Go.Abs
variable {P:Program} {o:Oper} {env:zw->ac} {m:Mem} {id:Nat}{s:ByteArray}
theorem ahL{t:TypeId}{x:zw}(f:o.op=.range t x)(G:P.underlying t=some .string)(z:env x=.pure (.str s)):aq P o env m id ⟨.ptr id 0,[],[(id,.iter s 0)],none⟩:=by
 intro F w ρ Mine M a l g v _ B D;have C:=(z▸D x (by simp[f,zL])).pure_inv.str_inv;have n:Step Mine F w F (w.alloc (.stringIter s 0)):=by
  have s:=Step.alloc g (.stringIter s 0) (λ_=>False);simp_all
 let ρ':=ρ.setBlk id w.heap.size;have p:ρ'.blk id=w.heap.size:=qc rfl;have y:cA id ρ ρ':=λi I=>⟨qb (λh=>I ⟨qa,qa⟩),rfl⟩
 refine⟨.pointer (some ⟨w.heap.size,0,none⟩),w.alloc (.stringIter s 0),F,ρ',.inl ?_,n,y,?_,?_⟩;{simp_all[execOp,Instr.range,run_underlying]};{rw[<-p];exact .ptr};refine l.step n (λi=>¬Own id i) y [(id,.iter s 0)] (λj r d _=>⟨λf=>?_,λi I=>v.has i j r (Classical.not_not.1 I) d,λb c=>⟨heap_alloc_old w _ (l.mine j r b d c).2,λ_ h=>h⟩⟩) (λj r d=>?_) (λj H r u b d E _ _=>?_);{have:=v.none j f;simp_all}
 ·simp only[Mem.get]at d;split at d;{rename_i e;subst e;cases d;refine⟨⟨by grind[heap_alloc_new],λo f=>by exact absurd (g.lt _ _ f) qa⟩,λb c=>?_⟩;simp only[aE,cX,or_false,aX,p,Option.some.injEq]at c;subst c;exact⟨g.mine _ (Nat.le_refl _),jV,λq u A _ k=>absurd (l.mine q u _ A k).2 qa⟩};simp_all
 grind[Mem.get]
theorem adp{F:Cells}{w:World}{ρ:Env}{E:Nat->Prop}{M:Mem}{j f pos':Nat}(l:aG F w ρ E M)(g:bM F w E)
 (m:M.get j=some (.iter s f)) (A:w.heap[ρ.blk j]?=some (.stringIter s f)) (u:∀o,¬F (ρ.blk j) o):
 Step E F w F {w with heap:=w.heap.setIfInBounds (ρ.blk j) (.stringIter s pos')}/\aG F {w with heap:=w.heap.setIfInBounds (ρ.blk j) (.stringIter s pos')} ρ E ([(j,.iter s pos')]++M):=by
 obtain⟨v,x⟩:=MapKept.heap_set (o':=.stringIter s pos') A;have d:=l.mine j _ _ m (.inl rfl);have c:∀b o,F b o->({w with heap:=w.heap.setIfInBounds (ρ.blk j) (.stringIter s pos')}:World).cell? ⟨b,o,none⟩=w.cell? ⟨b,o,none⟩:=by
  grind[World.cell?]
 have q:Step E F w F {w with heap:=w.heap.setIfInBounds (ρ.blk j) (.stringIter s pos')}:=by
  refine⟨λ_ _ h=>h,c,λ_ _ h=>.inl h,λb o h=>by simpa using g.lt b o h,⟨rfl,rfl,rfl,jV,λk _ D=>?_⟩⟩;grind
 refine⟨q,l.step q (λ_=>True) (λ_ _=>⟨rfl,rfl⟩) [(j,.iter s pos')] (λi r H C=>⟨trivial,λ_ h=>absurd trivial h,λb a=>⟨?_,λ_ h=>h⟩⟩) (λi r H=>?_) (λi B r t b H y _ _=>?_)⟩
 ·refine x b (λe=>?_);have:=l.disj i j _ _ b H m a (by rw[e];exact .inl rfl);grind[Mem.get]
 ·simp only[Mem.get]at H;split at H
  ·rename_i e;subst e;cases H;refine⟨⟨v,u⟩,λb a=>?_⟩;simp only[aE,cX,or_false,aX,Option.some.injEq]at a;subst a;refine⟨d.1,jW,λk t n z p=>?_⟩;have:=l.disj k j _ _ _ n m p (.inl rfl);grind[Mem.get]
  simp_all
 grind[Mem.get]
theorem abR{x:zw}{j c:Nat}(A:o.op=.next x true)(t:env x=.ptr j 0)(q:m.get j=some (.iter s c))(G:c<s.size):
 aq P o env m id ⟨.tup [.tt,.pure (.int .i64 c),.pure (.int .i32 (Utf8.decode s c).1)],[j],[(j,.iter s (c+(Utf8.decode s c).2))],some (c<s.size)⟩:=by
 intro F w ρ Mine M a l g E k y r;have f:=t▸r x (by simp[A,zL]);generalize B:a.eval x=v at f;cases f with
 |ptr=>
  have p:=(k j jV).trans q;obtain⟨d,z⟩:=l.ok j _ p;obtain⟨u,h⟩:=adp (pos':=c+(Utf8.decode s c).2) l g p d z;refine⟨.tuple #[.bool true,goInt c,.int .i32 (Utf8.decode s c).1],_,F,ρ,.inl ?_,u,λ_ _=>⟨rfl,rfl⟩,.tup rfl (λi b v d e=>?_),h⟩
  ·have C:(getObj (ρ.blk j)).run P w=.ok (.stringIter s c) w:=by grind[getObj,Sem.run]
   have D:(setObj (ρ.blk j) (.stringIter s (c+(Utf8.decode s c).2))).run P w=.ok () {w with heap:=w.heap.setIfInBounds (ρ.blk j) (.stringIter s (c+(Utf8.decode s c).2))}:=by grind[setObj,Sem.run]
   simp_all[execOp,Instr.next]
  ·match i,d,e with
   |0,d,e=>simp at d e;subst d;subst e;exact .tt
   |1,d,e=>simp at d e;subst d;subst e;exact .pure .int
   |2,d,e=>simp at d e;subst d;subst e;exact .pure .int
   |n+3,d,_=>grind
theorem abS{x:zw}{j c:Nat}(t:o.op=.next x true)(r:env x=.ptr j 0)(l:m.get j=some (.iter s c))(z:¬c<s.size):
 aq P o env m id ⟨.tup [.ff],[j],[],some (¬c<s.size)⟩:=by
 refine aq.still λF w ρ A M a h g p=>?_
 have e:=r▸p x (by simp[t,zL]);generalize q:a.eval x=v at e;cases e with
 |ptr=>
  have k:=(g j jV).trans l;obtain⟨d,y⟩:=h.ok j _ k;refine⟨.tuple #[.bool false],.inl ?_,.tup rfl (λi b v d f=>?_)⟩
  ·have u:(getObj (ρ.blk j)).run P w=.ok (.stringIter s c) w:=by grind[getObj,Sem.run]
   grind[execOp,Instr.next,Sem.run_bind,Result.andThen_ok,Sem.run_pure]
  ·match i,d,f with
   |0,d,f=>simp at d f;subst d;subst f;exact .ff
   |n+1,d,_=>grind
end Go.Abs
