import Derived.Test.YtjonhijmljhjlaaGreatYJSoundP
open Go renaming Operand->zI
open Go.Op renaming operands->zV
open Go.Result renaming andThen_ok->zL
open Go.Sem renaming run_bind->zM,run_pure->zN
namespace Go.Abs
variable {P:Program} {o:Oper} {env:zI->AVal} {m:Mem} {id:Nat}
theorem az9o {t:TypeId}{x:zI}{s:ByteArray}(ho:o.op=.range t x)(hu:P.underlying t=some .string)(hx:env x=.pure (.str s)):Sound1 P o env m id ⟨.ptr id 0,[],[(id,.iter s 0)],none⟩:=by
 intro F w ρ Mine M a hm g fr _ hfe ha;have hxv:=(hx▸ha x (by simp[ho,zV])).pure_inv.str_inv;have st:Step Mine F w F (w.alloc (.stringIter s 0)):=by
  have s:=Step.alloc g (.stringIter s 0) (λ_=>False);exact⟨λ_ _ h=>h,s.cell,λ_ _ h=>.inl h,λb o h=>by have:=g.lt b o h;simp;omega,s.keep⟩
 let ρ':=ρ.setBlk id w.heap.size;have hb:ρ'.blk id=w.heap.size:=qc rfl;have he:dzr id ρ ρ':=λi hi=>⟨qb (λh=>hi ⟨qa,qa⟩),rfl⟩
 refine⟨.pointer (some ⟨w.heap.size,0,none⟩),w.alloc (.stringIter s 0),F,ρ',.inl ?_,st,he,?_,?_⟩
 ·simp only[execOp,ho,Instr.range,zM,hxv,run_underlying hu,zL,zN,run_newObj];rfl
 ·rw[<-hb];exact .ptr
 ·refine hm.step st (λi=>¬Own id i) he [(id,.iter s 0)] (λj r hj _=>⟨λho=>?_,λi hi=>fr.has i j r (Classical.not_not.1 hi) hj,λb hbb=>⟨heap_alloc_old w _ (hm.mine j r b hj hbb).2,λ_ h=>h⟩⟩) (λj r hj=>?_) (λj j' r r' b hj hj' _ _=>?_)
  ·have:=fr.none j ho;rw[hj]at this;cases this
  ·simp only[Mem.get]at hj;split at hj
   ·rename_i e;subst e;cases hj;refine⟨⟨by rw[hb];exact heap_alloc_new w _,λo ho=>by rw[hb]at ho;exact absurd (g.lt _ _ ho) qa⟩,λb hbb=>?_⟩;simp only[Owns,nzl,or_false,bzg,hb,Option.some.injEq]at hbb;subst hbb;exact⟨g.mine _ (Nat.le_refl _),by simp,λq r' hq _ hbq=>absurd (hm.mine q r' _ hq hbq).2 qa⟩
   ·cases hj
  ·simp only[Mem.get]at hj hj';split at hj
   ·split at hj'
    ·omega
    ·cases hj'
   ·cases hj
theorem az1h {F:Cells}{w:World}{ρ:Env}{Mine:Nat->Prop}{M:Mem}{j:Nat}{s:ByteArray}{pos pos':Nat}(hm:MemOk F w ρ Mine M)(g:Good F w Mine)
 (hM:M.get j=some (.iter s pos)) (hb:w.heap[ρ.blk j]?=some (.stringIter s pos)) (hF:∀o,¬F (ρ.blk j) o):
 Step Mine F w F {w with heap:=w.heap.setIfInBounds (ρ.blk j) (.stringIter s pos')}/\MemOk F {w with heap:=w.heap.setIfInBounds (ρ.blk j) (.stringIter s pos')} ρ Mine ([(j,.iter s pos')]++M):=by
 obtain⟨h1,h2⟩:=MapKept.heap_set (o':=.stringIter s pos') hb;have hmine:=hm.mine j _ _ hM (.inl rfl);have hcell:∀b o,F b o->({w with heap:=w.heap.setIfInBounds (ρ.blk j) (.stringIter s pos')}:World).cell? ⟨b,o,none⟩=w.cell? ⟨b,o,none⟩:=by
  intro b o hbo;have hne:b≠ρ.blk j:=λe=>hF o (e▸hbo)
  simp only[World.cell?];rw[h2 b hne]
 have st:Step Mine F w F {w with heap:=w.heap.setIfInBounds (ρ.blk j) (.stringIter s pos')}:=by
  refine⟨λ_ _ h=>h,hcell,λ_ _ h=>.inl h,λb o h=>by simpa using g.lt b o h,⟨rfl,rfl,rfl,by simp,λk _ hk=>?_⟩⟩;exact h2 k (λe=>hk (e▸hmine.1))
 refine⟨st,hm.step st (λ_=>True) (λ_ _=>⟨rfl,rfl⟩) [(j,.iter s pos')] (λi r hi hw=>⟨trivial,λ_ h=>absurd trivial h,λb hbb=>⟨?_,λ_ h=>h⟩⟩) (λi r hi=>?_) (λi i' r r' b hi hi' _ _=>?_)⟩
 ·refine h2 b (λe=>?_);have:=hm.disj i j _ _ b hi hM hbb (by rw[e];exact .inl rfl);subst this;simp[Mem.get]at hw
 ·simp only[Mem.get]at hi;split at hi
  ·rename_i e;subst e;cases hi;refine⟨⟨h1,hF⟩,λb hbb=>?_⟩;simp only[Owns,nzl,or_false,bzg,Option.some.injEq]at hbb;subst hbb;refine⟨hmine.1,by simpa using hmine.2,λk r' hk' hw' hbk=>?_⟩;have:=hm.disj k j _ _ _ hk' hM hbk (.inl rfl);subst this;simp[Mem.get]at hw'
  ·cases hi
 ·simp only[Mem.get]at hi hi';split at hi
  ·split at hi'
   ·omega
   ·cases hi'
  ·cases hi
theorem Wzs {x:zI}{j:Nat}{s:ByteArray}{pos:Nat}(ho:o.op=.next x true)(hx:env x=.ptr j 0)(hj:m.get j=some (.iter s pos))(hp:pos<s.size):
 Sound1 P o env m id ⟨.tup [.tt,.pure (.int .i64 pos),.pure (.int .i32 (Utf8.decode s pos).1)],[j],[(j,.iter s (pos+(Utf8.decode s pos).2))],some (pos<s.size)⟩:=by
 intro F w ρ Mine M a hm g fr hrd hfe ha;have hxv:=hx▸ha x (by simp[ho,zV]);generalize hev:a.eval x=v at hxv;cases hxv with
 |ptr=>
  have hM:=(hrd j (by simp)).trans hj;obtain⟨hb,hF⟩:=hm.ok j _ hM;obtain⟨st,hm'⟩:=az1h (pos':=pos+(Utf8.decode s pos).2) hm g hM hb hF;refine⟨.tuple #[.bool true,goInt pos,.int .i32 (Utf8.decode s pos).1],_,F,ρ,.inl ?_,st,λ_ _=>⟨rfl,rfl⟩,.tup rfl (λi b v hb hv=>?_),hm'⟩
  ·have e1:(getObj (ρ.blk j)).run P w=.ok (.stringIter s pos) w:=by simp[getObj,Sem.run,hb]
   have e2:(setObj (ρ.blk j) (.stringIter s (pos+(Utf8.decode s pos).2))).run P w=.ok () {w with heap:=w.heap.setIfInBounds (ρ.blk j) (.stringIter s (pos+(Utf8.decode s pos).2))}:=by simp[setObj,Sem.run,hb]
   simp only[execOp,ho,Instr.next,hev,zM,e1,zL,hp,if_true,e2,zN]
  ·match i,hb,hv with
   |0,hb,hv=>simp at hb hv;subst hb;subst hv;exact .tt
   |1,hb,hv=>simp at hb hv;subst hb;subst hv;exact .pure .int
   |2,hb,hv=>simp at hb hv;subst hb;subst hv;exact .pure .int
   |n+3,hb,_=>simp at hb
theorem Wzt {x:zI}{j:Nat}{s:ByteArray}{pos:Nat}(ho:o.op=.next x true)(hx:env x=.ptr j 0)(hj:m.get j=some (.iter s pos))(hp:¬pos<s.size):
 Sound1 P o env m id ⟨.tup [.ff],[j],[],some (¬pos<s.size)⟩:=by
 refine Sound1.still λF w ρ Mine M a hm hrd ha=>?_
 have hxv:=hx▸ha x (by simp[ho,zV]);generalize hev:a.eval x=v at hxv;cases hxv with
 |ptr=>
  have hM:=(hrd j (by simp)).trans hj;obtain⟨hb,hF⟩:=hm.ok j _ hM;refine⟨.tuple #[.bool false],.inl ?_,.tup rfl (λi b v hb hv=>?_)⟩
  ·have e1:(getObj (ρ.blk j)).run P w=.ok (.stringIter s pos) w:=by simp[getObj,Sem.run,hb]
   simp only[execOp,ho,Instr.next,hev,zM,e1,zL,hp,if_false,zN]
  ·match i,hb,hv with
   |0,hb,hv=>simp at hb hv;subst hb;subst hv;exact .ff
   |n+1,hb,_=>simp at hb
end Go.Abs
