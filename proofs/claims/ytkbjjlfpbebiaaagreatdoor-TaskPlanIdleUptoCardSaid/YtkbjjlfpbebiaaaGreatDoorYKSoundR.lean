/-
  SoundR (a part of a claim: our own text).
-/
import Derived.Test.YtkbjjlfpbebiaaaGreatDoorYKSoundP
namespace Go.Abs
variable {P:Program} {o:Oper} {env:Operand->AVal} {m:Mem} {id:Nat}
theorem Uzb {t:TypeId}{x:Operand}{s:ByteArray}(ho:o.op=.range t x)(hu:P.underlying t=some .string)(hx:env x=.pure (.str s)):Sound1 P o env m id ⟨.ptr id 0,[],[(id,.iter s 0)],none⟩:=by
 intro F w ρ Mine M a hm g fr _ hfe ha
 have hxv:=(hx▸ha x (by simp[ho,Op.operands])).pure_inv.str_inv
 have st:Step Mine F w F (w.alloc (.stringIter s 0)):=by
  have s:=Step.alloc g (.stringIter s 0) (fun _=>False)
  exact⟨fun _ _ h=>h,s.cell,fun _ _ h=>.inl h,fun b o h=>by have:=g.lt b o h;simp;omega,s.keep⟩
 let ρ':=ρ.setBlk id w.heap.size
 have hb:ρ'.blk id=w.heap.size:=if_pos rfl
 have he:czm id ρ ρ':=fun i hi=>⟨if_neg (fun h=>hi ⟨by omega,by omega⟩),rfl⟩
 refine⟨.pointer (some ⟨w.heap.size,0,none⟩),w.alloc (.stringIter s 0),F,ρ',.inl ?_,st,he,?_,?_⟩
 ·simp only[execOp,ho,Instr.range,Sem.run_bind,hxv,run_underlying hu,Result.andThen_ok,Sem.run_pure,run_newObj]
  rfl
 ·rw[←hb];exact .ptr
 ·refine hm.step st (fun i=>¬Own id i) he [(id,.iter s 0)] (fun j r hj _=>⟨fun ho=>?_,fun i hi=>fr.has i j r (Classical.not_not.1 hi) hj,fun b hbb=>⟨heap_alloc_old w _ (hm.mine j r b hj hbb).2,fun _ h=>h⟩⟩) (fun j r hj=>?_) (fun j j' r r' b hj hj' _ _=>?_)
  ·have:=fr.none j ho;rw[hj]at this;cases this
  ·simp only[Mem.get]at hj
   split at hj
   ·rename_i e;subst e;cases hj
    refine⟨⟨by rw[hb];exact heap_alloc_new w _,fun o ho=>by rw[hb]at ho;exact absurd (g.lt _ _ ho) (by omega)⟩,fun b hbb=>?_⟩
    simp only[Owns,hzm,or_false,bzc,hb,Option.some.injEq]at hbb
    subst hbb
    exact⟨g.mine _ (Nat.le_refl _),by simp,fun q r' hq _ hbq=>absurd (hm.mine q r' _ hq hbq).2 (by omega)⟩
   ·cases hj
  ·simp only[Mem.get]at hj hj'
   split at hj
   ·split at hj'
    ·omega
    ·cases hj'
   ·cases hj
theorem Ozk {F:Cells}{w:World}{ρ:Env}{Mine:Nat->Prop}{M:Mem}{j:Nat}{s:ByteArray}{pos pos':Nat}(hm:MemOk F w ρ Mine M)(g:Good F w Mine)
 (hM:M.get j=some (.iter s pos)) (hb:w.heap[ρ.blk j]?=some (.stringIter s pos)) (hF:∀o,¬F (ρ.blk j) o):
 Step Mine F w F {w with heap:=w.heap.setIfInBounds (ρ.blk j) (.stringIter s pos')}/\MemOk F {w with heap:=w.heap.setIfInBounds (ρ.blk j) (.stringIter s pos')} ρ Mine ([(j,.iter s pos')]++M):=by
 obtain⟨h1,h2⟩:=MapKept.heap_set (o':=.stringIter s pos') hb
 have hmine:=hm.mine j _ _ hM (.inl rfl)
 have hcell:∀b o,F b o->({w with heap:=w.heap.setIfInBounds (ρ.blk j) (.stringIter s pos')}:World).cell? ⟨b,o,none⟩=w.cell? ⟨b,o,none⟩:=by
  intro b o hbo
  have hne:b≠ρ.blk j:=fun e=>hF o (e▸hbo)
  simp only[World.cell?]
  rw[h2 b hne]
 have st:Step Mine F w F {w with heap:=w.heap.setIfInBounds (ρ.blk j) (.stringIter s pos')}:=by
  refine⟨fun _ _ h=>h,hcell,fun _ _ h=>.inl h,fun b o h=>by simpa using g.lt b o h,⟨rfl,rfl,rfl,by simp,fun k _ hk=>?_⟩⟩
  exact h2 k (fun e=>hk (e▸hmine.1))
 refine⟨st,hm.step st (fun _=>True) (fun _ _=>⟨rfl,rfl⟩) [(j,.iter s pos')] (fun i r hi hw=>⟨trivial,fun _ h=>absurd trivial h,fun b hbb=>⟨?_,fun _ h=>h⟩⟩) (fun i r hi=>?_) (fun i i' r r' b hi hi' _ _=>?_)⟩
 ·refine h2 b (fun e=>?_)
  have:=hm.disj i j _ _ b hi hM hbb (by rw[e];exact .inl rfl)
  subst this
  simp[Mem.get]at hw
 ·simp only[Mem.get]at hi
  split at hi
  ·rename_i e;subst e;cases hi
   refine⟨⟨h1,hF⟩,fun b hbb=>?_⟩
   simp only[Owns,hzm,or_false,bzc,Option.some.injEq]at hbb
   subst hbb
   refine⟨hmine.1,by simpa using hmine.2,fun k r' hk' hw' hbk=>?_⟩
   have:=hm.disj k j _ _ _ hk' hM hbk (.inl rfl)
   subst this
   simp[Mem.get]at hw'
  ·cases hi
 ·simp only[Mem.get]at hi hi'
  split at hi
  ·split at hi'
   ·omega
   ·cases hi'
  ·cases hi
theorem Lzs {x:Operand}{j:Nat}{s:ByteArray}{pos:Nat}(ho:o.op=.next x true)(hx:env x=.ptr j 0)(hj:m.get j=some (.iter s pos))(hp:pos<s.size):
 Sound1 P o env m id ⟨.tup [.tt,.pure (.int .i64 pos),.pure (.int .i32 (Utf8.decode s pos).1)],[j],[(j,.iter s (pos+(Utf8.decode s pos).2))],some (pos<s.size)⟩:=by
 intro F w ρ Mine M a hm g fr hrd hfe ha
 have hxv:=hx▸ha x (by simp[ho,Op.operands])
 generalize hev:a.eval x=v at hxv
 cases hxv with
 |ptr=>
  have hM:=(hrd j (by simp)).trans hj
  obtain⟨hb,hF⟩:=hm.ok j _ hM
  obtain⟨st,hm'⟩:=Ozk (pos':=pos+(Utf8.decode s pos).2) hm g hM hb hF
  refine⟨.tuple #[.bool true,goInt pos,.int .i32 (Utf8.decode s pos).1],_,F,ρ,.inl ?_,st,fun _ _=>⟨rfl,rfl⟩,.tup rfl (fun i b v hb hv=>?_),hm'⟩
  ·have e1:(getObj (ρ.blk j)).run P w=.ok (.stringIter s pos) w:=by simp[getObj,Sem.run,hb]
   have e2:(setObj (ρ.blk j) (.stringIter s (pos+(Utf8.decode s pos).2))).run P w=.ok () {w with heap:=w.heap.setIfInBounds (ρ.blk j) (.stringIter s (pos+(Utf8.decode s pos).2))}:=by simp[setObj,Sem.run,hb]
   simp only[execOp,ho,Instr.next,hev,Sem.run_bind,e1,Result.andThen_ok,hp,if_true,e2,Sem.run_pure]
  ·match i,hb,hv with
   |0,hb,hv=>simp at hb hv;subst hb;subst hv;exact .tt
   |1,hb,hv=>simp at hb hv;subst hb;subst hv;exact .pure .int
   |2,hb,hv=>simp at hb hv;subst hb;subst hv;exact .pure .int
   |n+3,hb,_=>simp at hb
theorem Lzt {x:Operand}{j:Nat}{s:ByteArray}{pos:Nat}(ho:o.op=.next x true)(hx:env x=.ptr j 0)(hj:m.get j=some (.iter s pos))(hp:¬pos<s.size):
 Sound1 P o env m id ⟨.tup [.ff],[j],[],some (¬pos<s.size)⟩:=by
 refine Sound1.still fun F w ρ Mine M a hm hrd ha=>?_
 have hxv:=hx▸ha x (by simp[ho,Op.operands])
 generalize hev:a.eval x=v at hxv
 cases hxv with
 |ptr=>
  have hM:=(hrd j (by simp)).trans hj
  obtain⟨hb,hF⟩:=hm.ok j _ hM
  refine⟨.tuple #[.bool false],.inl ?_,.tup rfl (fun i b v hb hv=>?_)⟩
  ·have e1:(getObj (ρ.blk j)).run P w=.ok (.stringIter s pos) w:=by simp[getObj,Sem.run,hb]
   simp only[execOp,ho,Instr.next,hev,Sem.run_bind,e1,Result.andThen_ok,hp,if_false,Sem.run_pure]
  ·match i,hb,hv with
   |0,hb,hv=>simp at hb hv;subst hb;subst hv;exact .ff
   |n+1,hb,_=>simp at hb
end Go.Abs
