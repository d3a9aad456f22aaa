/-
  SoundM (a part of a claim: our own text).
-/
import Derived.Test.YtkbjjlfpbebiaaaGreatDoorYKVc
namespace Go.Abs
def Does (P:Program)(o:Oper)(a:Act)(w:World)(R:Value->World->Prop):Prop:=
 ∀ (next:Act->World->Prop) (Q:Exit->Act->World->Prop),(∀v w',R v w'->next (a.put o.dst v) w')->o.wpIn Fence.wide 0 P a w next Q
theorem xzl {P:Program}{o:Oper}{a:Act}{w:World}{next:Act->World->Prop}{Q:Exit->Act->World->Prop}(h:o.wp P a w next Q):o.wpIn Fence.wide 0 P a w next Q:=by
 refine⟨fun _ _=>trivial,?_⟩
 unfold Oper.wp at h
 show o.uponIn Fence.wide 0 P a next Q ((execOp a.eval o).run P w)
 generalize (execOp a.eval o).run P w=r at h⊢
 cases r with
 |ok x w'=>
  cases x with
  |value v=>exact h
  |skip=>exact h
  |«defer» d=>exact h
  |enter f args=>exact⟨(fun h=>by cases h),callsIn_wide.2 h⟩
  |row r args=>
   refine⟨(fun h=>by cases h),fun c cs _=>?_⟩
   obtain⟨v,w'',r,s⟩:=h c cs
   exact⟨v,w'',r,stepsIn_wide.2 s⟩
  |_=>exact h.elim
 |halt x w'=>cases x<;>first|exact h|exact h.elim
def Sound2 (P:Program)(o:Oper)(env:Operand->AVal)(m:Mem)(id:Nat)(out:Out):Prop:=
 ∀ (F:Cells) (w:World) (ρ:Env) (Mine:Nat->Prop) (M:Mem) (a:Act),
   MemOk F w ρ Mine M->Good F w Mine->Fresh id M->(∀i∈out.rd,M.get i=m.get i)->
   (∀x∈o.op.operands,∀i,Own id i->(env x).has i=false)->
   (∀x∈o.op.operands,ARel F w ρ (env x) (a.eval x))->
   Does P o a w fun v w'=>∃F' ρ',Step Mine F w F' w'/\czm id ρ ρ'/\ARel F' w' ρ' out.val v/\MemOk F' w' ρ' Mine (out.wr++M)
theorem Sound1.to2 {P:Program}{o:Oper}{env:Operand->AVal}{m:Mem}{id:Nat}{out:Out}(h:Sound1 P o env m id out):Sound2 P o env m id out:=by
 intro F w ρ Mine M a h1 h2 h3 h4 h5 h6 next Q hn
 obtain⟨v,w',F',ρ',hr,hrest⟩:=h F w ρ Mine M a h1 h2 h3 h4 h5 h6
 refine xzl ?_
 unfold Oper.wp
 rcases hr with hr|⟨hr,rfl⟩
 ·rw[hr];exact hn v w' ⟨F',ρ',hrest⟩
 ·rw[hr];exact hn undef w' ⟨F',ρ',hrest⟩
theorem iz0 (τ:Nat->Nat):∀ (l:List AVal) (j:Nat),(AVal.renL τ l)[j]?=(l[j]?).map (AVal.ren τ)
 |[],j=>by simp[AVal.renL]
 |a::l,0=>by simp[AVal.renL]
 |a::l,j+1=>by simpa[AVal.renL]using iz0 τ l j
theorem dzl (τ:Nat->Nat):∀ (l:List AVal),(AVal.renL τ l).length=l.length
 |[]=>rfl
 |_::l=>by simp[AVal.renL,dzl τ l]
def Env.pull (ρ:Env)(τ:Nat->Nat):Env:=⟨fun i=>ρ.blk (τ i),fun i=>ρ.vec (τ i)⟩
theorem ARel.ren {F:Cells}{w:World}{ρ ρ':Env}{τ:Nat->Nat}(hρ:∀i,ρ'.blk (τ i)=ρ.blk i/\ρ'.vec (τ i)=ρ.vec i){a:AVal}{v:Value}(h:ARel F w ρ a v):ARel F w ρ' (a.ren τ) v:=by
 have lift:∀ {cs:List AVal} {vs:Array Value},(∀ (j:Nat) (a:AVal) (v:Value),cs[j]?=some a->vs[j]?=some v->ARel F w ρ' (a.ren τ) v)->
  ∀ (j:Nat) (a:AVal) (v:Value),(AVal.renL τ cs)[j]?=some a->vs[j]?=some v->ARel F w ρ' a v:=by
  intro cs vs h j a v ha hv
  rw[iz0,Option.map_eq_some_iff]at ha
  obtain⟨b,hb,rfl⟩:=ha
  exact h j b v hb hv
 induction h with
 |any=>exact .any
 |pure h=>exact .pure h
 |tt=>exact .tt
 |ff=>exact .ff
 |agg hl _ ih=>exact .agg (by rw[dzl];exact hl) (lift ih)
 |tup hl _ ih=>exact .tup (by rw[dzl];exact hl) (lift ih)
 |vnil h=>exact .vnil (by rw[(hρ _).2];exact h)
 |vec h=>exact .vec (by rw[(hρ _).2];exact h)
 |ptr=>rw[←(hρ _).1];exact .ptr
 |eptr h=>exact .eptr (by rw[(hρ _).2];exact h)
 |ref h=>exact .ref h
 |func h1 _ h2 _ ih1 ih2=>exact .func (by rw[dzl];exact h1) (lift ih1) (by rw[dzl];exact h2) (lift ih2)
 |map=>rw[←(hρ _).1];exact .map
 |bsl=>rw[←(hρ _).1];exact .bsl
 |view h h1 h2=>exact .view (by rw[(hρ _).2];exact h) h1 h2
 |viewN h h1=>exact .viewN (by rw[(hρ _).2];exact h) h1
 |iface _ ih=>exact .iface ih
 |anyb=>exact .anyb
 |nilp=>exact .nilp
 |clip h=>exact .clip h
 |yld=>exact .yld
theorem ARel.unren {F:Cells}{w:World}{ρ:Env}{τ:Nat->Nat}:∀ (a:AVal) (v:Value),ARel F w ρ (a.ren τ) v->ARel F w (ρ.pull τ) a v
 | .any,v,_=>.any
 | .pure p,v,h=>by simp only[AVal.ren]at h;cases h with|pure h=>exact .pure h
 | .tt,v,h=>by simp only[AVal.ren]at h;cases h;exact .tt
 | .ff,v,h=>by simp only[AVal.ren]at h;cases h;exact .ff
 | .agg cs,v,h=>by
   simp only[AVal.ren]at h
   cases h with
   |agg hl h=>
    rw[dzl]at hl
    exact .agg hl fun j a v ha hv=>
     have:SizeOf.sizeOf a<1+SizeOf.sizeOf cs:=by have:=List.sizeOf_lt_of_mem (List.mem_of_getElem? ha);omega
     ARel.unren a v (h j _ v (by rw[iz0,ha];rfl) hv)
 | .tup cs,v,h=>by
   simp only[AVal.ren]at h
   cases h with
   |tup hl h=>
    rw[dzl]at hl
    exact .tup hl fun j a v ha hv=>
     have:SizeOf.sizeOf a<1+SizeOf.sizeOf cs:=by have:=List.sizeOf_lt_of_mem (List.mem_of_getElem? ha);omega
     ARel.unren a v (h j _ v (by rw[iz0,ha];rfl) hv)
 | .vec i,v,h=>by
   simp only[AVal.ren]at h
   cases h with
   |vnil h=>exact .vnil h
   |vec h=>exact .vec h
 | .ptr i o,v,h=>by simp only[AVal.ren]at h;cases h;exact .ptr (ρ:=ρ.pull τ)
 | .eptr i a b c,v,h=>by simp only[AVal.ren]at h;cases h with|eptr h=>exact .eptr (ρ:=ρ.pull τ) h
 | .ref p,v,h=>by simp only[AVal.ren]at h;cases h with|ref h=>exact .ref h
 | .func f x y,v,h=>by
   simp only[AVal.ren]at h
   cases h with
   |func h1 h1' h2 h2'=>
    rw[dzl]at h1 h2
    exact .func h1 (fun j a v ha hv=>
     have:SizeOf.sizeOf a<1+SizeOf.sizeOf f+SizeOf.sizeOf x+SizeOf.sizeOf y:=by have:=List.sizeOf_lt_of_mem (List.mem_of_getElem? ha);omega
     ARel.unren a v (h1' j _ v (by rw[iz0,ha];rfl) hv)) h2 (fun j a v ha hv=>
     have:SizeOf.sizeOf a<1+SizeOf.sizeOf f+SizeOf.sizeOf x+SizeOf.sizeOf y:=by have:=List.sizeOf_lt_of_mem (List.mem_of_getElem? ha);omega
     ARel.unren a v (h2' j _ v (by rw[iz0,ha];rfl) hv))
 | .map i,v,h=>by simp only[AVal.ren]at h;cases h;exact .map (ρ:=ρ.pull τ)
 | .bsl i n,v,h=>by simp only[AVal.ren]at h;cases h;exact .bsl (ρ:=ρ.pull τ)
 | .view i a b c,v,h=>by
   simp only[AVal.ren]at h
   cases h with
   |view h h1 h2=>exact .view (ρ:=ρ.pull τ) h h1 h2
   |viewN h h1=>exact .viewN (ρ:=ρ.pull τ) h h1
 | .anyb,v,h=>by simp only[AVal.ren]at h;cases h;exact .anyb
 | .nilp,v,h=>by simp only[AVal.ren]at h;cases h;exact .nilp
 | .clip p,v,h=>by simp only[AVal.ren]at h;cases h with|clip h=>exact .clip h
 | .yld _,v,h=>by simp only[AVal.ren]at h;cases h;exact .yld
 | .iface t a,v,h=>by simp only[AVal.ren]at h;cases h with|iface h=>exact .iface (ARel.unren a _ h)
termination_by a=>SizeOf.sizeOf a
theorem Cz0 (σ:Nat->Nat)(hs:List (Nat×Nat))(i:Nat):jzx (hs.map fun x=>(x.1,σ x.2)) i=jzx hs i:=by
 simp[jzx,List.any_map,Function.comp_def]
theorem oz7 {c:Array Value}{sz n off k i b:Nat}(σ:Nat->Nat)(hs:List (Nat×Nat)):InnU c sz n off k (hs.map fun x=>(x.1,σ x.2)) i b↔InnU c sz n off k hs i b:=by
 simp only[InnU,Cz0]
theorem UOk.ren {F:Cells}{w:World}{ρ ρ':Env}{τ:Nat->Nat}(hρ:∀i,ρ'.vec (τ i)=ρ.vec i){c:Array Value}{sz n k off s':Nat}{f:Nat->PVal}{e':TypeId}{hs:List (Nat×Nat)}:
 UOk F w ρ' c sz n f k off s' e' (hs.map fun x=>(x.1,τ x.2))↔UOk F w ρ c sz n f k off s' e' hs:=by
 constructor
 ·intro h
  refine⟨h.len,h.cell,fun i p hi ho hp=>h.own i p hi (by rw[Cz0];exact ho) hp,fun x hx=>?_,?_,fun i i' b h1 h2=>h.inj i i' b ((oz7 τ hs).2 h1) ((oz7 τ hs).2 h2)⟩
  ·obtain⟨h1,h2⟩:=h.hole (x.1,τ x.2) (List.mem_map.2 ⟨x,hx,rfl⟩)
   rw[hρ]at h2;exact⟨h1,h2⟩
  ·have:=h.nodup;simpa[List.map_map,Function.comp_def]using this
 ·intro h
  refine⟨h.len,h.cell,fun i p hi ho hp=>h.own i p hi (by rw[Cz0]at ho;exact ho) hp,fun y hy=>?_,?_,fun i i' b h1 h2=>h.inj i i' b ((oz7 τ hs).1 h1) ((oz7 τ hs).1 h2)⟩
  ·obtain⟨x,hx,rfl⟩:=List.mem_map.1 hy
   obtain⟨h1,h2⟩:=h.hole x hx
   exact⟨h1,by rw[hρ];exact h2⟩
  ·simpa[List.map_map,Function.comp_def]using h.nodup
theorem ResOk.ren {F:Cells}{w:World}{ρ ρ':Env}{τ:Nat->Nat}(hρ:∀i,ρ'.blk (τ i)=ρ.blk i/\ρ'.vec (τ i)=ρ.vec i){i:Nat}{r:Res}(h:ResOk F w ρ i r):ResOk F w ρ' (τ i) (r.ren τ):=by
 obtain⟨hb,hv⟩:=hρ i
 cases r with
 |gone=>trivial
 |nilv=>show ρ'.vec (τ i)=none;rw[hv];exact h
 |box cs=>
  obtain⟨c,e,h1,h2,h3,h4⟩:=h
  refine⟨c,e,by rw[hb];exact h1,by rw[dzl];exact h2,by rw[hb];exact h3,fun j a v ha hv=>?_⟩
  rw[iz0,Option.map_eq_some_iff]at ha
  obtain⟨b,hb',rfl⟩:=ha
  exact⟨(h4 j b v hb' hv).1.ren hρ,(h4 j b v hb' hv).2⟩
 |vec sz n f k e=>
  refine⟨h.1,?_⟩
  rw[hv]
  exact h.2
 |map tm dom val=>
  obtain⟨es,clock,h1,h2,h3⟩:=h
  exact⟨es,clock,by rw[hb];exact h1,by rw[hb];exact h2,h3⟩
 |iter s pos=>exact⟨by rw[hb];exact h.1,by rw[hb];exact h.2⟩
 |tok τ p=>exact h
 |dat sz n f=>show PRel F w (.lst sz n f) (ez4 (ρ'.vec (τ i)));rw[hv];exact h
 |vecT sz n f e e' hh=>
  obtain⟨b,cap,c,h1,h2⟩:=h
  exact⟨b,cap,c,by rw[hv];exact h1,h2⟩
 |vecX sz n f e hh off k=>
  obtain⟨h0,b,cap,c,h1,h2⟩:=h
  refine⟨by rw[hv];exact h0,b,cap,c,by rw[hv];exact h1,?_⟩
  rw[(hρ k).2];exact h2
 |vecU sz n f k e off s' e' hs=>
  obtain⟨h0,hk,h⟩:=h
  refine⟨h0,hk,?_⟩
  rcases h with⟨h1,h2,h3⟩|⟨b,cap,c,h1,h2,h3,h4,h5,h6,h7,h8⟩
  ·exact .inl ⟨by rw[hv];exact h1,h2,by rw[h3];rfl⟩
  ·exact .inr ⟨b,cap,c,by rw[hv];exact h1,h2,h3,h4,h5,h6,(UOk.ren fun i=>(hρ i).2).2 h7,fun i hi=>h8 i ((oz7 τ hs).1 hi)⟩
theorem ResOk.unren {F:Cells}{w:World}{ρ:Env}{τ:Nat->Nat}{i:Nat}{r:Res}(h:ResOk F w ρ (τ i) (r.ren τ)):ResOk F w (ρ.pull τ) i r:=by
 cases r with
 |gone=>trivial
 |nilv=>exact h
 |box cs=>
  obtain⟨c,e,h1,h2,h3,h4⟩:=h
  rw[dzl]at h2
  exact⟨c,e,h1,h2,h3,fun j a v ha hv=>⟨ARel.unren a v (h4 j _ v (by rw[iz0,ha];rfl) hv).1,(h4 j _ v (by rw[iz0,ha];rfl) hv).2⟩⟩
 |vec sz n f k e=>exact h
 |vecT sz n f e e' hh=>exact h
 |vecX sz n f e hh off k=>exact h
 |vecU sz n f k e off s' e' hs=>
  obtain⟨h0,hk,h⟩:=h
  refine⟨h0,hk,?_⟩
  rcases h with⟨h1,h2,h3⟩|⟨b,cap,c,h1,h2,h3,h4,h5,h6,h7,h8⟩
  ·exact .inl ⟨h1,h2,by simpa using h3⟩
  ·exact .inr ⟨b,cap,c,h1,h2,h3,h4,h5,h6,(UOk.ren (ρ:=ρ.pull τ) (ρ':=ρ) (τ:=τ) fun i=>rfl).1 h7,fun i hi=>h8 i ((oz7 τ hs).2 hi)⟩
 |map tm dom val=>exact h
 |iter s pos=>exact h
 |tok τ p=>exact h
 |dat sz n f=>exact h
theorem kzd {w:World}{ρ ρ':Env}{τ:Nat->Nat}{i b:Nat}{r:Res}(hρ:ρ'.blk (τ i)=ρ.blk i/\ρ'.vec (τ i)=ρ.vec i):Owns w ρ' (τ i) (r.ren τ) b↔Owns w ρ i r b:=by
 cases r<;>simp[Owns,hzm,bzc,Res.ren,hρ.1,hρ.2,oz7]
theorem wzz {τ:Nat->Nat}:∀ {m:Mem} {j:Nat} {r':Res},(Mem.ren τ m).get j=some r'->∃i r,(i,r)∈m/\j=τ i/\r'=r.ren τ
 |[],j,r',h=>by simp[Mem.ren,Mem.get]at h
 |(i,r)::m,j,r',h=>by
  simp only[Mem.ren,Mem.get]at h
  split at h
  ·cases h;rename_i e;exact⟨i,r,by simp,e.symm,rfl⟩
  ·obtain⟨i',r2,h1,h2,h3⟩:=wzz h;exact⟨i',r2,by simp[h1],h2,h3⟩
theorem Hzk {τ:Nat->Nat}:∀ {m:Mem} (_:∀x∈m,∀j,τ x.1=τ j->(∃y∈m,y.1=j)->x.1=j) (i:Nat),(∃x∈m,x.1=i)->(Mem.ren τ m).get (τ i)=(m.get i).map (Res.ren τ)
 |[],_,i,⟨x,hx,_⟩=>by simp at hx
 |(k,r)::m,hinj,i,hi=>by
  simp only[Mem.ren,Mem.get]
  by_cases hk:k=i
  ·subst hk;simp
  ·have hne:¬τ k=τ i:=fun e=>hk (hinj (k,r) (by simp) i e hi)
   rw[if_neg hne,if_neg hk]
   refine Hzk (fun x hx j hj hy=>?_) i ?_
   ·obtain⟨y,hy,rfl⟩:=hy
    exact hinj x (by simp[hx]) y.1 hj ⟨y,by simp[hy],rfl⟩
   ·obtain⟨x,hx,rfl⟩:=hi
    simp only[List.mem_cons]at hx
    rcases hx with rfl|hx
    ·exact absurd rfl hk
    ·exact⟨x,hx,rfl⟩
theorem fz4 {m:Mem}{i:Nat}{r:Res}(h:m.get i=some r):(i,r)∈m:=by
 induction m with
 |nil=>simp[Mem.get]at h
 |cons x m ih=>
  obtain⟨k,r'⟩:=x
  simp only[Mem.get]at h
  split at h
  ·rename_i e;subst e;cases h;simp
  ·simp[ih h]
theorem Gzw {m:Mem}{i:Nat}(h:∃x∈m,x.1=i):∃r,m.get i=some r:=by
 induction m with
 |nil=>obtain⟨x,hx,_⟩:=h;simp at hx
 |cons x m ih=>
  obtain⟨k,r'⟩:=x
  simp only[Mem.get]
  split
  ·exact⟨r',rfl⟩
  ·rename_i hk
   refine ih ?_
   obtain⟨y,hy,rfl⟩:=h
   simp only[List.mem_cons]at hy
   rcases hy with rfl|hy
   ·exact absurd rfl hk
   ·exact⟨y,hy,rfl⟩
variable {P:Program} {m:Mem}
theorem jzd {F:Cells}{w:World}{ρ:Env}{Mine:Nat->Prop}{M:Mem}(hm:MemOk F w ρ Mine M)(g:Good F w Mine){js:List Nat}:∀ {ex l:List AVal} {vs:List Value},l.length=vs.length->
 (∀ (j:Nat) (a:AVal) (v:Value),l[j]?=some a->vs[j]?=some v->ARel F w ρ a v)->(∀i∈(bzp m ex l).2,i∈js)->(∀i∈(bzp m ex l).2,M.get i=m.get i)->
 (bzp m ex l).1.length=vs.length/\∀ (j:Nat) (a:AVal) (v:Value),(bzp m ex l).1[j]?=some a->vs[j]?=some v->ARel (czu F w ρ m js) w ρ a v
 |_,[],[],_,_,_,_=>by simp[bzp]
 |_,[],_::_,h,_,_,_=>by simp at h
 |_,_::_,[],h,_,_,_=>by simp at h
 |ex,a::l,v::vs,hl,hr,hsub,hrd=>by
  have hl':l.length=vs.length:=by simpa using hl
  have hr':∀ (j:Nat) (a:AVal) (v:Value),l[j]?=some a->vs[j]?=some v->ARel F w ρ a v:=fun j a v ha hv=>hr (j+1) a v (by simpa using ha) (by simpa using hv)
  have h0:=hr 0 a v (by simp) (by simp)
  have hF:∀b o,F b o->czu F w ρ m js b o:=fun b o h=>.inl h
  by_cases hlent:Vz4 (ex.headD .any)=true
  ·simp only[bzp,hlent,if_true]at hsub hrd⊢
   obtain⟨h1,h2⟩:=jzd hm g hl' hr' hsub hrd
   refine⟨by simp[h1],fun j b u hb hu=>?_⟩
   cases j with
   |zero=>simp at hb hu;subst hb;subst hu;exact h0.mono' hF (fun _ _ _=>rfl)
   |succ j=>exact h2 j b u (by simpa using hb) (by simpa using hu)
  simp only[bzp,hlent,if_false,Bool.false_eq_true]at hsub hrd⊢
  split
  ·rename_i p is hp
   rw[hp]at hsub hrd
   simp only[List.mem_append]at hsub hrd
   obtain⟨h1,h2⟩:=jzd hm g hl' hr' (fun i hi=>hsub i (.inr hi)) (fun i hi=>hrd i (.inr hi))
   refine⟨by simp[h1],fun j b u hb hu=>?_⟩
   cases j with
   |zero=>
    simp at hb hu;subst hb;subst hu
    unfold Pzb at hp
    split at hp
    ·split at hp
     ·rename_i hq
      cases hp
      cases h0 with
      |iface h0=>exact .iface (.pure (fze hm g hq (fun i hi=>hsub i (.inl hi)) (fun i hi=>hrd i (.inl hi)) h0))
     ·cases hp
    ·split at hp
     ·rename_i hq
      cases hp
      exact .pure (fze hm g hq (fun i hi=>hsub i (.inl hi)) (fun i hi=>hrd i (.inl hi)) h0)
     ·cases hp
   |succ j=>exact h2 j b u (by simpa using hb) (by simpa using hu)
  ·rename_i hp
   rw[hp]at hsub hrd
   obtain⟨h1,h2⟩:=jzd hm g hl' hr' hsub hrd
   refine⟨by simp[h1],fun j b u hb hu=>?_⟩
   cases j with
   |zero=>simp at hb hu;subst hb;subst hu;exact h0.mono' hF (fun _ _ _=>rfl)
   |succ j=>exact h2 j b u (by simpa using hb) (by simpa using hu)
theorem ozt {F:Cells}{w:World}{ρ:Env}{Mine:Nat->Prop}{M:Mem}(hm:MemOk F w ρ Mine M):∀ {ex l:List AVal} {vs:List Value},l.length=vs.length->
 (∀ (j:Nat) (a:AVal) (v:Value),l[j]?=some a->vs[j]?=some v->ARel F w ρ a v)->(∀i∈(czg m ex l).2,M.get i=m.get i)->
 (czg m ex l).1.length=vs.length/\∀ (j:Nat) (a:AVal) (v:Value),(czg m ex l).1[j]?=some a->vs[j]?=some v->ARel F w ρ a v
 |_,[],[],_,_,_=>by simp[czg]
 |_,[],_::_,h,_,_=>by simp at h
 |_,_::_,[],h,_,_=>by simp at h
 |ex,a::l,v::vs,hl,hr,hrd=>by
  have hl':l.length=vs.length:=by simpa using hl
  have hr':∀ (j:Nat) (a:AVal) (v:Value),l[j]?=some a->vs[j]?=some v->ARel F w ρ a v:=fun j a v ha hv=>hr (j+1) a v (by simpa using ha) (by simpa using hv)
  have h0:=hr 0 a v (by simp) (by simp)
  have keep:(∀i∈(czg m ex.tail l).2,M.get i=m.get i)->∀a':AVal,ARel F w ρ a' v->(a'::(czg m ex.tail l).1).length=(v::vs).length/\
   ∀ (j:Nat) (b:AVal) (u:Value),(a'::(czg m ex.tail l).1)[j]?=some b->(v::vs)[j]?=some u->ARel F w ρ b u:=by
   intro hrd' a' ha'
   obtain⟨h1,h2⟩:=ozt hm hl' hr' hrd'
   refine⟨by simp[h1],fun j b u hb hu=>?_⟩
   cases j with
   |zero=>simp at hb hu;subst hb;subst hu;exact ha'
   |succ j=>exact h2 j b u (by simpa using hb) (by simpa using hu)
  unfold czg at hrd⊢
  split at hrd
  ·rename_i k sz lo n id he
   split at hrd
   ·rename_i sz' n' f' k' e' hg
    split at hrd
    ·rename_i hs
     subst hs
     simp only[↓reduceIte]
     refine keep (fun i hi=>hrd i (by simp[hi])) _ ?_
     obtain⟨_,hok⟩:=hm.ok id _ ((hrd id (by simp)).trans hg)
     cases h0 with
     |vnil hh=>
      rcases hok with⟨_,rfl⟩|⟨b,cap,c,q1,_⟩
      ·exact .viewN hh rfl
      ·rw[hh]at q1;cases q1
     |vec hh=>
      rcases hok with⟨q1,_⟩|⟨b,cap,c,q1,_⟩
      ·rw[hh]at q1;cases q1
      ·rw[hh]at q1
       cases q1
       have hv:=ARel.view (F:=F) (w:=w) (sz:=sz') (lo:=0) (n:=n') (a:=⟨_,0,none⟩) hh (by omega) (fun _=>by simp;rfl)
       simpa using hv
    ·rename_i hs
     simp only[hs,↓reduceIte]
     exact keep hrd _ h0
   ·exact keep hrd _ h0
  ·exact keep hrd _ h0
theorem lz1 {F:Cells}{w:World}{ρ:Env}:∀ {as bs:List AVal},rzb as bs->as.length=bs.length/\∀ (j:Nat) (b:AVal),bs[j]?=some b->∃a,as[j]?=some a/\∀v,ARel F w ρ a v->ARel F w ρ b v
 |[],[],_=>by simp
 |a::as,b::bs,h=>by
  obtain⟨h1,h2⟩:=h
  obtain⟨h3,h4⟩:=lz1 (F:=F) (w:=w) (ρ:=ρ) h2
  refine⟨by simp[h3],fun j c hc=>?_⟩
  cases j with
  |zero=>simp at hc;subst hc;exact⟨a,by simp,fun v hv=>h1.rel F w ρ v hv⟩
  |succ j=>simpa using h4 j c (by simpa using hc)
 |[],_::_,h=>h.elim
 |_::_,[],h=>h.elim
theorem mz9 {m0:Mem}:∀ {m1:Mem},MSub m0 m1->∀ {i:Nat} {r:Res},(i,r)∈m1->∃r0,m0.get i=some r0/\RSub r0 r
 |[],_,i,r,h=>by simp at h
 |(k,r1)::m1,hs,i,r,h=>by
  simp only[MSub]at hs
  simp only[List.mem_cons,Prod.mk.injEq]at h
  rcases h with⟨rfl,rfl⟩|h
  ·cases hg:m0.get i with
   |none=>rw[hg]at hs;exact hs.1.elim
   |some r0=>rw[hg]at hs;exact⟨r0,rfl,hs.1⟩
  ·exact mz9 hs.2 h
theorem qzh {σ:List (Nat×Nat)}{k id i:Nat}(h:Own k i):dza σ k id i=id+(i-k):=if_pos h
theorem Czb {σ:List (Nat×Nat)}{k id i:Nat}(h:¬Own k i):dza σ k id i=match szb σ i with|some b=>b|none=>id+64+i:=if_neg h
theorem rz5:∀ {σ:List (Nat×Nat)} {i b:Nat},szb σ i=some b->(i,b)∈σ
 |[],i,b,h=>by simp[szb]at h
 |(x,y)::σ,i,b,h=>by
  simp only[szb]at h
  split at h
  ·rename_i e;subst e;cases h;simp
  ·simp[rz5 h]
theorem tz5:∀ {σ:List (Nat×Nat)} {i:Nat},(∃y∈σ,y.1=i)->∃b,szb σ i=some b
 |[],i,⟨y,hy,_⟩=>by simp at hy
 |(x,z)::σ,i,⟨y,hy,he⟩=>by
  simp only[szb]
  split
  ·exact⟨z,rfl⟩
  ·rename_i hne
   simp only[List.mem_cons]at hy
   rcases hy with rfl|hy
   ·exact absurd he hne
   ·exact tz5 ⟨y,hy,he⟩
structure RenOk (h:Hint) (id:Nat):Prop where
 old:∀i,¬Own h.k i->¬Own id (dza h.σ h.k id i)
 inj:∀i j,(Own h.k i\/∃y∈h.σ,y.1=i)->(Own h.k j\/∃y∈h.σ,y.1=j)->dza h.σ h.k id i=dza h.σ h.k id j->i=j
 m:∀x∈h.m,¬Own h.k x.1/\∃y∈h.σ,y.1=x.1
 m':∀x∈h.m',Own h.k x.1\/∃y∈h.σ,y.1=x.1
 sub:∀x∈h.m,∃y∈h.m',y.1=x.1
theorem Mzn {h:Hint}{id:Nat}(hb:Cza h id=true):RenOk h id:=by
 simp only[Cza,Bool.and_eq_true,List.all_eq_true,Bool.not_eq_true',Bool.and_eq_false_iff,decide_eq_false_iff_not,List.any_eq_true,beq_iff_eq,Bool.or_eq_true,bne_iff_ne,decide_eq_true_eq,Nat.not_lt,Nat.not_le]at hb
 obtain⟨⟨⟨⟨h1,h2⟩,h3⟩,h4⟩,h5⟩:=hb
 have old:∀i,¬Own h.k i->¬Own id (dza h.σ h.k id i):=by
  intro i hi ho
  rw[Czb hi]at ho
  cases hg:szb h.σ i with
  |none=>rw[hg]at ho;obtain⟨_,o2⟩:=ho;simp at o2;omega
  |some b=>
   rw[hg]at ho
   obtain⟨o1,o2⟩:=ho
   have:=h1 _ (rz5 hg)
   simp at this o1 o2
   omega
 refine⟨old,fun i j hi hj he=>?_,fun x hx=>?_,fun x hx=>?_,fun x hx=>?_⟩
 ·by_cases oi:Own h.k i<;>by_cases oj:Own h.k j
  ·rw[qzh oi,qzh oj]at he
   obtain⟨a1,a2⟩:=oi;obtain⟨b1,b2⟩:=oj;omega
  ·exfalso
   apply old j oj
   rw[←he,qzh oi]
   obtain⟨a1,a2⟩:=oi
   exact⟨by omega,by omega⟩
  ·exfalso
   apply old i oi
   rw[he,qzh oj]
   obtain⟨a1,a2⟩:=oj
   exact⟨by omega,by omega⟩
  ·obtain⟨bi,hbi⟩:=tz5 (hi.resolve_left oi)
   obtain⟨bj,hbj⟩:=tz5 (hj.resolve_left oj)
   rw[Czb oi,Czb oj,hbi,hbj]at he
   simp only at he
   subst he
   have:=h2 _ (rz5 hbi) _ (rz5 hbj)
   simpa using this
 ·obtain⟨a1,a2⟩:=h3 x hx
  exact⟨fun ⟨o1,o2⟩=>by rcases a1 with a1|a1<;>omega,a2⟩
 ·exact(h4 x hx).imp (fun ⟨a1,a2⟩=>⟨a1,a2⟩) (fun h=>h)
 ·exact h5 x hx
theorem Hzb {τ:Nat->Nat}{i:Nat}{r:Res}:∀ {m:Mem},(i,r)∈m->(τ i,r.ren τ)∈Mem.ren τ m
 |[],h=>by simp at h
 |(k,q)::l,h=>by
  simp only[List.mem_cons,Prod.mk.injEq]at h
  simp only[Mem.ren,List.mem_cons,Prod.mk.injEq]
  rcases h with⟨rfl,rfl⟩|h
  ·exact .inl ⟨rfl,rfl⟩
  ·exact .inr (Hzb h)
theorem Izl {C:Array Value->World->(Ending->World->Prop)->Prop}(mono:∀ {vs w R R'},C vs w R->(∀e w',R e w'->R' e w')->C vs w R'){h:Hint}{id:Nat}
 (hs:∀ (F:Cells) (w:World) (ρ:Env) (Mine:Nat->Prop) (vs:Array Value),MemOk F w ρ Mine h.m->Good F w Mine->szi F w ρ h.args vs->
  C vs w fun e w'=>∃v F' ρ',e=.returned v/\Step Mine F w F' w'/\czm h.k ρ ρ'/\ARel F' w' ρ' h.res v/\MemOk F' w' ρ' Mine h.m') (ro:RenOk h id) {F:Cells} {w:World} {ρ:Env} {Mine:Nat->Prop} {M:Mem} (hm:MemOk F w ρ Mine M) (g:Good F w Mine) (fr:Fresh id M)
 (hmem:∀x∈Mem.ren (dza h.σ h.k id) h.m,∃r0,M.get x.1=some r0/\RSub r0 x.2) {vs:Array Value} (hargs:szi F w ρ (AVal.renL (dza h.σ h.k id) h.args) vs):
 C vs w fun e w'=>∃v F' ρ',e=.returned v/\Step Mine F w F' w'/\czm id ρ ρ'/\ARel F' w' ρ' (h.res.ren (dza h.σ h.k id)) v/\MemOk F' w' ρ' Mine (Mem.ren (dza h.σ h.k id) h.m'++M):=by
 generalize hτ:dza h.σ h.k id=τ at *
 have hold:∀i,¬Own h.k i->¬Own id (τ i):=by rw[←hτ];exact ro.old
 have hinj:∀i j,(Own h.k i\/∃y∈h.σ,y.1=i)->(Own h.k j\/∃y∈h.σ,y.1=j)->τ i=τ j->i=j:=by rw[←hτ];exact ro.inj
 have hnewτ:∀i,Own h.k i->τ i=id+(i-h.k):=by rw[←hτ];exact fun i hi=>qzh hi
 have hmget:∀i r,h.m.get i=some r->∃r0,M.get (τ i)=some r0/\RSub r0 (r.ren τ):=by
  intro i r hi
  have hin:(τ i,r.ren τ)∈Mem.ren τ h.m:=Hzb (fz4 hi)
  exact hmem _ hin
 have hblk0:∀i r b,h.m.get i=some r->Owns w (ρ.pull τ) i r b->∃r0,M.get (τ i)=some r0/\Owns w ρ (τ i) r0 b:=by
  intro i r b hi hb
  obtain⟨r0,h1,h2⟩:=hmget i r hi
  refine⟨r0,h1,(h2.rel F w ρ (τ i) (hm.ok _ _ h1)).2 b ?_⟩
  rw[kzd (ρ:=ρ.pull τ) (ρ':=ρ) ⟨rfl,rfl⟩];exact hb
 have hdomM:∀i r,h.m.get i=some r->Own h.k i\/∃y∈h.σ,y.1=i:=fun i r hi=>.inr (ro.m _ (fz4 hi)).2
 let Mine0:Nat->Prop:=fun b=>(∃i r,h.m.get i=some r/\Owns w (ρ.pull τ) i r b)\/w.heap.size≤b
 have hM0:MemOk F w (ρ.pull τ) Mine0 h.m:=by
  refine⟨fun i r hi=>?_,fun i r b hi hb=>⟨.inl ⟨i,r,hi,hb⟩,?_⟩,fun i i' r r' b hi hi' hb hb'=>?_⟩
  ·obtain⟨r0,h1,h2⟩:=hmget i r hi
   exact(h2.rel F w ρ (τ i) (hm.ok _ _ h1)).1.unren
  ·obtain⟨r0,h1,h2⟩:=hblk0 i r b hi hb
   exact(hm.mine _ _ _ h1 h2).2
  ·obtain⟨r0,h1,h2⟩:=hblk0 i r b hi hb
   obtain⟨r1,h3,h4⟩:=hblk0 i' r' b hi' hb'
   exact hinj i i' (hdomM i r hi) (hdomM i' r' hi') (hm.disj _ _ _ _ b h1 h3 h2 h4)
 have hMine:∀b,Mine0 b->Mine b:=by
  intro b hb
  rcases hb with⟨i,r,hi,hb⟩|hb
  ·obtain⟨r0,h1,h2⟩:=hblk0 i r b hi hb
   exact(hm.mine _ _ _ h1 h2).1
  ·exact g.mine b hb
 have g0:Good F w Mine0:=⟨g.lt,fun b hb=>.inr hb,g.tab⟩
 have hargs0:szi F w (ρ.pull τ) h.args vs:=by
  refine⟨by rw[←hargs.1,dzl],fun j a v ha hv=>ARel.unren a v (hargs.2 j _ v (by rw[iz0,ha];rfl) hv)⟩
 refine mono (hs F w (ρ.pull τ) Mine0 vs hM0 g0 hargs0) ?_
 rintro e w' ⟨v,F',ρ0',rfl,st0,he0,hres,hM'⟩
 let ρ':Env:=⟨fun j=>if id≤j/\j<id+64 then ρ0'.blk (h.k+(j-id))else ρ.blk j,fun j=>if id≤j/\j<id+64 then ρ0'.vec (h.k+(j-id))else ρ.vec j⟩
 have he:czm id ρ ρ':=fun i hi=>⟨if_neg hi,if_neg hi⟩
 have hag:∀i,ρ'.blk (τ i)=ρ0'.blk i/\ρ'.vec (τ i)=ρ0'.vec i:=by
  intro i
  by_cases hi:Own h.k i
  ·have e1:=hnewτ i hi
   obtain⟨i1,i2⟩:=hi
   have hO:id≤τ i/\τ i<id+64:=by omega
   have e2:h.k+(τ i-id)=i:=by omega
   constructor
   ·show(if _ then _ else _)=_
    rw[if_pos hO,e2]
   ·show(if _ then _ else _)=_
    rw[if_pos hO,e2]
  ·obtain⟨a1,a2⟩:=he _ (hold i hi)
   obtain⟨b1,b2⟩:=he0 i hi
   exact⟨a1.trans b1.symm,a2.trans b2.symm⟩
 have st:Step Mine F w F' w':=⟨st0.sub,st0.cell,fun b o hF=>(st0.new b o hF).imp (fun h=>h) (hMine b),st0.lt,
  ⟨st0.keep.os,st0.keep.tape,st0.keep.output,st0.keep.size,fun k hk hn=>st0.keep.block k hk (fun h=>hn (hMine k h))⟩⟩
 refine⟨v,F',ρ',rfl,st,he,hres.ren hag,?_⟩
 have hdom':∀i r,h.m'.get i=some r->Own h.k i\/∃y∈h.σ,y.1=i:=fun i r hi=>ro.m' _ (fz4 hi)
 have hget':∀j r',(Mem.ren τ h.m').get j=some r'->∃i r,h.m'.get i=some r/\j=τ i/\r'=r.ren τ:=by
  intro j r' hj
  obtain⟨i,r,h1,rfl,rfl⟩:=wzz hj
  have:=Hzk (τ:=τ) (m:=h.m') (fun x hx j hj hy=>by
   obtain⟨y,hy,rfl⟩:=hy
   exact hinj _ _ (ro.m' x hx) (ro.m' y hy) hj) i ⟨_,h1,rfl⟩
  rw[hj]at this
  cases hg:h.m'.get i with
  |none=>rw[hg]at this;simp at this
  |some r2=>
   rw[hg]at this
   simp only[Option.map_some,Option.some.injEq]at this
   exact⟨i,r2,hg,rfl,this⟩
 have hnot0:∀j r b,M.get j=some r->(Mem.ren τ h.m').get j=none->Owns w ρ j r b->¬Mine0 b:=by
  intro j r b hj hn hb hmine0
  rcases hmine0 with⟨i,r1,hi,hb1⟩|hge
  ·obtain⟨r0,h1,h2⟩:=hblk0 i r1 b hi hb1
   have:τ i=j:=hm.disj _ _ _ _ b h1 hj h2 hb
   subst this
   obtain⟨y,hy,he⟩:=ro.sub _ (fz4 hi)
   have:=Hzk (τ:=τ) (m:=h.m') (fun x hx j hj hy=>by
    obtain⟨y,hy,rfl⟩:=hy
    exact hinj _ _ (ro.m' x hx) (ro.m' y hy) hj) i ⟨y,hy,he⟩
   obtain⟨r2,hr2⟩:=Gzw (m:=h.m') ⟨y,hy,he⟩
   rw[hn,hr2]at this
   simp at this
  ·have:=(hm.mine j r b hj hb).2
   omega
 refine MemOk.step hm st (fun i=>¬Own id i) he _ (fun j r hj hn=>⟨fun ho=>(by rw[fr.none j ho]at hj;cases hj),fun i hi=>fr.has i j r (Classical.not_not.1 hi) hj,fun b hb=>⟨?_,fun o hF=>?_⟩⟩) (fun j r' hj=>?_) (fun j j' r r' b hj hj' hb hb'=>?_)
 ·exact st0.keep.block b (hm.mine j r b hj hb).2 (hnot0 j r b hj hn hb)
 ·exact(st0.new b o hF).resolve_right (hnot0 j r b hj hn hb)
 ·obtain⟨i,r,hi,rfl,rfl⟩:=hget' j r' hj
  refine⟨(hM'.ok i r hi).ren hag,fun b hb=>?_⟩
  rw[kzd (hag i)]at hb
  obtain⟨q1,q2⟩:=hM'.mine i r b hi hb
  exact⟨hMine b q1,q2,fun k r1 hk hn hbk=>hnot0 k r1 b hk hn hbk q1⟩
 ·obtain⟨i,r1,hi,rfl,rfl⟩:=hget' j r hj
  obtain⟨i',r2,hi',rfl,rfl⟩:=hget' j' r' hj'
  rw[kzd (hag i)]at hb
  rw[kzd (hag i')]at hb'
  rw[hM'.disj i i' r1 r2 b hi hi' hb hb']
end Go.Abs
