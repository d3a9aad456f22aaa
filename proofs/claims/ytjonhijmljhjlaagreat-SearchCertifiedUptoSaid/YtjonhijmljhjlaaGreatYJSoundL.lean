import Derived.Test.YtjonhijmljhjlaaGreatYJVc
open Go renaming Value->qr,World->qn,Program->qo
open List renaming sizeOf_lt_of_mem->jK,mem_of_getElem?->jq,mem_map->zd,map_map->jL,mem_cons->wC
open Option renaming map_eq_some_iff->zT
namespace Go.Abs
def Does (P:qo)(o:Oper)(a:Act)(w:qn)(R:qr->qn->Prop):Prop:=
 ∀ (next:Act->qn->Prop) (Q:Exit->Act->qn->Prop),(∀v w',R v w'->next (a.put o.dst v) w')->o.wpIn Fence.wide 0 P a w next Q
theorem Iz4 {P:qo}{o:Oper}{a:Act}{w:qn}{next:Act->qn->Prop}{Q:Exit->Act->qn->Prop}(h:o.wp P a w next Q):o.wpIn Fence.wide 0 P a w next Q:=by
 refine⟨λ_ _=>trivial,?_⟩;unfold Oper.wp at h;show o.uponIn Fence.wide 0 P a next Q ((execOp a.eval o).run P w)
 generalize (execOp a.eval o).run P w=r at h⊢;cases r with
 |ok x w'=>
  cases x with
  |value v=>exact h
  |skip=>exact h
  |«defer» d=>exact h
  |enter f args=>exact⟨(λh=>by cases h),callsIn_wide.2 h⟩
  |row r args=>
   refine⟨(λh=>by cases h),λc cs _=>?_⟩;obtain⟨v,w'',r,s⟩:=h c cs;exact⟨v,w'',r,stepsIn_wide.2 s⟩
  |_=>exact h.elim
 |halt x w'=>cases x<;>first|exact h|exact h.elim
def Sound2 (P:qo)(o:Oper)(env:Operand->AVal)(m:Mem)(id:Nat)(out:Out):Prop:=
 ∀ (F:Cells) (w:qn) (ρ:Env) (Mine:Nat->Prop) (M:Mem) (a:Act),
   MemOk F w ρ Mine M->Good F w Mine->Fresh id M->(∀i∈out.rd,M.get i=m.get i)->
   (∀x∈o.op.operands,∀i,Own id i->(env x).has i=false)->
   (∀x∈o.op.operands,ARel F w ρ (env x) (a.eval x))->
   Does P o a w λv w'=>∃F' ρ',Step Mine F w F' w'/\dzr id ρ ρ'/\ARel F' w' ρ' out.val v/\MemOk F' w' ρ' Mine (out.wr++M)
theorem Sound1.to2 {P:qo}{o:Oper}{env:Operand->AVal}{m:Mem}{id:Nat}{out:Out}(h:Sound1 P o env m id out):Sound2 P o env m id out:=by
 intro F w ρ Mine M a h1 h2 h3 h4 h5 h6 next Q hn
 obtain⟨v,w',F',ρ',hr,hrest⟩:=h F w ρ Mine M a h1 h2 h3 h4 h5 h6;refine Iz4 ?_;unfold Oper.wp;rcases hr with hr|⟨hr,rfl⟩
 ·rw[hr];exact hn v w' ⟨F',ρ',hrest⟩
 ·rw[hr];exact hn undef w' ⟨F',ρ',hrest⟩
theorem lzi (τ:Nat->Nat):∀ (l:List AVal) (j:Nat),(AVal.renL τ l)[j]?=(l[j]?).map (AVal.ren τ)
 |[],j=>by simp[AVal.renL]
 |a::l,0=>by simp[AVal.renL]
 |a::l,j+1=>by simpa[AVal.renL]using lzi τ l j
theorem fz2 (τ:Nat->Nat):∀ (l:List AVal),(AVal.renL τ l).length=l.length
 |[]=>rfl
 |_::l=>by simp[AVal.renL,fz2 τ l]
def Env.pull (ρ:Env)(τ:Nat->Nat):Env:=⟨λi=>ρ.blk (τ i),λi=>ρ.vec (τ i)⟩
theorem ARel.ren {F:Cells}{w:qn}{ρ ρ':Env}{τ:Nat->Nat}(hρ:∀i,ρ'.blk (τ i)=ρ.blk i/\ρ'.vec (τ i)=ρ.vec i){a:AVal}{v:qr}(h:ARel F w ρ a v):ARel F w ρ' (a.ren τ) v:=by
 have lift:∀ {cs:List AVal} {vs:Array qr},(∀ (j:Nat) (a:AVal) (v:qr),cs[j]?=some a->vs[j]?=some v->ARel F w ρ' (a.ren τ) v)->
  ∀ (j:Nat) (a:AVal) (v:qr),(AVal.renL τ cs)[j]?=some a->vs[j]?=some v->ARel F w ρ' a v:=by
  intro cs vs h j a v ha hv;rw[lzi,zT]at ha;obtain⟨b,hb,rfl⟩:=ha;exact h j b v hb hv
 induction h with
 |any=>exact .any
 |pure h=>exact .pure h
 |tt=>exact .tt
 |ff=>exact .ff
 |agg hl _ ih=>exact .agg (by rw[fz2];exact hl) (lift ih)
 |tup hl _ ih=>exact .tup (by rw[fz2];exact hl) (lift ih)
 |vnil h=>exact .vnil (by rw[(hρ _).2];exact h)
 |vec h=>exact .vec (by rw[(hρ _).2];exact h)
 |ptr=>rw[<-(hρ _).1];exact .ptr
 |eptr h=>exact .eptr (by rw[(hρ _).2];exact h)
 |ref h=>exact .ref h
 |func h1 _ h2 _ ih1 ih2=>exact .func (by rw[fz2];exact h1) (lift ih1) (by rw[fz2];exact h2) (lift ih2)
 |map=>rw[<-(hρ _).1];exact .map
 |bsl=>rw[<-(hρ _).1];exact .bsl
 |view h h1 h2=>exact .view (by rw[(hρ _).2];exact h) h1 h2
 |viewN h h1=>exact .viewN (by rw[(hρ _).2];exact h) h1
 |iface _ ih=>exact .iface ih
 |anyb=>exact .anyb
 |clip h=>exact .clip h
 |yld=>exact .yld
theorem ARel.unren {F:Cells}{w:qn}{ρ:Env}{τ:Nat->Nat}:∀ (a:AVal) (v:qr),ARel F w ρ (a.ren τ) v->ARel F w (ρ.pull τ) a v
 | .any,v,_=>.any
 | .pure p,v,h=>by simp only[AVal.ren]at h;cases h with|pure h=>exact .pure h
 | .tt,v,h=>by simp only[AVal.ren]at h;cases h;exact .tt
 | .ff,v,h=>by simp only[AVal.ren]at h;cases h;exact .ff
 | .agg cs,v,h=>by
   simp only[AVal.ren]at h;cases h with
   |agg hl h=>
    rw[fz2]at hl;exact .agg hl λj a v ha hv=>
     have:SizeOf.sizeOf a<1+SizeOf.sizeOf cs:=by have:=jK (jq ha);omega
     ARel.unren a v (h j _ v (by rw[lzi,ha];rfl) hv)
 | .tup cs,v,h=>by
   simp only[AVal.ren]at h;cases h with
   |tup hl h=>
    rw[fz2]at hl;exact .tup hl λj a v ha hv=>
     have:SizeOf.sizeOf a<1+SizeOf.sizeOf cs:=by have:=jK (jq ha);omega
     ARel.unren a v (h j _ v (by rw[lzi,ha];rfl) hv)
 | .vec i,v,h=>by
   simp only[AVal.ren]at h;cases h with
   |vnil h=>exact .vnil h
   |vec h=>exact .vec h
 | .ptr i o,v,h=>by simp only[AVal.ren]at h;cases h;exact .ptr (ρ:=ρ.pull τ)
 | .eptr i a b c,v,h=>by simp only[AVal.ren]at h;cases h with|eptr h=>exact .eptr (ρ:=ρ.pull τ) h
 | .ref p,v,h=>by simp only[AVal.ren]at h;cases h with|ref h=>exact .ref h
 | .func f x y,v,h=>by
   simp only[AVal.ren]at h;cases h with
   |func h1 h1' h2 h2'=>
    rw[fz2]at h1 h2;exact .func h1 (λj a v ha hv=>
     have:SizeOf.sizeOf a<1+SizeOf.sizeOf f+SizeOf.sizeOf x+SizeOf.sizeOf y:=by have:=jK (jq ha);omega
     ARel.unren a v (h1' j _ v (by rw[lzi,ha];rfl) hv)) h2 (λj a v ha hv=>
     have:SizeOf.sizeOf a<1+SizeOf.sizeOf f+SizeOf.sizeOf x+SizeOf.sizeOf y:=by have:=jK (jq ha);omega
     ARel.unren a v (h2' j _ v (by rw[lzi,ha];rfl) hv))
 | .map i,v,h=>by simp only[AVal.ren]at h;cases h;exact .map (ρ:=ρ.pull τ)
 | .bsl i n,v,h=>by simp only[AVal.ren]at h;cases h;exact .bsl (ρ:=ρ.pull τ)
 | .view i a b c,v,h=>by
   simp only[AVal.ren]at h;cases h with
   |view h h1 h2=>exact .view (ρ:=ρ.pull τ) h h1 h2
   |viewN h h1=>exact .viewN (ρ:=ρ.pull τ) h h1
 | .anyb,v,h=>by simp only[AVal.ren]at h;cases h;exact .anyb
 | .clip p,v,h=>by simp only[AVal.ren]at h;cases h with|clip h=>exact .clip h
 | .yld _,v,h=>by simp only[AVal.ren]at h;cases h;exact .yld
 | .iface t a,v,h=>by simp only[AVal.ren]at h;cases h with|iface h=>exact .iface (ARel.unren a _ h)
termination_by a=>SizeOf.sizeOf a
theorem Lzn (σ:Nat->Nat)(hs:List (Nat×Nat))(i:Nat):ozn (hs.map λx=>(x.1,σ x.2)) i=ozn hs i:=by
 simp[ozn,List.any_map,Function.comp_def]
theorem wz3 {c:Array qr}{sz n off k i b:Nat}(σ:Nat->Nat)(hs:List (Nat×Nat)):InnU c sz n off k (hs.map λx=>(x.1,σ x.2)) i b↔InnU c sz n off k hs i b:=by
 simp only[InnU,Lzn]
theorem UOk.ren {F:Cells}{w:qn}{ρ ρ':Env}{τ:Nat->Nat}(hρ:∀i,ρ'.vec (τ i)=ρ.vec i){c:Array qr}{sz n k off s':Nat}{f:Nat->PVal}{e':TypeId}{hs:List (Nat×Nat)}:
 UOk F w ρ' c sz n f k off s' e' (hs.map λx=>(x.1,τ x.2))↔UOk F w ρ c sz n f k off s' e' hs:=by
 constructor
 ·intro h;refine⟨h.len,h.cell,λi p hi ho hp=>h.own i p hi (by rw[Lzn];exact ho) hp,λx hx=>?_,?_,λi i' b h1 h2=>h.inj i i' b ((wz3 τ hs).2 h1) ((wz3 τ hs).2 h2)⟩
  ·obtain⟨h1,h2⟩:=h.hole (x.1,τ x.2) (zd.2 ⟨x,hx,rfl⟩);rw[hρ]at h2;exact⟨h1,h2⟩
  ·have:=h.nodup;simpa[jL,Function.comp_def]using this
 ·intro h;refine⟨h.len,h.cell,λi p hi ho hp=>h.own i p hi (by rw[Lzn]at ho;exact ho) hp,λy hy=>?_,?_,λi i' b h1 h2=>h.inj i i' b ((wz3 τ hs).1 h1) ((wz3 τ hs).1 h2)⟩
  ·obtain⟨x,hx,rfl⟩:=zd.1 hy;obtain⟨h1,h2⟩:=h.hole x hx;exact⟨h1,by rw[hρ];exact h2⟩
  ·simpa[jL,Function.comp_def]using h.nodup
theorem ResOk.ren {F:Cells}{w:qn}{ρ ρ':Env}{τ:Nat->Nat}(hρ:∀i,ρ'.blk (τ i)=ρ.blk i/\ρ'.vec (τ i)=ρ.vec i){i:Nat}{r:Res}(h:ResOk F w ρ i r):ResOk F w ρ' (τ i) (r.ren τ):=by
 obtain⟨hb,hv⟩:=hρ i;cases r with
 |gone=>trivial
 |nilv=>show ρ'.vec (τ i)=none;rw[hv];exact h
 |box cs=>
  obtain⟨c,e,h1,h2,h3,h4⟩:=h;refine⟨c,e,by rw[hb];exact h1,by rw[fz2];exact h2,by rw[hb];exact h3,λj a v ha hv=>?_⟩;rw[lzi,zT]at ha;obtain⟨b,hb',rfl⟩:=ha;exact⟨(h4 j b v hb' hv).1.ren hρ,(h4 j b v hb' hv).2⟩
 |vec sz n f k e=>
  refine⟨h.1,?_⟩;rw[hv];exact h.2
 |map tm dom val=>
  obtain⟨es,clock,h1,h2,h3⟩:=h;exact⟨es,clock,by rw[hb];exact h1,by rw[hb];exact h2,h3⟩
 |iter s pos=>exact⟨by rw[hb];exact h.1,by rw[hb];exact h.2⟩
 |tok τ p=>exact h
 |dat sz n f=>show PRel F w (.lst sz n f) (hzg (ρ'.vec (τ i)));rw[hv];exact h
 |vecT sz n f e e' hh=>
  obtain⟨b,cap,c,h1,h2⟩:=h;exact⟨b,cap,c,by rw[hv];exact h1,h2⟩
 |vecX sz n f e hh off k=>
  obtain⟨h0,b,cap,c,h1,h2⟩:=h;refine⟨by rw[hv];exact h0,b,cap,c,by rw[hv];exact h1,?_⟩;rw[(hρ k).2];exact h2
 |vecU sz n f k e off s' e' hs=>
  obtain⟨h0,hk,h⟩:=h;refine⟨h0,hk,?_⟩;rcases h with⟨h1,h2,h3⟩|⟨b,cap,c,h1,h2,h3,h4,h5,h6,h7,h8⟩
  ·exact .inl ⟨by rw[hv];exact h1,h2,by rw[h3];rfl⟩
  ·exact .inr ⟨b,cap,c,by rw[hv];exact h1,h2,h3,h4,h5,h6,(UOk.ren λi=>(hρ i).2).2 h7,λi hi=>h8 i ((wz3 τ hs).1 hi)⟩
theorem ResOk.unren {F:Cells}{w:qn}{ρ:Env}{τ:Nat->Nat}{i:Nat}{r:Res}(h:ResOk F w ρ (τ i) (r.ren τ)):ResOk F w (ρ.pull τ) i r:=by
 cases r with
 |gone=>trivial
 |nilv=>exact h
 |box cs=>
  obtain⟨c,e,h1,h2,h3,h4⟩:=h;rw[fz2]at h2;exact⟨c,e,h1,h2,h3,λj a v ha hv=>⟨ARel.unren a v (h4 j _ v (by rw[lzi,ha];rfl) hv).1,(h4 j _ v (by rw[lzi,ha];rfl) hv).2⟩⟩
 |vec sz n f k e=>exact h
 |vecT sz n f e e' hh=>exact h
 |vecX sz n f e hh off k=>exact h
 |vecU sz n f k e off s' e' hs=>
  obtain⟨h0,hk,h⟩:=h;refine⟨h0,hk,?_⟩;rcases h with⟨h1,h2,h3⟩|⟨b,cap,c,h1,h2,h3,h4,h5,h6,h7,h8⟩
  ·exact .inl ⟨h1,h2,by simpa using h3⟩
  ·exact .inr ⟨b,cap,c,h1,h2,h3,h4,h5,h6,(UOk.ren (ρ:=ρ.pull τ) (ρ':=ρ) (τ:=τ) λi=>rfl).1 h7,λi hi=>h8 i ((wz3 τ hs).2 hi)⟩
 |map tm dom val=>exact h
 |iter s pos=>exact h
 |tok τ p=>exact h
 |dat sz n f=>exact h
theorem pz9 {w:qn}{ρ ρ':Env}{τ:Nat->Nat}{i b:Nat}{r:Res}(hρ:ρ'.blk (τ i)=ρ.blk i/\ρ'.vec (τ i)=ρ.vec i):Owns w ρ' (τ i) (r.ren τ) b↔Owns w ρ i r b:=by
 cases r<;>simp[Owns,nzl,bzg,Res.ren,hρ.1,hρ.2,wz3]
theorem Hzw {τ:Nat->Nat}:∀ {m:Mem} {j:Nat} {r':Res},(Mem.ren τ m).get j=some r'->∃i r,(i,r)∈m/\j=τ i/\r'=r.ren τ
 |[],j,r',h=>by simp[Mem.ren,Mem.get]at h
 |(i,r)::m,j,r',h=>by
  simp only[Mem.ren,Mem.get]at h;split at h
  ·cases h;rename_i e;exact⟨i,r,by simp,e.symm,rfl⟩
  ·obtain⟨i',r2,h1,h2,h3⟩:=Hzw h;exact⟨i',r2,by simp[h1],h2,h3⟩
theorem Rz5 {τ:Nat->Nat}:∀ {m:Mem} (_:∀x∈m,∀j,τ x.1=τ j->(∃y∈m,y.1=j)->x.1=j) (i:Nat),(∃x∈m,x.1=i)->(Mem.ren τ m).get (τ i)=(m.get i).map (Res.ren τ)
 |[],_,i,⟨x,hx,_⟩=>by simp at hx
 |(k,r)::m,hinj,i,hi=>by
  simp only[Mem.ren,Mem.get];by_cases hk:k=i
  ·subst hk;simp
  ·have hne:¬τ k=τ i:=λe=>hk (hinj (k,r) (by simp) i e hi)
   rw[qb hne,qb hk];refine Rz5 (λx hx j hj hy=>?_) i ?_
   ·obtain⟨y,hy,rfl⟩:=hy;exact hinj x (by simp[hx]) y.1 hj ⟨y,by simp[hy],rfl⟩
   ·obtain⟨x,hx,rfl⟩:=hi;simp only[wC]at hx;rcases hx with rfl|hx
    ·exact absurd rfl hk
    ·exact⟨x,hx,rfl⟩
theorem hz3 {m:Mem}{i:Nat}{r:Res}(h:m.get i=some r):(i,r)∈m:=by
 induction m with
 |nil=>simp[Mem.get]at h
 |cons x m ih=>
  obtain⟨k,r'⟩:=x;simp only[Mem.get]at h;split at h
  ·rename_i e;subst e;cases h;simp
  ·simp[ih h]
theorem Qz4 {m:Mem}{i:Nat}(h:∃x∈m,x.1=i):∃r,m.get i=some r:=by
 induction m with
 |nil=>obtain⟨x,hx,_⟩:=h;simp at hx
 |cons x m ih=>
  obtain⟨k,r'⟩:=x;simp only[Mem.get];split
  ·exact⟨r',rfl⟩
  ·rename_i hk;refine ih ?_;obtain⟨y,hy,rfl⟩:=h;simp only[wC]at hy;rcases hy with rfl|hy
   ·exact absurd rfl hk
   ·exact⟨y,hy,rfl⟩
end Go.Abs
