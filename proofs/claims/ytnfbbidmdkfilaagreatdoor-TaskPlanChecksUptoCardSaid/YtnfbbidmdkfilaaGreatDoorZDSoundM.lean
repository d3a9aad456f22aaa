import Derived.Test.YtnfbbidmdkfilaaGreatDoorZDVc
open Go renaming Value->qr,World->qn,Program->qo
open List renaming sizeOf_lt_of_mem->zP,mem_of_getElem?->zu,mem_map->xh,mem_cons->xa
namespace Go.Abs
def Does (P:qo)(o:Oper)(a:Act)(w:qn)(R:qr->qn->Prop):Prop:=
 ∀ (b:Act->qn->Prop) (Q:Exit->Act->qn->Prop),(∀v c,R v c->b (a.put o.dst v) c)->o.wpIn Fence.wide 0 P a w b Q
theorem Nzv {P:qo}{o:Oper}{a:Act}{w:qn}{b:Act->qn->Prop}{Q:Exit->Act->qn->Prop}(h:o.wp P a w b Q):o.wpIn Fence.wide 0 P a w b Q:=by
 refine⟨λ_ _=>trivial,?_⟩;unfold Oper.wp at h;show o.uponIn Fence.wide 0 P a b Q ((execOp a.eval o).run P w);generalize (execOp a.eval o).run P w=r at h⊢;cases r with
 |ok x i=>
  cases x with
  |value v=>exact h
  |skip=>exact h
  |«defer» d=>exact h
  |enter f args=>exact⟨(λh=>by cases h),callsIn_wide.2 h⟩
  |row r args=>
   refine⟨(λh=>by cases h),λc g _=>?_⟩;obtain⟨v,e,r,s⟩:=h c g
   grind[stepsIn_wide]
  |_=>exact h.elim
 |halt x i=>cases x<;>first|exact h|exact h.elim
def Sound2 (P:qo)(o:Oper)(env:Operand->AVal)(m:Mem)(id:Nat)(out:Out):Prop:=
 ∀ (F:Cells) (w:qn) (ρ:Env) (Mine:Nat->Prop) (M:Mem) (a:Act),
   MemOk F w ρ Mine M->Good F w Mine->Fresh id M->(∀i∈out.rd,M.get i=m.get i)->
   (∀x∈o.op.operands,∀i,Own id i->(env x).has i=false)->
   (∀x∈o.op.operands,ARel F w ρ (env x) (a.eval x))->
   Does P o a w λv b=>∃F' ρ',Step Mine F w F' b/\dz4 id ρ ρ'/\ARel F' b ρ' out.val v/\MemOk F' b ρ' Mine (out.wr++M)
theorem Sound1.to2 {P:qo}{o:Oper}{env:Operand->AVal}{m:Mem}{id:Nat}{out:Out}(h:Sound1 P o env m id out):Sound2 P o env m id out:=by
 intro F w ρ Mine M a i k n j l g d Q f;obtain⟨v,e,F',ρ',c,b⟩:=h F w ρ Mine M a i k n j l g;refine Nzv ?_;unfold Oper.wp;rcases c with c|⟨c,rfl⟩
 ·rw[c];exact f v e ⟨F',ρ',b⟩
 ·rw[c];exact f undef e ⟨F',ρ',b⟩
theorem lzm (τ:Nat->Nat):∀ (l:List AVal) (j:Nat),(AVal.renL τ l)[j]?=(l[j]?).map (AVal.ren τ)
 |[],j=>by rfl
 |a::l,0=>by rfl
 |a::l,j+1=>by simpa[AVal.renL]using lzm τ l j
theorem ezt (τ:Nat->Nat):∀ (l:List AVal),(AVal.renL τ l).length=l.length
 |[]=>rfl
 |_::l=>by simp[AVal.renL,ezt τ l]
def Env.pull (ρ:Env)(τ:Nat->Nat):Env:=⟨λi=>ρ.blk (τ i),λi=>ρ.vec (τ i)⟩
theorem ARel.ren {F:Cells}{w:qn}{ρ ρ':Env}{τ:Nat->Nat}(c:∀i,ρ'.blk (τ i)=ρ.blk i/\ρ'.vec (τ i)=ρ.vec i){a:AVal}{v:qr}(h:ARel F w ρ a v):ARel F w ρ' (a.ren τ) v:=by
 have b:∀ {l:List AVal} {vs:Array qr},(∀ (j:Nat) (a:AVal) (v:qr),l[j]?=some a->vs[j]?=some v->ARel F w ρ' (a.ren τ) v)->
  ∀ (j:Nat) (a:AVal) (v:qr),(AVal.renL τ l)[j]?=some a->vs[j]?=some v->ARel F w ρ' a v:=by
  grind[lzm]
 induction h with
 |any=>exact .any
 |pure h=>exact .pure h
 |tt=>exact .tt
 |ff=>exact .ff
 |agg m _ d=>exact .agg (by grind[ezt]) (b d)
 |tup m _ d=>exact .tup (by grind[ezt]) (b d)
 |vnil h=>exact .vnil jr
 |vec h=>exact .vec jr
 |ptr=>rw[<-(c _).1];exact .ptr
 |eptr h=>exact .eptr (by rw[(c _).2];exact h)
 |ref h=>exact .ref h
 |func e _ k _ f g=>exact .func (by grind[ezt]) (b f) (by grind[ezt]) (b g)
 |map=>rw[<-(c _).1];exact .map
 |bsl=>rw[<-(c _).1];exact .bsl
 |view h e k=>exact .view jr e k
 |viewN h e=>exact .viewN jr e
 |iface _ d=>exact .iface d
 |anyb=>exact .anyb
 |nilp=>exact .nilp
 |clip h=>exact .clip h
 |yld=>exact .yld
theorem ARel.unren {F:Cells}{w:qn}{ρ:Env}{τ:Nat->Nat}:∀ (a:AVal) (v:qr),ARel F w ρ (a.ren τ) v->ARel F w (ρ.pull τ) a v
 | .any,v,_=>.any
 | .pure p,v,h=>by cases h with|pure h=>exact .pure h
 | .tt,v,h=>by cases h;exact .tt
 | .ff,v,h=>by cases h;exact .ff
 | .agg r,v,h=>by
   cases h with
   |agg k h=>
    rw[ezt]at k;exact .agg k λj a v d e=>
     have:SizeOf.sizeOf a<1+SizeOf.sizeOf r:=by have:=zP (zu d);omega
     ARel.unren a v (h j _ v (by rw[lzm,d];rfl) e)
 | .tup r,v,h=>by
   cases h with
   |tup k h=>
    rw[ezt]at k;exact .tup k λj a v d e=>
     have:SizeOf.sizeOf a<1+SizeOf.sizeOf r:=by have:=zP (zu d);omega
     ARel.unren a v (h j _ v (by rw[lzm,d];rfl) e)
 | .vec i,v,h=>by
   cases h with
   |vnil h=>exact .vnil h
   |vec h=>exact .vec h
 | .ptr i o,v,h=>by cases h;exact .ptr (ρ:=ρ.pull τ)
 | .eptr i a b c,v,h=>by cases h with|eptr h=>exact .eptr (ρ:=ρ.pull τ) h
 | .ref p,v,h=>by cases h with|ref h=>exact .ref h
 | .func f x y,v,h=>by
   cases h with
   |func g m l q=>
    rw[ezt]at g l;exact .func g (λj a v d e=>
     have:SizeOf.sizeOf a<1+SizeOf.sizeOf f+SizeOf.sizeOf x+SizeOf.sizeOf y:=by have:=zP (zu d);omega
     ARel.unren a v (m j _ v (by rw[lzm,d];rfl) e)) l (λj a v d e=>
     have:SizeOf.sizeOf a<1+SizeOf.sizeOf f+SizeOf.sizeOf x+SizeOf.sizeOf y:=by have:=zP (zu d);omega
     ARel.unren a v (q j _ v (by rw[lzm,d];rfl) e))
 | .map i,v,h=>by cases h;exact .map (ρ:=ρ.pull τ)
 | .bsl i n,v,h=>by cases h;exact .bsl (ρ:=ρ.pull τ)
 | .view i a b c,v,h=>by
   cases h with
   |view h h1 h2=>exact .view (ρ:=ρ.pull τ) h h1 h2
   |viewN h h1=>exact .viewN (ρ:=ρ.pull τ) h h1
 | .anyb,v,h=>by simp only[AVal.ren]at h;cases h;exact .anyb
 | .nilp,v,h=>by simp only[AVal.ren]at h;cases h;exact .nilp
 | .clip p,v,h=>by simp only[AVal.ren]at h;cases h with|clip h=>exact .clip h
 | .yld _,v,h=>by simp only[AVal.ren]at h;cases h;exact .yld
 | .iface t a,v,h=>by simp only[AVal.ren]at h;cases h with|iface h=>exact .iface (ARel.unren a _ h)
termination_by a=>SizeOf.sizeOf a
theorem Szd (σ:Nat->Nat)(a:List (Nat×Nat))(i:Nat):sz8 (a.map λx=>(x.1,σ x.2)) i=sz8 a i:=by
 grind[sz8,List.any_map]
theorem zzo {c:Array qr}{sz n off k i b:Nat}(σ:Nat->Nat)(a:List (Nat×Nat)):InnU c sz n off k (a.map λx=>(x.1,σ x.2)) i b↔InnU c sz n off k a i b:=by
 simp_all[InnU,Szd]
theorem UOk.ren {F:Cells}{w:qn}{ρ ρ':Env}{τ:Nat->Nat}(r:∀i,ρ'.vec (τ i)=ρ.vec i){c:Array qr}{sz n k off o:Nat}{f:Nat->PVal}{m:TypeId}{a:List (Nat×Nat)}:
 UOk F w ρ' c sz n f k off o m (a.map λx=>(x.1,τ x.2))↔UOk F w ρ c sz n f k off o m a:=by
 constructor
 ·intro h;refine⟨h.len,h.cell,λi p hi q j=>h.own i p hi (by simp_all[Szd]) j,λx l=>?_,?_,λi g b e d=>h.inj i g b ((zzo τ a).2 e) ((zzo τ a).2 d)⟩
  ·obtain⟨e,d⟩:=h.hole (x.1,τ x.2) (xh.2 ⟨x,l,rfl⟩)
   simp_all
  ·have:=h.nodup;grind
 ·intro h;refine⟨h.len,h.cell,λi p hi q j=>h.own i p hi (by simp_all[Szd]) j,λy s=>?_,?_,λi g b e d=>h.inj i g b ((zzo τ a).1 e) ((zzo τ a).1 d)⟩
  ·obtain⟨x,l,rfl⟩:=xh.1 s;obtain⟨e,d⟩:=h.hole x l
   simp_all
  ·simpa[List.map_map,Function.comp_def]using h.nodup
theorem ResOk.ren {F:Cells}{w:qn}{ρ ρ':Env}{τ:Nat->Nat}(m:∀i,ρ'.blk (τ i)=ρ.blk i/\ρ'.vec (τ i)=ρ.vec i){i:Nat}{r:Res}(h:ResOk F w ρ i r):ResOk F w ρ' (τ i) (r.ren τ):=by
 obtain⟨t,d⟩:=m i;cases r with
 |gone=>trivial
 |nilv=>show ρ'.vec (τ i)=none;rw[d];exact h
 |box O=>
  obtain⟨c,e,g,l,o,x⟩:=h;refine⟨c,e,by rw[t];exact g,by rw[ezt];exact l,by rw[t];exact o,λj a v z d=>?_⟩;rw[lzm,Option.map_eq_some_iff]at z;obtain⟨b,u,rfl⟩:=z;exact⟨(x j b v u d).1.ren m,(x j b v u d).2⟩
 |vec sz n f k e=>
  refine⟨h.1,?_⟩;rw[d];exact h.2
 |map N K J=>
  obtain⟨H,q,g,l,o⟩:=h;exact⟨H,q,by rw[t];exact g,by rw[t];exact l,o⟩
 |iter s L=>exact⟨by rw[t];exact h.1,by rw[t];exact h.2⟩
 |tok τ p=>exact h
 |dat sz n f=>show PRel F w (.lst sz n f) (gzs (ρ'.vec (τ i)));rw[d];exact h
 |vecT sz n f e I C=>
  obtain⟨b,cap,c,g,l⟩:=h;exact⟨b,cap,c,by rw[d];exact g,l⟩
 |vecX sz n f e C off k=>
  obtain⟨y,b,cap,c,g,l⟩:=h;refine⟨by rw[d];exact y,b,cap,c,by rw[d];exact g,?_⟩;rw[(m k).2];exact l
 |vecU sz n f k e off P I G=>
  obtain⟨y,M,h⟩:=h;refine⟨y,M,?_⟩;rcases h with⟨g,l,o⟩|⟨b,cap,c,g,l,o,x,A,D,E,B⟩
  ·exact .inl ⟨by rw[d];exact g,l,by rw[o];rfl⟩
  ·exact .inr ⟨b,cap,c,by rw[d];exact g,l,o,x,A,D,(UOk.ren λi=>(m i).2).2 E,λi hi=>B i ((zzo τ G).1 hi)⟩
theorem ResOk.unren {F:Cells}{w:qn}{ρ:Env}{τ:Nat->Nat}{i:Nat}{r:Res}(h:ResOk F w ρ (τ i) (r.ren τ)):ResOk F w (ρ.pull τ) i r:=by
 cases r with
 |gone=>trivial
 |nilv=>exact h
 |box J=>
  obtain⟨c,e,g,d,m,l⟩:=h;rw[ezt]at d;exact⟨c,e,g,d,m,λj a v q o=>⟨ARel.unren a v (l j _ v (by rw[lzm,q];rfl) o).1,(l j _ v (by rw[lzm,q];rfl) o).2⟩⟩
 |vec sz n f k e=>exact h
 |vecT sz n f e E y=>exact h
 |vecX sz n f e y off k=>exact h
 |vecU sz n f k e off K E D=>
  obtain⟨z,G,h⟩:=h;refine⟨z,G,?_⟩;rcases h with⟨g,d,m⟩|⟨b,cap,c,g,d,m,l,t,x,u,A⟩
  ·exact .inl ⟨g,d,jr⟩
  ·exact .inr ⟨b,cap,c,g,d,m,l,t,x,(UOk.ren (ρ:=ρ.pull τ) (ρ':=ρ) (τ:=τ) λi=>rfl).1 u,λi hi=>A i ((zzo τ D).2 hi)⟩
 |map I H B=>exact h
 |iter s C=>exact h
 |tok τ p=>exact h
 |dat sz n f=>exact h
theorem qzf {w:qn}{ρ ρ':Env}{τ:Nat->Nat}{i b:Nat}{r:Res}(a:ρ'.blk (τ i)=ρ.blk i/\ρ'.vec (τ i)=ρ.vec i):Owns w ρ' (τ i) (r.ren τ) b↔Owns w ρ i r b:=by
 cases r<;>simp[Owns,mzh,bz8,Res.ren,a.1,a.2,zzo]
theorem Nzf {τ:Nat->Nat}:∀ {m:Mem} {j:Nat} {a:Res},(Mem.ren τ m).get j=some a->∃i r,(i,r)∈m/\j=τ i/\a=r.ren τ
 |[],j,a,h=>by grind[Mem.ren,Mem.get]
 |(i,r)::m,j,a,h=>by
  simp only[Mem.ren,Mem.get]at h;split at h
  ·cases h;rename_i e;exact⟨i,r,jq,e.symm,rfl⟩
  ·obtain⟨g,b,f,c,d⟩:=Nzf h;exact⟨g,b,by simp[f],c,d⟩
theorem Zzb {τ:Nat->Nat}:∀ {m:Mem} (_:∀x∈m,∀j,τ x.1=τ j->(∃y∈m,y.1=j)->x.1=j) (i:Nat),(∃x∈m,x.1=i)->(Mem.ren τ m).get (τ i)=(m.get i).map (Res.ren τ)
 |[],_,i,⟨x,b,_⟩=>by rfl
 |(k,r)::m,a,i,hi=>by
  simp only[Mem.ren,Mem.get];by_cases c:k=i
  ·subst c;simp
  ·have f:¬τ k=τ i:=λe=>c (a (k,r) jq i e hi)
   rw[qb f,qb c];refine Zzb (λx b j g d=>?_) i ?_
   ·obtain⟨y,d,rfl⟩:=d;exact a x (by simp[b]) y.1 g ⟨y,by simp[d],rfl⟩
   ·obtain⟨x,b,rfl⟩:=hi;simp only[xa]at b;rcases b with rfl|b
    ·exact absurd rfl c
    ·exact⟨x,b,rfl⟩
theorem gzz {m:Mem}{i:Nat}{r:Res}(h:m.get i=some r):(i,r)∈m:=by
 induction m<;>grind[Mem.get]
theorem Yza {m:Mem}{i:Nat}(h:∃x∈m,x.1=i):∃r,m.get i=some r:=by
 induction m with
 |nil=>simp_all
 |cons x m a=>
  simp only[Mem.get];split
  ·simp_all
  ·refine a ?_
   simp_all
variable {P:qo} {m:Mem}
theorem ozb {F:Cells}{w:qn}{ρ:Env}{Mine:Nat->Prop}{M:Mem}(x:MemOk F w ρ Mine M)(g:Good F w Mine){js:List Nat}:∀ {t l:List AVal} {vs:List qr},l.length=vs.length->
 (∀ (j:Nat) (a:AVal) (v:qr),l[j]?=some a->vs[j]?=some v->ARel F w ρ a v)->(∀i∈(bzh m t l).2,i∈js)->(∀i∈(bzh m t l).2,M.get i=m.get i)->
 (bzh m t l).1.length=vs.length/\∀ (j:Nat) (a:AVal) (v:qr),(bzh m t l).1[j]?=some a->vs[j]?=some v->ARel (dzv F w ρ m js) w ρ a v
 |_,[],[],_,_,_,_=>by simp[bzh]
 |_,[],_::_,h,_,_,_=>jt
 |_,_::_,[],h,_,_,_=>jt
 |t,a::l,v::vs,G,B,c,d=>by
  have r:l.length=vs.length:=jr
  have q:∀ (j:Nat) (a:AVal) (v:qr),l[j]?=some a->vs[j]?=some v->ARel F w ρ a v:=λj a v D E=>B (j+1) a v jr jr
  have s:=B 0 a v jq jq;have C:∀b o,F b o->dzv F w ρ m js b o:=λb o h=>.inl h
  by_cases e:azov (t.headD .any)=true
  ·simp only[bzh,e,if_true]at c d⊢;obtain⟨z,A⟩:=ozb x g r q c d;refine⟨jt,λj b u n k=>?_⟩;cases j with
   |zero=>simp at n k;subst n;subst k;exact s.mono' C (λ_ _ _=>rfl)
   |succ j=>grind
  simp only[bzh,e,if_false,Bool.false_eq_true]at c d⊢;split
  ·rename_i p is f;rw[f]at c d;simp only[List.mem_append]at c d;obtain⟨z,A⟩:=ozb x g r q (λi hi=>c i (.inr hi)) (λi hi=>d i (.inr hi));refine⟨jt,λj b u n k=>?_⟩;cases j with
   |zero=>
    simp at n k;subst n;subst k;unfold azdx at f;split at f
    ·split at f
     ·rename_i y;cases f;cases s with
      |iface s=>exact .iface (.pure (kza x g y (λi hi=>c i (.inl hi)) (λi hi=>d i (.inl hi)) s))
     simp_all
    ·split at f
     ·rename_i y;cases f;exact .pure (kza x g y (λi hi=>c i (.inl hi)) (λi hi=>d i (.inl hi)) s)
     simp_all
   |succ j=>grind
  ·rename_i f;rw[f]at c d;obtain⟨z,A⟩:=ozb x g r q c d;refine⟨jt,λj b u n k=>?_⟩;cases j with
   |zero=>simp at n k;subst n;subst k;exact s.mono' C (λ_ _ _=>rfl)
   |succ j=>grind
theorem Bzs {F:Cells}{w:qn}{ρ:Env}{Mine:Nat->Prop}{M:Mem}(G:MemOk F w ρ Mine M):∀ {g l:List AVal} {vs:List qr},l.length=vs.length->
 (∀ (j:Nat) (a:AVal) (v:qr),l[j]?=some a->vs[j]?=some v->ARel F w ρ a v)->(∀i∈(dz1 m g l).2,M.get i=m.get i)->
 (dz1 m g l).1.length=vs.length/\∀ (j:Nat) (a:AVal) (v:qr),(dz1 m g l).1[j]?=some a->vs[j]?=some v->ARel F w ρ a v
 |_,[],[],_,_,_=>by simp[dz1]
 |_,[],_::_,h,_,_=>jt
 |_,_::_,[],h,_,_=>jt
 |g,a::l,v::vs,L,E,d=>by
  have x:l.length=vs.length:=by simpa using L
  have t:∀ (j:Nat) (a:AVal) (v:qr),l[j]?=some a->vs[j]?=some v->ARel F w ρ a v:=λj a v N z=>E (j+1) a v (by simpa using N) (by simpa using z)
  have s:=E 0 a v jq jq
  have e:(∀i∈(dz1 m g.tail l).2,M.get i=m.get i)->∀r:AVal,ARel F w ρ r v->(r::(dz1 m g.tail l).1).length=(v::vs).length/\
   ∀ (j:Nat) (b:AVal) (u:qr),(r::(dz1 m g.tail l).1)[j]?=some b->(v::vs)[j]?=some u->ARel F w ρ b u:=by
   intro q r y;obtain⟨J,I⟩:=Bzs G x t q;refine⟨by simp[J],λj b u D C=>?_⟩;cases j with
   |zero=>simp at D C;subst D;subst C;exact y
   |succ j=>exact I j b u (by simpa using D) (by simpa using C)
  unfold dz1 at d⊢;split at d
  ·rename_i k sz lo n id Q;split at d
   ·rename_i A K P k' O H;split at d
    ·rename_i B;subst B;simp only[↓reduceIte];refine e (λi hi=>d i (by simp[hi])) _ ?_;obtain⟨_,p⟩:=G.ok id _ ((d id jq).trans H);cases s with
     |vnil o=>
      rcases p with⟨_,rfl⟩|⟨b,cap,c,f,_⟩
      ·exact .viewN o rfl
      ·rw[o]at f;cases f
     |vec o=>
      rcases p with⟨f,_⟩|⟨b,cap,c,f,_⟩
      ·rw[o]at f;cases f
      ·rw[o]at f;cases f;have z:=ARel.view (F:=F) (w:=w) (sz:=A) (lo:=0) (n:=K) (a:=⟨_,0,none⟩) o qa (λ_=>by simp;rfl);simpa using z
    ·rename_i B;simp only[B,↓reduceIte];exact e d _ s
   ·exact e d _ s
  ·exact e d _ s
theorem rzo {F:Cells}{w:qn}{ρ:Env}:∀ {d e:List AVal},Gza d e->d.length=e.length/\∀ (j:Nat) (b:AVal),e[j]?=some b->∃a,d[j]?=some a/\∀v,ARel F w ρ a v->ARel F w ρ b v
 |[],[],_=>jq
 |a::d,b::e,h=>by
  obtain⟨k,i⟩:=h;obtain⟨m,l⟩:=rzo (F:=F) (w:=w) (ρ:=ρ) i;refine⟨jt,λj c f=>?_⟩;cases j with
  |zero=>simp at f;subst f;exact⟨a,jq,λv g=>k.rel F w ρ v g⟩
  |succ j=>simp_all
 |[],_::_,h=>h.elim
 |_::_,[],h=>h.elim
theorem uzl {d:Mem}:∀ {c:Mem},MSub d c->∀ {i:Nat} {r:Res},(i,r)∈c->∃b,d.get i=some b/\RSub b r
 |[],_,i,r,h=>jt
 |(k,f)::c,a,i,r,h=>by
  simp only[MSub]at a;simp only[xa,Prod.mk.injEq]at h;rcases h with⟨rfl,rfl⟩|h
  ·cases e:d.get i with
   |none=>rw[e]at a;exact a.1.elim
   |some b=>rw[e]at a;exact⟨b,rfl,a.1⟩
  ·exact uzl a.2 h
theorem Fz4 {σ:List (Nat×Nat)}{k id i:Nat}(h:Own k i):ezc σ k id i=id+(i-k):=qc h
theorem Tzg {σ:List (Nat×Nat)}{k id i:Nat}(h:¬Own k i):ezc σ k id i=match Hzn σ i with|some b=>b|none=>id+64+i:=qb h
theorem Gz5:∀ {σ:List (Nat×Nat)} {i b:Nat},Hzn σ i=some b->(i,b)∈σ
 |[],i,b,h=>by simp[Hzn]at h
 |(x,y)::σ,i,b,h=>by
  simp only[Hzn]at h;split at h
  ·rename_i e;subst e;cases h;simp
  ·simp[Gz5 h]
theorem Jz3:∀ {σ:List (Nat×Nat)} {i:Nat},(∃y∈σ,y.1=i)->∃b,Hzn σ i=some b
 |[],i,⟨y,a,_⟩=>jt
 |(x,z)::σ,i,⟨y,a,c⟩=>by
  simp only[Hzn];split
  ·simp_all
  ·simp only[xa]at a;rcases a with rfl|a
   ·omega
   ·exact Jz3 ⟨y,a,c⟩
structure RenOk (h:Hint) (id:Nat):Prop where
 old:∀i,¬Own h.k i->¬Own id (ezc h.σ h.k id i)
 inj:∀i j,(Own h.k i\/∃y∈h.σ,y.1=i)->(Own h.k j\/∃y∈h.σ,y.1=j)->ezc h.σ h.k id i=ezc h.σ h.k id j->i=j
 m:∀x∈h.m,¬Own h.k x.1/\∃y∈h.σ,y.1=x.1
 m':∀x∈h.m',Own h.k x.1\/∃y∈h.σ,y.1=x.1
 sub:∀x∈h.m,∃y∈h.m',y.1=x.1
theorem az7u {h:Hint}{id:Nat}(o:Tzf h id=true):RenOk h id:=by
 simp only[Tzf,Bool.and_eq_true,List.all_eq_true,Bool.not_eq_true',Bool.and_eq_false_iff,qi,List.any_eq_true,beq_iff_eq,Bool.or_eq_true,bne_iff_ne,qf,Nat.not_lt,Nat.not_le]at o;obtain⟨⟨⟨⟨s,t⟩,v⟩,q⟩,z⟩:=o;have old:∀i,¬Own h.k i->¬Own id (ezc h.σ h.k id i):=by
  intro i hi n;rw[Tzg hi]at n;cases w:Hzn h.σ i with
  |none=>obtain⟨_,p⟩:=n;grind
  |some b=>
   obtain⟨r,p⟩:=n;have:=s _ (Gz5 w)
   grind
 refine⟨old,λi j hi u f=>?_,λx m=>?_,λx m=>?_,λx m=>?_⟩
 ·by_cases a:Own h.k i<;>by_cases c:Own h.k j
  ·rw[Fz4 a,Fz4 c]at f;obtain⟨g,d⟩:=a;obtain⟨B,A⟩:=c;omega
  ·exfalso
   apply old j c;rw[<-f,Fz4 a];obtain⟨g,d⟩:=a;exact⟨qa,qa⟩
  ·exfalso
   apply old i a;rw[f,Fz4 c];obtain⟨g,d⟩:=c;exact⟨qa,qa⟩
  ·obtain⟨y,l⟩:=Jz3 (hi.resolve_left a);obtain⟨C,e⟩:=Jz3 (u.resolve_left c);rw[Tzg a,Tzg c,l,e]at f;simp only at f;have:=t _ (Gz5 l) _ (Gz5 e);omega
 ·obtain⟨g,d⟩:=v x m;exact⟨λ⟨r,p⟩=>qa,d⟩
 ·exact(q x m).imp (λ⟨g,d⟩=>⟨g,d⟩) (λh=>h)
 grind
theorem Yzr {τ:Nat->Nat}{i:Nat}{r:Res}:∀ {m:Mem},(i,r)∈m->(τ i,r.ren τ)∈Mem.ren τ m
 |[],h=>jt
 |(k,q)::l,h=>by
  simp only[xa,Prod.mk.injEq]at h;simp only[Mem.ren,xa,Prod.mk.injEq];rcases h with⟨rfl,rfl⟩|h
  ·exact .inl ⟨rfl,rfl⟩
  ·exact .inr (Yzr h)
theorem az0k {C:Array qr->qn->(Ending->qn->Prop)->Prop}(mono:∀ {vs w R R'},C vs w R->(∀e w',R e w'->R' e w')->C vs w R'){h:Hint}{id:Nat}
 (hs:∀ (F:Cells) (w:qn) (ρ:Env) (Mine:Nat->Prop) (vs:Array qr),MemOk F w ρ Mine h.m->Good F w Mine->Hzu F w ρ h.args vs->
  C vs w λe w'=>∃v F' ρ',e=.returned v/\Step Mine F w F' w'/\dz4 h.k ρ ρ'/\ARel F' w' ρ' h.res v/\MemOk F' w' ρ' Mine h.m') (ro:RenOk h id) {F:Cells} {w:qn} {ρ:Env} {Mine:Nat->Prop} {M:Mem} (hm:MemOk F w ρ Mine M) (g:Good F w Mine) (fr:Fresh id M)
 (hmem:∀x∈Mem.ren (ezc h.σ h.k id) h.m,∃r0,M.get x.1=some r0/\RSub r0 x.2) {vs:Array qr} (hargs:Hzu F w ρ (AVal.renL (ezc h.σ h.k id) h.args) vs):
 C vs w λe w'=>∃v F' ρ',e=.returned v/\Step Mine F w F' w'/\dz4 id ρ ρ'/\ARel F' w' ρ' (h.res.ren (ezc h.σ h.k id)) v/\MemOk F' w' ρ' Mine (Mem.ren (ezc h.σ h.k id) h.m'++M):=by
 generalize hτ:ezc h.σ h.k id=τ at *
 have hold:∀i,¬Own h.k i->¬Own id (τ i):=by rw[<-hτ];exact ro.old
 have hinj:∀i j,(Own h.k i\/∃y∈h.σ,y.1=i)->(Own h.k j\/∃y∈h.σ,y.1=j)->τ i=τ j->i=j:=by rw[<-hτ];exact ro.inj
 have hnewτ:∀i,Own h.k i->τ i=id+(i-h.k):=by rw[<-hτ];exact λi hi=>Fz4 hi
 have hmget:∀i r,h.m.get i=some r->∃r0,M.get (τ i)=some r0/\RSub r0 (r.ren τ):=by
  intro i r hi;have hin:(τ i,r.ren τ)∈Mem.ren τ h.m:=Yzr (gzz hi);exact hmem _ hin
 have hblk0:∀i r b,h.m.get i=some r->Owns w (ρ.pull τ) i r b->∃r0,M.get (τ i)=some r0/\Owns w ρ (τ i) r0 b:=by
  intro i r b hi hb;obtain⟨r0,h1,h2⟩:=hmget i r hi;refine⟨r0,h1,(h2.rel F w ρ (τ i) (hm.ok _ _ h1)).2 b ?_⟩;rw[qzf (ρ:=ρ.pull τ) (ρ':=ρ) ⟨rfl,rfl⟩];exact hb
 have hdomM:∀i r,h.m.get i=some r->Own h.k i\/∃y∈h.σ,y.1=i:=λi r hi=>.inr (ro.m _ (gzz hi)).2
 let Mine0:Nat->Prop:=λb=>(∃i r,h.m.get i=some r/\Owns w (ρ.pull τ) i r b)\/w.heap.size<=b
 have hM0:MemOk F w (ρ.pull τ) Mine0 h.m:=by
  refine⟨λi r hi=>?_,λi r b hi hb=>⟨.inl ⟨i,r,hi,hb⟩,?_⟩,λi i' r r' b hi hi' hb hb'=>?_⟩
  ·obtain⟨r0,h1,h2⟩:=hmget i r hi;exact(h2.rel F w ρ (τ i) (hm.ok _ _ h1)).1.unren
  ·obtain⟨r0,h1,h2⟩:=hblk0 i r b hi hb;exact(hm.mine _ _ _ h1 h2).2
  ·obtain⟨r0,h1,h2⟩:=hblk0 i r b hi hb;obtain⟨r1,h3,h4⟩:=hblk0 i' r' b hi' hb';exact hinj i i' (hdomM i r hi) (hdomM i' r' hi') (hm.disj _ _ _ _ b h1 h3 h2 h4)
 have hMine:∀b,Mine0 b->Mine b:=by
  intro b hb;rcases hb with⟨i,r,hi,hb⟩|hb
  ·obtain⟨r0,h1,h2⟩:=hblk0 i r b hi hb;exact(hm.mine _ _ _ h1 h2).1
  ·exact g.mine b hb
 have g0:Good F w Mine0:=⟨g.lt,λb hb=>.inr hb,g.tab⟩;have hargs0:Hzu F w (ρ.pull τ) h.args vs:=by
  refine⟨by rw[<-hargs.1,ezt],λj a v ha hv=>ARel.unren a v (hargs.2 j _ v (by rw[lzm,ha];rfl) hv)⟩
 refine mono (hs F w (ρ.pull τ) Mine0 vs hM0 g0 hargs0) ?_;rintro e w' ⟨v,F',ρ0',rfl,st0,he0,hres,hM'⟩;let ρ':Env:=⟨λj=>if id<=j/\j<id+64 then ρ0'.blk (h.k+(j-id))else ρ.blk j,λj=>if id<=j/\j<id+64 then ρ0'.vec (h.k+(j-id))else ρ.vec j⟩;have he:dz4 id ρ ρ':=λi hi=>⟨qb hi,qb hi⟩
 have hag:∀i,ρ'.blk (τ i)=ρ0'.blk i/\ρ'.vec (τ i)=ρ0'.vec i:=by
  intro i;by_cases hi:Own h.k i
  ·have e1:=hnewτ i hi;obtain⟨i1,i2⟩:=hi;have hO:id<=τ i/\τ i<id+64:=qa
   have e2:h.k+(τ i-id)=i:=qa
   constructor
   ·show(if _ then _ else _)=_;rw[qc hO,e2]
   ·show(if _ then _ else _)=_;rw[qc hO,e2]
  ·obtain⟨a1,a2⟩:=he _ (hold i hi);obtain⟨b1,b2⟩:=he0 i hi;exact⟨a1.trans b1.symm,a2.trans b2.symm⟩
 have st:Step Mine F w F' w':=⟨st0.sub,st0.cell,λb o hF=>(st0.new b o hF).imp (λh=>h) (hMine b),st0.lt,
  ⟨st0.keep.os,st0.keep.tape,st0.keep.output,st0.keep.size,λk hk hn=>st0.keep.block k hk (λh=>hn (hMine k h))⟩⟩
 refine⟨v,F',ρ',rfl,st,he,hres.ren hag,?_⟩;have hdom':∀i r,h.m'.get i=some r->Own h.k i\/∃y∈h.σ,y.1=i:=λi r hi=>ro.m' _ (gzz hi)
 have hget':∀j r',(Mem.ren τ h.m').get j=some r'->∃i r,h.m'.get i=some r/\j=τ i/\r'=r.ren τ:=by
  intro j r' hj;obtain⟨i,r,h1,rfl,rfl⟩:=Nzf hj;have:=Zzb (τ:=τ) (m:=h.m') (λx hx j hj hy=>by
   obtain⟨y,hy,rfl⟩:=hy;exact hinj _ _ (ro.m' x hx) (ro.m' y hy) hj) i ⟨_,h1,rfl⟩
  rw[hj]at this;cases hg:h.m'.get i with
  |none=>rw[hg]at this;simp at this
  |some r2=>
   rw[hg]at this;simp only[Option.map_some,Option.some.injEq]at this;exact⟨i,r2,hg,rfl,this⟩
 have hnot0:∀j r b,M.get j=some r->(Mem.ren τ h.m').get j=none->Owns w ρ j r b->¬Mine0 b:=by
  intro j r b hj hn hb hmine0;rcases hmine0 with⟨i,r1,hi,hb1⟩|hge
  ·obtain⟨r0,h1,h2⟩:=hblk0 i r1 b hi hb1;have:τ i=j:=hm.disj _ _ _ _ b h1 hj h2 hb;subst this;obtain⟨y,hy,he⟩:=ro.sub _ (gzz hi);have:=Zzb (τ:=τ) (m:=h.m') (λx hx j hj hy=>by
    obtain⟨y,hy,rfl⟩:=hy;exact hinj _ _ (ro.m' x hx) (ro.m' y hy) hj) i ⟨y,hy,he⟩
   obtain⟨r2,hr2⟩:=Yza (m:=h.m') ⟨y,hy,he⟩;rw[hn,hr2]at this;simp at this
  ·have:=(hm.mine j r b hj hb).2;omega
 refine MemOk.step hm st (λi=>¬Own id i) he _ (λj r hj hn=>⟨λho=>(by rw[fr.none j ho]at hj;cases hj),λi hi=>fr.has i j r (Classical.not_not.1 hi) hj,λb hb=>⟨?_,λo hF=>?_⟩⟩) (λj r' hj=>?_) (λj j' r r' b hj hj' hb hb'=>?_)
 ·exact st0.keep.block b (hm.mine j r b hj hb).2 (hnot0 j r b hj hn hb)
 ·exact(st0.new b o hF).resolve_right (hnot0 j r b hj hn hb)
 ·obtain⟨i,r,hi,rfl,rfl⟩:=hget' j r' hj;refine⟨(hM'.ok i r hi).ren hag,λb hb=>?_⟩;rw[qzf (hag i)]at hb;obtain⟨q1,q2⟩:=hM'.mine i r b hi hb;exact⟨hMine b q1,q2,λk r1 hk hn hbk=>hnot0 k r1 b hk hn hbk q1⟩
 ·obtain⟨i,r1,hi,rfl,rfl⟩:=hget' j r hj;obtain⟨i',r2,hi',rfl,rfl⟩:=hget' j' r' hj';rw[qzf (hag i)]at hb;rw[qzf (hag i')]at hb';rw[hM'.disj i i' r1 r2 b hi hi' hb hb']
end Go.Abs
