import Derived.Test.YtagmfmidaochlaaGreatDoorZIVc
open List renaming length->S
open Option renaming some->T
open Go renaming Value->qq,World->qm,Program->qn
open List renaming sizeOf_lt_of_mem->jv,mem_of_getElem?->z6,mem_map->xi,mem_cons->wQ
namespace Go.Abs
def rL (P:qn)(o:Oper)(a:Act)(w:qm)(R:qq->qm->Prop):Prop:=
 ∀ (b:Act->qm->Prop) (Q:Exit->Act->qm->Prop),(∀v c,R v c->b (a.put o.dst v) c)->o.wpIn Fence.wide 0 P a w b Q
theorem DD {P:qn}{o:Oper}{a:Act}{w:qm}{b:Act->qm->Prop}{Q:Exit->Act->qm->Prop}(h:o.wp P a w b Q):o.wpIn Fence.wide 0 P a w b Q:=by
 refine⟨λ_ _=>trivial,?_⟩;unfold Oper.wp at h;show o.uponIn Fence.wide 0 P a b Q ((execOp a.eval o).run P w);generalize (execOp a.eval o).run P w=r at h⊢;cases r with
 |ok x i=>
  cases x with
  |value v=>exact h
  |skip=>exact h
  |«defer» d=>exact h
  |enter f j=>exact⟨(λh=>by cases h),callsIn_wide.2 h⟩
  |row r j=>
   refine⟨(λh=>by cases h),λc g _=>?_⟩;obtain⟨v,e,r,s⟩:=h c g;grind[stepsIn_wide]
  |_=>exact h.elim
 |halt x i=>cases x<;>first|exact h|exact h.elim
def Sound2 (P:qn)(o:Oper)(d:Operand->ac)(m:Mem)(id:Nat)(out:Out):Prop:=
 ∀ (F:Cells) (w:qm) (ρ:Env) (c:Nat->Prop) (M:Mem) (a:Act),
   aG F w ρ c M->bM F w c->dN id M->(∀i∈out.rd,M.get i=m.get i)->
   (∀x∈o.op.operands,∀i,Own id i->(d x).has i=false)->
   (∀x∈o.op.operands,ak F w ρ (d x) (a.eval x))->
   rL P o a w λv b=>∃e ρ',Step c F w e b/\cA id ρ ρ'/\ak e b ρ' out.val v/\aG e b ρ' c (out.wr++M)
theorem aq.to2 {P:qn}{o:Oper}{p:Operand->ac}{m:Mem}{id:Nat}{out:Out}(h:aq P o p m id out):Sound2 P o p m id out:=by
 intro F w ρ Mine M a i k n j l g d Q f;obtain⟨v,e,r,ρ',c,b⟩:=h F w ρ Mine M a i k n j l g;refine DD ?_;unfold Oper.wp;rcases c with c|⟨c,rfl⟩
 {rw[c];exact f v e ⟨r,ρ',b⟩};rw[c];exact f undef e ⟨r,ρ',b⟩
theorem gt (τ:Nat->Nat):∀ (l:List ac) (j:Nat),(ac.renL τ l)[j]?=(l[j]?).map (ac.ren τ)
 |[],j=>by rfl
 |a::l,0=>by rfl
 |a::l,j+1=>by simpa[ac.renL]using gt τ l j
theorem fN (τ:Nat->Nat):∀ (l:List ac),S (ac.renL τ l)=S l
 |[]=>rfl
 |_::l=>by simp[ac.renL,fN τ l]
def Env.pull (ρ:Env)(τ:Nat->Nat):Env:=⟨λi=>ρ.blk (τ i),λi=>ρ.vec (τ i)⟩
theorem ak.ren {F:Cells}{w:qm}{ρ ρ':Env}{τ:Nat->Nat}(c:∀i,ρ'.blk (τ i)=ρ.blk i/\ρ'.vec (τ i)=ρ.vec i){a:ac}{v:qq}(h:ak F w ρ a v):ak F w ρ' (a.ren τ) v:=by
 have b:∀ {l:List ac} {o:Array qq},(∀ (j:Nat) (a:ac) (v:qq),l[j]?=T a->o[j]?=T v->ak F w ρ' (a.ren τ) v)->
  ∀ (j:Nat) (a:ac) (v:qq),(ac.renL τ l)[j]?=T a->o[j]?=T v->ak F w ρ' a v:=by
  grind[gt]
 induction h with
 |any=>exact .any
 |pure h=>exact .pure h
 |tt=>exact .tt
 |ff=>exact .ff
 |agg m _ d=>exact .agg (by grind[fN]) (b d)
 |tup m _ d=>exact .tup (by grind[fN]) (b d)
 |vnil h=>exact .vnil jW
 |vec h=>exact .vec jW
 |ptr=>rw[<-(c _).1];exact .ptr
 |eptr h=>exact .eptr (by rw[(c _).2];exact h)
 |ref h=>exact .ref h
 |func e _ k _ f g=>exact .func (by grind[fN]) (b f) (by grind[fN]) (b g)
 |map=>rw[<-(c _).1];exact .map
 |bsl=>rw[<-(c _).1];exact .bsl
 |view h e k=>exact .view jW e k
 |viewN h e=>exact .viewN jW e
 |iface _ d=>exact .iface d
 |anyb=>exact .anyb
 |nilp=>exact .nilp
 |clip h=>exact .clip h
 |yld=>exact .yld
theorem ak.unren {F:Cells}{w:qm}{ρ:Env}{τ:Nat->Nat}:∀ (a:ac) (v:qq),ak F w ρ (a.ren τ) v->ak F w (ρ.pull τ) a v
 | .any,v,_=>.any
 | .pure p,v,h=>by cases h with|pure h=>exact .pure h
 | .tt,v,h=>by cases h;exact .tt
 | .ff,v,h=>by cases h;exact .ff
 | .agg r,v,h=>by
   cases h with
   |agg k h=>
    rw[fN]at k;exact .agg k λj a v d e=>
     have:SizeOf.sizeOf a<1+SizeOf.sizeOf r:=by have:=jv (z6 d);omega
     ak.unren a v (h j _ v (by rw[gt,d];rfl) e)
 | .tup r,v,h=>by
   cases h with
   |tup k h=>
    rw[fN]at k;exact .tup k λj a v d e=>
     have:SizeOf.sizeOf a<1+SizeOf.sizeOf r:=by have:=jv (z6 d);omega
     ak.unren a v (h j _ v (by rw[gt,d];rfl) e)
 | .vec i,v,h=>by
   cases h with
   |vnil h=>exact .vnil h
   |vec h=>exact .vec h
 | .ptr i o,v,h=>by cases h;exact .ptr (ρ:=ρ.pull τ)
 | .eptr i a b c,v,h=>by cases h with|eptr h=>exact .eptr (ρ:=ρ.pull τ) h
 | .ref p,v,h=>by cases h with|ref h=>exact .ref h
 | .func f x y,v,h=>by
   cases h with
   |func g m l q=>
    rw[fN]at g l;exact .func g (λj a v d e=>
     have:SizeOf.sizeOf a<1+SizeOf.sizeOf f+SizeOf.sizeOf x+SizeOf.sizeOf y:=by have:=jv (z6 d);omega
     ak.unren a v (m j _ v (by rw[gt,d];rfl) e)) l (λj a v d e=>
     have:SizeOf.sizeOf a<1+SizeOf.sizeOf f+SizeOf.sizeOf x+SizeOf.sizeOf y:=by have:=jv (z6 d);omega
     ak.unren a v (q j _ v (by rw[gt,d];rfl) e))
 | .map i,v,h=>by cases h;exact .map (ρ:=ρ.pull τ)
 | .bsl i n,v,h=>by cases h;exact .bsl (ρ:=ρ.pull τ)
 | .view i a b c,v,h=>by
   cases h with
   |view h s z=>exact .view (ρ:=ρ.pull τ) h s z
   |viewN h s=>exact .viewN (ρ:=ρ.pull τ) h s
 | .anyb,v,h=>by simp only[ac.ren]at h;cases h;exact .anyb
 | .nilp,v,h=>by simp only[ac.ren]at h;cases h;exact .nilp
 | .clip p,v,h=>by simp only[ac.ren]at h;cases h with|clip h=>exact .clip h
 | .yld _,v,h=>by simp only[ac.ren]at h;cases h;exact .yld
 | .iface t a,v,h=>by simp only[ac.ren]at h;cases h with|iface h=>exact .iface (ak.unren a _ h)
termination_by a=>SizeOf.sizeOf a
theorem DZ (σ:Nat->Nat)(a:List (Nat×Nat))(i:Nat):dj (a.map λx=>(x.1,σ x.2)) i=dj a i:=by grind[dj,List.any_map]
variable {c:Array qq}
theorem ld{e n d k i b:Nat}(σ:Nat->Nat)(a:List (Nat×Nat)):InnU c e n d k (a.map λx=>(x.1,σ x.2)) i b↔InnU c e n d k a i b:=by simp_all[InnU,DZ]
theorem UOk.ren{F:Cells}{w:qm}{ρ ρ':Env}{τ:Nat->Nat}(r:∀i,ρ'.vec (τ i)=ρ.vec i){A n k t o:Nat}{f:Nat->ae}{m:TypeId}{a:List (Nat×Nat)}:
 UOk F w ρ' c A n f k t o m (a.map λx=>(x.1,τ x.2))↔UOk F w ρ c A n f k t o m a:=by
 constructor
 ·intro h;refine⟨h.len,h.cell,λi p z q j=>h.own i p z (by simp_all[DZ]) j,λx l=>?_,?_,λi g b e d=>h.inj i g b ((ld τ a).2 e) ((ld τ a).2 d)⟩
  ·obtain⟨e,d⟩:=h.hole (x.1,τ x.2) (xi.2 ⟨x,l,rfl⟩);simp_all
  have:=h.nodup;grind
 intro h;refine⟨h.len,h.cell,λi p z q j=>h.own i p z (by simp_all[DZ]) j,λy s=>?_,?_,λi g b e d=>h.inj i g b ((ld τ a).1 e) ((ld τ a).1 d)⟩
 ·obtain⟨x,l,rfl⟩:=xi.1 s;obtain⟨e,d⟩:=h.hole x l;simp_all
 simpa[List.map_map,Function.comp_def]using h.nodup
theorem cH.ren {F:Cells}{w:qm}{ρ ρ':Env}{τ:Nat->Nat}(m:∀i,ρ'.blk (τ i)=ρ.blk i/\ρ'.vec (τ i)=ρ.vec i){i:Nat}{r:Res}(h:cH F w ρ i r):cH F w ρ' (τ i) (r.ren τ):=by
 obtain⟨t,d⟩:=m i;cases r with
 |gone=>trivial
 |nilv=>show ρ'.vec (τ i)=none;rw[d];exact h
 |box O=>
  obtain⟨c,e,g,l,o,x⟩:=h;refine⟨c,e,by rw[t];exact g,by rw[fN];exact l,by rw[t];exact o,λj a v z d=>?_⟩;rw[gt,Option.map_eq_some_iff]at z;obtain⟨b,u,rfl⟩:=z;exact⟨(x j b v u d).1.ren m,(x j b v u d).2⟩
 |vec R n f k e=>
  refine⟨h.1,?_⟩;rw[d];exact h.2
 |map N K J=>
  obtain⟨H,q,g,l,o⟩:=h;exact⟨H,q,by rw[t];exact g,by rw[t];exact l,o⟩
 |iter s L=>exact⟨by rw[t];exact h.1,by rw[t];exact h.2⟩
 |tok τ p=>exact h
 |dat R n f=>show aH F w (.lst R n f) (dA (ρ'.vec (τ i)));rw[d];exact h
 |vecT R n f e I C=>
  obtain⟨b,Q,c,g,l⟩:=h;exact⟨b,Q,c,by rw[d];exact g,l⟩
 |vecX R n f e C U k=>
  obtain⟨y,b,Q,c,g,l⟩:=h;refine⟨by rw[d];exact y,b,Q,c,by rw[d];exact g,?_⟩;rw[(m k).2];exact l
 |vecU R n f k e U P I G=>
  obtain⟨y,M,h⟩:=h;refine⟨y,M,?_⟩;rcases h with⟨g,l,o⟩|⟨b,Q,c,g,l,o,x,A,D,E,B⟩;{exact .inl ⟨by rw[d];exact g,l,by rw[o];rfl⟩};exact .inr ⟨b,Q,c,by rw[d];exact g,l,o,x,A,D,(UOk.ren λi=>(m i).2).2 E,λi V=>B i ((ld τ G).1 V)⟩
theorem cH.unren {F:Cells}{w:qm}{ρ:Env}{τ:Nat->Nat}{i:Nat}{r:Res}(h:cH F w ρ (τ i) (r.ren τ)):cH F w (ρ.pull τ) i r:=by
 cases r with
 |gone=>trivial
 |nilv=>exact h
 |box J=>
  obtain⟨c,e,g,d,m,l⟩:=h;rw[fN]at d;exact⟨c,e,g,d,m,λj a v q o=>⟨ak.unren a v (l j _ v (by rw[gt,q];rfl) o).1,(l j _ v (by rw[gt,q];rfl) o).2⟩⟩
 |vec L n f k e=>exact h
 |vecT L n f e E y=>exact h
 |vecX L n f e y N k=>exact h
 |vecU L n f k e N K E D=>
  obtain⟨z,G,h⟩:=h;refine⟨z,G,?_⟩;rcases h with⟨g,d,m⟩|⟨b,M,c,g,d,m,l,t,x,u,A⟩;{exact .inl ⟨g,d,jW⟩};exact .inr ⟨b,M,c,g,d,m,l,t,x,(UOk.ren (ρ:=ρ.pull τ) (ρ':=ρ) (τ:=τ) λi=>rfl).1 u,λi O=>A i ((ld τ D).2 O)⟩
 |map I H B=>exact h
 |iter s C=>exact h
 |tok τ p=>exact h
 |dat L n f=>exact h
theorem iK {w:qm}{ρ ρ':Env}{τ:Nat->Nat}{i b:Nat}{r:Res}(a:ρ'.blk (τ i)=ρ.blk i/\ρ'.vec (τ i)=ρ.vec i):aE w ρ' (τ i) (r.ren τ) b↔aE w ρ i r b:=by cases r<;>simp[aE,cX,aX,Res.ren,a.1,a.2,ld]
theorem Dy {τ:Nat->Nat}:∀ {m:Mem} {j:Nat} {a:Res},(Mem.ren τ m).get j=T a->∃i r,(i,r)∈m/\j=τ i/\a=r.ren τ
 |[],j,a,h=>by grind[Mem.ren,Mem.get]
 |(i,r)::m,j,a,h=>by
  simp only[Mem.ren,Mem.get]at h;split at h;{cases h;rename_i e;exact⟨i,r,jV,e.symm,rfl⟩};obtain⟨g,b,f,c,d⟩:=Dy h;exact⟨g,b,by simp[f],c,d⟩
theorem sY {τ:Nat->Nat}:∀ {m:Mem} (_:∀x∈m,∀j,τ x.1=τ j->(∃y∈m,y.1=j)->x.1=j) (i:Nat),(∃x∈m,x.1=i)->(Mem.ren τ m).get (τ i)=(m.get i).map (Res.ren τ)
 |[],_,i,⟨x,b,_⟩=>by rfl
 |(k,r)::m,a,i,h=>by
  simp only[Mem.ren,Mem.get];by_cases c:k=i;{subst c;simp};have f:¬τ k=τ i:=λe=>c (a (k,r) jV i e h)
  rw[qb f,qb c];refine sY (λx b j g d=>?_) i ?_;{obtain⟨y,d,rfl⟩:=d;exact a x (by simp[b]) y.1 g ⟨y,by simp[d],rfl⟩};obtain⟨x,b,rfl⟩:=h;simp only[wQ]at b;rcases b with rfl|b;{exact absurd rfl c};exact⟨x,b,rfl⟩
theorem dK {m:Mem}{i:Nat}{r:Res}(h:m.get i=T r):(i,r)∈m:=by induction m<;>grind[Mem.get]
theorem EL {m:Mem}{i:Nat}(h:∃x∈m,x.1=i):∃r,m.get i=T r:=by
 induction m with
 |nil=>simp_all
 |cons x m a=>
  simp only[Mem.get];split;{simp_all};refine a ?_;simp_all
variable {P:qn} {m:Mem}
theorem rf {F:Cells}{w:qm}{ρ:Env}{I:Nat->Prop}{M:Mem}(x:aG F w ρ I M)(g:bM F w I){js:List Nat}:∀ {t l:List ac} {vs:List qq},S l=S vs->
 (∀ (j:Nat) (a:ac) (v:qq),l[j]?=T a->vs[j]?=T v->ak F w ρ a v)->(∀i∈(bP m t l).2,i∈js)->(∀i∈(bP m t l).2,M.get i=m.get i)->
 (bP m t l).1.length=S vs/\∀ (j:Nat) (a:ac) (v:qq),(bP m t l).1[j]?=T a->vs[j]?=T v->ak (cM F w ρ m js) w ρ a v
 |_,[],[],_,_,_,_=>by simp[bP]
 |_,[],_::_,h,_,_,_=>jX
 |_,_::_,[],h,_,_,_=>jX
 |t,a::l,v::vs,G,B,c,d=>by
  have r:S l=S vs:=jW;have q:∀ (j:Nat) (a:ac) (v:qq),l[j]?=T a->vs[j]?=T v->ak F w ρ a v:=λj a v D E=>B (j+1) a v jW jW
  have s:=B 0 a v jV jV;have C:∀b o,F b o->cM F w ρ m js b o:=λb o h=>.inl h
  by_cases e:UI (t.headD .any)=true
  ·simp only[bP,e,if_true]at c d⊢;obtain⟨z,A⟩:=rf x g r q c d;refine⟨jX,λj b u n k=>?_⟩;cases j with
   |zero=>simp at n k;subst n;subst k;exact s.mono' C (λ_ _ _=>rfl)
   |succ j=>grind
  simp only[bP,e,if_false,Bool.false_eq_true]at c d⊢;split
  ·rename_i p is f;rw[f]at c d;simp only[List.mem_append]at c d;obtain⟨z,A⟩:=rf x g r q (λi H=>c i (.inr H)) (λi H=>d i (.inr H));refine⟨jX,λj b u n k=>?_⟩;cases j with
   |zero=>
    simp at n k;subst n;subst k;unfold TB at f;split at f
    ·split at f
     ·rename_i y;cases f;cases s with
      |iface s=>exact .iface (.pure (mf x g y (λi H=>c i (.inl H)) (λi H=>d i (.inl H)) s))
     simp_all
    split at f;{rename_i y;cases f;exact .pure (mf x g y (λi H=>c i (.inl H)) (λi H=>d i (.inl H)) s)};simp_all
   |succ j=>grind
  rename_i f;rw[f]at c d;obtain⟨z,A⟩:=rf x g r q c d;refine⟨jX,λj b u n k=>?_⟩;cases j with
  |zero=>simp at n k;subst n;subst k;exact s.mono' C (λ_ _ _=>rfl)
  |succ j=>grind
theorem rN {F:Cells}{w:qm}{ρ:Env}{U:Nat->Prop}{M:Mem}(G:aG F w ρ U M):∀ {g l:List ac} {R:List qq},S l=S R->
 (∀ (j:Nat) (a:ac) (v:qq),l[j]?=T a->R[j]?=T v->ak F w ρ a v)->(∀i∈(b7 m g l).2,M.get i=m.get i)->
 (b7 m g l).1.length=S R/\∀ (j:Nat) (a:ac) (v:qq),(b7 m g l).1[j]?=T a->R[j]?=T v->ak F w ρ a v
 |_,[],[],_,_,_=>by simp[b7]
 |_,[],_::_,h,_,_=>jX
 |_,_::_,[],h,_,_=>jX
 |g,a::l,v::R,L,E,d=>by
  have x:S l=S R:=by simpa using L
  have t:∀ (j:Nat) (a:ac) (v:qq),l[j]?=T a->R[j]?=T v->ak F w ρ a v:=λj a v N z=>E (j+1) a v (by simpa using N) (by simpa using z)
  have s:=E 0 a v jV jV
  have e:(∀i∈(b7 m g.tail l).2,M.get i=m.get i)->∀r:ac,ak F w ρ r v->S (r::(b7 m g.tail l).1)=S (v::R)/\
   ∀ (j:Nat) (b:ac) (u:qq),(r::(b7 m g.tail l).1)[j]?=T b->(v::R)[j]?=T u->ak F w ρ b u:=by
   intro q r y;obtain⟨J,I⟩:=rN G x t q;refine⟨by simp[J],λj b u D C=>?_⟩;cases j with
   |zero=>simp at D C;subst D;subst C;exact y
   |succ j=>exact I j b u (by simpa using D) (by simpa using C)
  unfold b7 at d⊢;split at d
  ·rename_i k Z Y n id Q;split at d
   ·rename_i A K P k' O H;split at d
    ·rename_i B;subst B;simp only[↓reduceIte];refine e (λi X=>d i (by simp[X])) _ ?_;obtain⟨_,p⟩:=G.ok id _ ((d id jV).trans H);cases s with
     |vnil o=>
      rcases p with⟨_,rfl⟩|⟨b,V,c,f,_⟩;{exact .viewN o rfl};rw[o]at f;cases f
     |vec o=>
      rcases p with⟨f,_⟩|⟨b,V,c,f,_⟩;{rw[o]at f;cases f};rw[o]at f;cases f;have z:=ak.view (F:=F) (w:=w) (sz:=A) (lo:=0) (n:=K) (a:=⟨_,0,none⟩) o qa (λ_=>by simp;rfl);simpa using z
    rename_i B;simp only[B,↓reduceIte];exact e d _ s
   exact e d _ s
  exact e d _ s
theorem mi {F:Cells}{w:qm}{ρ:Env}:∀ {d e:List ac},ei d e->S d=S e/\∀ (j:Nat) (b:ac),e[j]?=T b->∃a,d[j]?=T a/\∀v,ak F w ρ a v->ak F w ρ b v
 |[],[],_=>jV
 |a::d,b::e,h=>by
  obtain⟨k,i⟩:=h;obtain⟨m,l⟩:=mi (F:=F) (w:=w) (ρ:=ρ) i;refine⟨jX,λj c f=>?_⟩;cases j with
  |zero=>simp at f;subst f;exact⟨a,jV,λv g=>k.rel F w ρ v g⟩
  |succ j=>simp_all
 |[],_::_,h=>h.elim
 |_::_,[],h=>h.elim
theorem k0 {d:Mem}:∀ {c:Mem},ej d c->∀ {i:Nat} {r:Res},(i,r)∈c->∃b,d.get i=T b/\RSub b r
 |[],_,i,r,h=>jX
 |(k,f)::c,a,i,r,h=>by
  simp only[ej]at a;simp only[wQ,Prod.mk.injEq]at h;rcases h with⟨rfl,rfl⟩|h
  ·cases e:d.get i with
   |none=>rw[e]at a;exact a.1.elim
   |some b=>rw[e]at a;exact⟨b,rfl,a.1⟩
  exact k0 a.2 h
theorem n8 {σ:List (Nat×Nat)}{k id i:Nat}(h:Own k i):bn σ k id i=id+(i-k):=qc h
theorem D6 {σ:List (Nat×Nat)}{k id i:Nat}(h:¬Own k i):bn σ k id i=match gB σ i with|some b=>b|none=>id+64+i:=qb h
theorem rU:∀ {σ:List (Nat×Nat)} {i b:Nat},gB σ i=T b->(i,b)∈σ
 |[],i,b,h=>by simp[gB]at h
 |(x,y)::σ,i,b,h=>by
  simp only[gB]at h;split at h;{rename_i e;subst e;cases h;simp};simp[rU h]
theorem CS:∀ {σ:List (Nat×Nat)} {i:Nat},(∃y∈σ,y.1=i)->∃b,gB σ i=T b
 |[],i,⟨y,a,_⟩=>jX
 |(x,z)::σ,i,⟨y,a,c⟩=>by
  simp only[gB];split;{simp_all};simp only[wQ]at a;rcases a with rfl|a
  {omega};exact CS ⟨y,a,c⟩
structure RenOk (h:Hint) (id:Nat):Prop where
 old:∀i,¬Own h.k i->¬Own id (bn h.σ h.k id i)
 inj:∀i j,(Own h.k i\/∃y∈h.σ,y.1=i)->(Own h.k j\/∃y∈h.σ,y.1=j)->bn h.σ h.k id i=bn h.σ h.k id j->i=j
 m:∀x∈h.m,¬Own h.k x.1/\∃y∈h.σ,y.1=x.1
 m':∀x∈h.m',Own h.k x.1\/∃y∈h.σ,y.1=x.1
 sub:∀x∈h.m,∃y∈h.m',y.1=x.1
theorem SQ {h:Hint}{id:Nat}(o:ga h id=true):RenOk h id:=by
 simp only[ga,Bool.and_eq_true,List.all_eq_true,Bool.not_eq_true',Bool.and_eq_false_iff,qi,List.any_eq_true,beq_iff_eq,Bool.or_eq_true,bne_iff_ne,qf,Nat.not_lt,Nat.not_le]at o;obtain⟨⟨⟨⟨s,t⟩,v⟩,q⟩,z⟩:=o;have D:∀i,¬Own h.k i->¬Own id (bn h.σ h.k id i):=by
  intro i E n;rw[D6 E]at n;cases w:gB h.σ i with
  |none=>obtain⟨_,p⟩:=n;grind
  |some b=>
   obtain⟨r,p⟩:=n;have:=s _ (rU w);grind
 refine⟨D,λi j E u f=>?_,λx m=>?_,λx m=>?_,λx m=>?_⟩
 ·by_cases a:Own h.k i<;>by_cases c:Own h.k j
  {rw[n8 a,n8 c]at f;obtain⟨g,d⟩:=a;obtain⟨B,A⟩:=c;omega}
  ·exfalso
   apply D j c;rw[<-f,n8 a];obtain⟨g,d⟩:=a;exact⟨qa,qa⟩
  ·exfalso
   apply D i a;rw[f,n8 c];obtain⟨g,d⟩:=c;exact⟨qa,qa⟩
  obtain⟨y,l⟩:=CS (E.resolve_left a);obtain⟨C,e⟩:=CS (u.resolve_left c);rw[D6 a,D6 c,l,e]at f;simp only at f;have:=t _ (rU l) _ (rU e);omega
 {obtain⟨g,d⟩:=v x m;exact⟨λ⟨r,p⟩=>qa,d⟩};{exact(q x m).imp (λ⟨g,d⟩=>⟨g,d⟩) (λh=>h)};grind
theorem sT {τ:Nat->Nat}{i:Nat}{r:Res}:∀ {m:Mem},(i,r)∈m->(τ i,r.ren τ)∈Mem.ren τ m
 |[],h=>jX
 |(k,q)::l,h=>by
  simp only[wQ,Prod.mk.injEq]at h;simp only[Mem.ren,wQ,Prod.mk.injEq];rcases h with⟨rfl,rfl⟩|h
  {exact .inl ⟨rfl,rfl⟩};exact .inr (sT h)
theorem Q6{C:Array qq->qm->(Ending->qm->Prop)->Prop}(mono:∀ {c w R R'},C c w R->(∀e B,R e B->R' e B)->C c w R'){h:Hint}{id:Nat}
 (hs:∀ (F:Cells) (w:qm) (ρ:Env) (d:Nat->Prop) (c:Array qq),aG F w ρ d h.m->bM F w d->eh F w ρ h.args c->
  C c w λe B=>∃v J ρ',e=.returned v/\Step d F w J B/\cA h.k ρ ρ'/\ak J B ρ' h.res v/\aG J B ρ' d h.m') (Y:RenOk h id) {F:Cells} {w:qm} {ρ:Env} {d:Nat->Prop} {M:Mem} (V:aG F w ρ d M) (g:bM F w d) (fr:dN id M)
 (hmem:∀x∈Mem.ren (bn h.σ h.k id) h.m,∃r0,M.get x.1=T r0/\RSub r0 x.2)  (G:eh F w ρ (ac.renL (bn h.σ h.k id) h.args) c):
 C c w λe B=>∃v J ρ',e=.returned v/\Step d F w J B/\cA id ρ ρ'/\ak J B ρ' (h.res.ren (bn h.σ h.k id)) v/\aG J B ρ' d (Mem.ren (bn h.σ h.k id) h.m'++M):=by
 generalize hτ:bn h.σ h.k id=τ at *
 have hold:∀i,¬Own h.k i->¬Own id (τ i):=by rw[<-hτ];exact Y.old
 have H:∀i j,(Own h.k i\/∃y∈h.σ,y.1=i)->(Own h.k j\/∃y∈h.σ,y.1=j)->τ i=τ j->i=j:=by rw[<-hτ];exact Y.inj
 have hnewτ:∀i,Own h.k i->τ i=id+(i-h.k):=by rw[<-hτ];exact λi N=>n8 N
 have I:∀i r,h.m.get i=T r->∃r0,M.get (τ i)=T r0/\RSub r0 (r.ren τ):=by
  intro i r N;have hin:(τ i,r.ren τ)∈Mem.ren τ h.m:=sT (dK N);exact hmem _ hin
 have l:∀i r b,h.m.get i=T r->aE w (ρ.pull τ) i r b->∃r0,M.get (τ i)=T r0/\aE w ρ (τ i) r0 b:=by
  intro i r b N f;obtain⟨r0,A,D⟩:=I i r N;refine⟨r0,A,(D.rel F w ρ (τ i) (V.ok _ _ A)).2 b ?_⟩;rw[iK (ρ:=ρ.pull τ) (ρ':=ρ) ⟨rfl,rfl⟩];exact f
 have hdomM:∀i r,h.m.get i=T r->Own h.k i\/∃y∈h.σ,y.1=i:=λi r N=>.inr (Y.m _ (dK N)).2
 let Mine0:Nat->Prop:=λb=>(∃i r,h.m.get i=T r/\aE w (ρ.pull τ) i r b)\/w.heap.size<=b
 have hM0:aG F w (ρ.pull τ) Mine0 h.m:=by
  refine⟨λi r N=>?_,λi r b N f=>⟨.inl ⟨i,r,N,f⟩,?_⟩,λi i' r L b N U f Q=>?_⟩;{obtain⟨r0,A,D⟩:=I i r N;exact(D.rel F w ρ (τ i) (V.ok _ _ A)).1.unren};{obtain⟨r0,A,D⟩:=l i r b N f;exact(V.mine _ _ _ A D).2};obtain⟨r0,A,D⟩:=l i r b N f;obtain⟨r1,h3,h4⟩:=l i' L b U Q;exact H i i' (hdomM i r N) (hdomM i' L U) (V.disj _ _ _ _ b A h3 D h4)
 have hMine:∀b,Mine0 b->d b:=by
  intro b f;rcases f with⟨i,r,N,f⟩|f
  {obtain⟨r0,A,D⟩:=l i r b N f;exact(V.mine _ _ _ A D).1};exact g.mine b f
 have g0:bM F w Mine0:=⟨g.lt,λb f=>.inr f,g.tab⟩;have O:eh F w (ρ.pull τ) h.args c:=by
  refine⟨by rw[<-G.1,fN],λj a v ha hv=>ak.unren a v (G.2 j _ v (by rw[gt,ha];rfl) hv)⟩
 refine mono (hs F w (ρ.pull τ) Mine0 c hM0 g0 O) ?_;rintro e B ⟨v,J,ρ0',rfl,p,he0,hres,hM'⟩;let ρ':Env:=⟨λj=>if id<=j/\j<id+64 then ρ0'.blk (h.k+(j-id))else ρ.blk j,λj=>if id<=j/\j<id+64 then ρ0'.vec (h.k+(j-id))else ρ.vec j⟩;have he:cA id ρ ρ':=λi N=>⟨qb N,qb N⟩
 have E:∀i,ρ'.blk (τ i)=ρ0'.blk i/\ρ'.vec (τ i)=ρ0'.vec i:=by
  intro i;by_cases N:Own h.k i
  ·have e1:=hnewτ i N;obtain⟨i1,i2⟩:=N;have hO:id<=τ i/\τ i<id+64:=qa;have e2:h.k+(τ i-id)=i:=qa;constructor;{show(if _ then _ else _)=_;rw[qc hO,e2]};show(if _ then _ else _)=_;rw[qc hO,e2]
  obtain⟨a1,a2⟩:=he _ (hold i N);obtain⟨b1,b2⟩:=he0 i N;exact⟨a1.trans b1.symm,a2.trans b2.symm⟩
 have st:Step d F w J B:=⟨p.sub,p.cell,λb o hF=>(p.new b o hF).imp (λh=>h) (hMine b),p.lt,
  ⟨p.keep.os,p.keep.tape,p.keep.output,p.keep.size,λk hk Z=>p.keep.block k hk (λh=>Z (hMine k h))⟩⟩
 refine⟨v,J,ρ',rfl,st,he,hres.ren E,?_⟩;have hdom':∀i r,h.m'.get i=T r->Own h.k i\/∃y∈h.σ,y.1=i:=λi r N=>Y.m' _ (dK N)
 have t:∀j L,(Mem.ren τ h.m').get j=T L->∃i r,h.m'.get i=T r/\j=τ i/\L=r.ren τ:=by
  intro j L s;obtain⟨i,r,A,rfl,rfl⟩:=Dy s;have:=sY (τ:=τ) (m:=h.m') (λx hx j s K=>by
   obtain⟨y,K,rfl⟩:=K;exact H _ _ (Y.m' x hx) (Y.m' y K) s) i ⟨_,A,rfl⟩
  rw[s]at this;cases hg:h.m'.get i with
  |none=>rw[hg]at this;simp at this
  |some r2=>
   rw[hg]at this;simp only[Option.map_some,Option.some.injEq]at this;exact⟨i,r2,hg,rfl,this⟩
 have z:∀j r b,M.get j=T r->(Mem.ren τ h.m').get j=none->aE w ρ j r b->¬Mine0 b:=by
  intro j r b s Z f X;rcases X with⟨i,r1,N,hb1⟩|hge
  ·obtain⟨r0,A,D⟩:=l i r1 b N hb1;have:τ i=j:=V.disj _ _ _ _ b A s D f;subst this;obtain⟨y,K,he⟩:=Y.sub _ (dK N);have:=sY (τ:=τ) (m:=h.m') (λx hx j s K=>by
    obtain⟨y,K,rfl⟩:=K;exact H _ _ (Y.m' x hx) (Y.m' y K) s) i ⟨y,K,he⟩
   obtain⟨r2,hr2⟩:=EL (m:=h.m') ⟨y,K,he⟩;rw[Z,hr2]at this;simp at this
  have:=(V.mine j r b s f).2;omega
 refine aG.step V st (λi=>¬Own id i) he _ (λj r s Z=>⟨λho=>(by rw[fr.none j ho]at s;cases s),λi N=>fr.has i j r (Classical.not_not.1 N) s,λb f=>⟨?_,λo hF=>?_⟩⟩) (λj L s=>?_) (λj j' r L b s hj' f Q=>?_);{exact p.keep.block b (V.mine j r b s f).2 (z j r b s Z f)};{exact(p.new b o hF).resolve_right (z j r b s Z f)};{obtain⟨i,r,N,rfl,rfl⟩:=t j L s;refine⟨(hM'.ok i r N).ren E,λb f=>?_⟩;rw[iK (E i)]at f;obtain⟨q1,q2⟩:=hM'.mine i r b N f;exact⟨hMine b q1,q2,λk r1 hk Z hbk=>z k r1 b hk Z hbk q1⟩};obtain⟨i,r1,N,rfl,rfl⟩:=t j r s;obtain⟨i',r2,U,rfl,rfl⟩:=t j' L hj';rw[iK (E i)]at f;rw[iK (E i')]at Q;rw[hM'.disj i i' r1 r2 b N U f Q]
end Go.Abs
