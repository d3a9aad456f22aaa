import Derived.Test.YtagmfmidaochlaaGreatDoorZITBase
open Bool renaming true->H,false->L
open Option renaming some->E,none->G
open Array renaming ext'->zF,getD_eq_getD_getElem?->zn,getElem?_eq_some_iff->zG,getElem?_append_left->zH,replicate->zx
open Bool renaming and_eq_true->ql
open Go renaming World->qm,Program->qn
open Nat renaming le_refl->wg
open Option renaming bind_eq_some_iff->zI
namespace Go.Abs
theorem Step.wider {j a:Nat->Prop}{F m:Cells}{w c:qm}(h:Step j F w m c)(d:∀b,j b->a b):Step a F w m c:=
 ⟨h.sub,h.cell,λb o e=>(h.new b o e).imp (λh=>h) (d b),h.lt,⟨h.keep.os,h.keep.tape,h.keep.output,h.keep.size,λk g f=>h.keep.block k g λi=>f (d k i)⟩⟩
theorem Step.put {f:Nat->Prop}{F:Cells}{w:qm}(g:bM F w f){l:Nat}(c:f l)(d:∀o,¬F l o)(i:Obj):Step f F w F (w.putObj l i):=by refine⟨λ_ _ h=>h,λb o h=>?_,λ_ _ h=>.inl h,λb o h=>?_,⟨rfl,rfl,rfl,jV,λk _ a=>World.putObj_heap_other λe=>a (e▸c)⟩⟩;{grind[World.cell?_of_block,World.putObj_heap_other]};rw[World.putObj_size];exact g.lt b o h
theorem aG.keepB {F t:Cells}{w e:qm}{ρ:Env}{s:Nat->Prop}{M:Mem}(g:aG F w ρ s M)(n:∀b o,F b o->t b o)
 (p:∀b o,F b o->e.cell? ⟨b,o,G⟩=w.cell? ⟨b,o,G⟩) (m:w.heap.size<=e.heap.size)
 (c:∀j r b,M.get j=E r->aE w ρ j r b->e.heap[b]?=w.heap[b]?/\∀o,t b o->F b o):aG t e ρ s M:=by
 have d:∀j r,M.get j=E r->∀b,aE e ρ j r b↔aE w ρ j r b:=λj r h=>h6 ⟨rfl,rfl⟩ λb a=>(c j r b h a).1
 refine⟨λj r h=>(g.ok j r h).keep (λ_=>True) n p (λ_ _=>⟨rfl,rfl⟩) trivial (λ_ h=>absurd trivial h) λb a=>c j r b h a,λj r b h a=>?_,λj i r k b h l a f=>?_⟩
 ·rw[d j r h]at a;have:=g.mine j r b h a;grind
 rw[d j r h]at a;rw[d i k l]at f;exact g.disj j i r k b h l a f
def T8:Res->Bool
 | .box _=>H
 |_=>L
def e6 (m:Mem):Bool:=m.all λx=>T8 x.2
variable {r:Res}
theorem gl{m:Mem}(h:e6 m=H){i:Nat}(c:m.get i=E r):∃b,r=.box b:=by
 have:=List.all_eq_true.1 h _ (dK c);cases r<;>simp[T8]at this
 simp_all
theorem box_owns {w:qm}{ρ:Env}{i b:Nat}{a:List ac}:aE w ρ i (.box a) b↔ρ.blk i=b:=by simp[aE,cX,aX]
theorem ai3 {F:Cells}{w:qm}{ρ:Env}{i:Nat}{a:List ac}(h:cH F w ρ i (.box a)):ρ.blk i<w.heap.size/\∀o,¬F (ρ.blk i) o:=by obtain⟨c,e,b,_,d,_⟩:=h;grind
theorem iI{m a:Mem}(h:m.map (·.1)=a.map (·.1)){i:Nat}(c:m.get i=E r):∃b,a.get i=E b:=by
 have d:i∈a.map (·.1):=by rw[<-h];exact List.mem_map.2 ⟨_,dK c,rfl⟩
 cases e:a.get i with
 |some b=>simp_all
 |none=>
  clear h c;induction a<;>grind[Mem.get]
def tokP (d:Bool)(p:ae):ae:=bif d then .agg [p]else .nilI
structure dC (P:qn) {A:Type} (encX:A->ae) (o:A->Option Bool)where
 l:Nat
 τ:Tok
 ok:∀x y,o x=E y->YSpec P l 1 [.pure (encX x)] [(0,.tok τ .nilI)] (.pure (.bool !y)) [(0,.tok τ (tokP y (encX x)))]
def dC.C {P:qn}{A:Type}{encX:A->ae}{o:A->Option Bool}(Y:dC P encX o)(d:Bool)(a x:A):aK Bool:=
 ⟨P,.yld Y.l,bif d then G else o x,1,[.pure (encX x)],[(0,.tok Y.τ (tokP d (encX a)))],λy=>.pure (.bool !y),λy=>[(0,.tok Y.τ (tokP y (encX x)))],λy b=>by
  cases d with
  |true=>grind
  |false=>exact Y.ok x y b⟩
section
variable (ρ:Env) (F0:Cells) (w0:qm) (l D:Nat) (rec:LoopState->Option Code->Loop) (bx:Mem) (memD:ae->Mem)
def rngJ (p:ae)(F:Cells)(w:qm):Prop:=
 (∀b o,F0 b o->F b o/\w.cell? ⟨b,o,G⟩=w0.cell? ⟨b,o,G⟩)/\w.heap[D]?=E (.deferred (E []))/\(∀o,¬F D o)/\(∀o,¬F l o)/\
 ((p=.nilI/\w.heap[l]?=E (.loop (rec .ready G))/\∀i r,bx.get i=E r->cH F w ρ i r)\/
   ∃x,p=.agg [x]/\w.heap[l]?=E (.loop (rec .done (E .ret)))/\∀i r,(memD x).get i=E r->cH F w ρ i r)
def rngB (b:Nat):Prop:=(∃i r,bx.get i=E r/\ρ.blk i=b)\/b=l\/b=D
variable (hbx:e6 bx=H) (hmD:∀x,e6 (memD x)=H/\(memD x).map (·.1)=bx.map (·.1))
include hbx hmD in
theorem afI {p:ae}{F t:Cells}{w c:qm}(h:rngJ ρ F0 w0 l D rec bx memD p F w)(C:∀b o,F b o->t b o)
 (v:∀b o,F b o->c.cell? ⟨b,o,G⟩=w.cell? ⟨b,o,G⟩) (n:∀b,rngB ρ l D bx b->c.heap[b]?=w.heap[b]?/\∀o,t b o->F b o):rngJ ρ F0 w0 l D rec bx memD p t c:=by
 obtain⟨I,x,y,u,K⟩:=h;obtain⟨g,f⟩:=n D (.inr (.inr rfl));obtain⟨A,d⟩:=n l (.inr (.inl rfl));have s:∀ (m:Mem),e6 m=true->m.map (·.1)=bx.map (·.1)->(∀i r,m.get i=E r->cH F w ρ i r)->∀i r,m.get i=E r->cH t c ρ i r:=by
  intro m a M z i r j;obtain⟨J,rfl⟩:=gl a j;obtain⟨B,k⟩:=iI M j;refine(z i _ j).keep (λ_=>True) C v (λ_ _=>⟨rfl,rfl⟩) trivial (λ_ h=>absurd trivial h) λb a=>?_
  rw[box_owns]at a;exact n b (.inl ⟨i,B,k,a⟩)
 refine⟨λb o a=>?_,g.trans x,λo e=>y o (f o e),λo e=>u o (d o e),?_⟩;all_goals grind
def FT:Tok:=⟨rngB ρ l D bx,rngJ ρ F0 w0 l D rec bx memD,λh d i c=>afI ρ F0 w0 l D rec bx memD hbx hmD h d i c⟩
end
def Um (bx b:Mem)(e:Ex)(t:T Bool)(s:St):Ob:=
 match finT t s with
 |some (y,a)=>(match e with
  | .normal=>.and (.eq y L) (subM a.mem bx)
  | .ret=>.and (.eq y H) (subM a.mem b)
  |_=>.no)
 |none=>.no
def Fr (P:qn)(g c:Nat)(a:List Oper->List aP->Bool)(b d:Code)(t:T Bool)(s:St)(bx f:Mem):Ob:=
 vcT P g c a b t s λe t s=>match e with
  | .normal=>vcT P g c a d t s (Um bx f)
  |_=>.no
section
variable {P:qn} {drawOk:List Oper->List aP->Bool} {A:Type} {encX:A->ae} {N:Nat}
theorem ae1 (hd:fp P drawOk){nt n1:Nat}{bodyT:A->T Bool}{s V:Code}(hra:rOk s=H)(hrb:rOk V=H){J:Nat}(hp0:J<nt)
 {fr:List (Nat×ac)} {bx:Mem} {memD:ae->Mem} (hbx:e6 bx=H) (hmD:∀x,e6 (memD x)=H/\(memD x).map (·.1)=bx.map (·.1))
 {ρ:Env} {F0:Cells} {w0:qm} {a:Array Value} (htm:a.size=nt) (hfr:∀t,ak F0 w0 ρ (di fr t) (a.getD t undef)) {l D:Nat} (hlD:l≠D) {fn:FuncId}
 (hdis:∀i i' r r',bx.get i=E r->bx.get i'=E r'->ρ.blk i=ρ.blk i'->i=i') (hlb:∀i r,bx.get i=E r->ρ.blk i≠l/\ρ.blk i≠D)
 (hok:∀x,St.ok ⟨(J,.pure (encX x))::fr,bx,[],n1⟩=H)
 (hmL:∀x,b6 n1 (memD (encX x))=H)
 (h:∀x,(Fr P nt n1 drawOk s V (bodyT x) ⟨(J,.pure (encX x))::fr,bx,[],n1⟩ bx (memD (encX x))).holds) (x:A) (y:Bool) (hrun:(bodyT x).run N=E y):
 YSpec P l 1 [.pure (encX x)] [(0,.tok (FT ρ F0 w0 l D (λR pe=>{state:=R,pending:=pe,fn:=fn,tmps:=a,params:=#[J],assign:=s,body:=V,defers:=D}) bx memD hbx hmD) .nilI)] (.pure (.bool !y))
  [(0,.tok (FT ρ F0 w0 l D (λR pe=>{state:=R,pending:=pe,fn:=fn,tmps:=a,params:=#[J],assign:=s,body:=V,defers:=D}) bx memD hbx hmD) (tokP y (encX x)))]:=by
 refine⟨λS w1 ρc Mine1 vs hm g hargs=>?_⟩;obtain⟨hF0,hD,hFD,hFl,hst⟩:=hm.ok 0 _ rfl;have hst:=hst.resolve_right (by rintro⟨x,hx,_⟩;cases hx);obtain⟨_,hl,d⟩:=hst;have f:∀b,rngB ρ l D bx b->Mine1 b/\b<w1.heap.size:=λb d=>hm.mine 0 _ b rfl (.inr d)
 obtain⟨v,hvs⟩:∃v,vs=#[v]:=by
  have hs:=hargs.1;simp at hs;exact⟨vs[0],by apply zF;obtain⟨l⟩:=vs;match l,hs with|[u],_=>rfl⟩
 subst hvs;have hv:ak S w1 ρ (.pure (encX x)) v:=.pure (hargs.2 0 _ v rfl rfl).pure_inv;let Mine':Nat->Prop:=λb=>(∃i r,bx.get i=E r/\ρ.blk i=b)\/w1.heap.size<=b
 have hMM:∀b,Mine' b->Mine1 b:=λb d=>d.elim (λd=>(f b (.inl d)).1) λd=>g.mine b d
 have hnl:¬Mine' l:=by
  rintro(⟨i,r,h1,h2⟩|h1);{exact(hlb i r h1).1 h2};have:=(f l (.inr (.inl rfl))).2;omega
 have hnD:¬Mine' D:=by
  rintro(⟨i,r,h1,h2⟩|h1);{exact(hlb i r h1).2 h2};have:=(f D (.inr (.inr rfl))).2;omega
 have mem_of:∀ (F:Cells) (w:qm) (m:Mem),e6 m=true->m.map (·.1)=bx.map (·.1)->(∀i r,m.get i=E r->cH F w ρ i r)->aG F w ρ Mine' m:=by
  intro F w m hab hid hr;refine⟨hr,λi r b hi d=>?_,λi i' r r' b hi hi' d hb'=>?_⟩;{obtain⟨cs,rfl⟩:=gl hab hi;obtain⟨q,hq⟩:=iI hid hi;rw[box_owns]at d;exact⟨.inl ⟨i,q,hq,d⟩,d▸(ai3 (hr i _ hi)).1⟩};obtain⟨cs,rfl⟩:=gl hab hi;obtain⟨cs',rfl⟩:=gl hab hi';obtain⟨q,hq⟩:=iI hid hi;obtain⟨q',hq'⟩:=iI hid hi';rw[box_owns]at d hb';exact hdis i i' q q' hq hq' (d.trans hb'.symm)
 refine⟨fn,a.setIfInBounds J v,s,V,?_,roundIn_of_wpIn trivial ?_⟩;{have:=run_yield (P:=P) (args:=#[v]) hl rfl;rw[this];simp};let X1:Cx:=⟨nt,n1,Mine',S,w1,ρ,[]⟩;have g1:bM S w1 Mine':=⟨g.lt,λb d=>.inr d,g.tab⟩;have hsat:Sat X1 S w1 ρ ⟨(J,.pure (encX x))::fr,bx,[],n1⟩ {tmps:=a.setIfInBounds J v,defers:=[]}:=by
  refine⟨by simpa using htm,λt=>?_,mem_of _ _ bx hbx rfl d,.nil,g1,Step.refl g1,λi _=>⟨rfl,rfl⟩⟩;show ak S w1 ρ (di ((J,.pure (encX x))::fr) t) ((a.setIfInBounds J v).getD t undef);simp only[di,zn,Array.getElem?_setIfInBounds];by_cases e:J=t;{subst e;simpa[htm,hp0]using hv};rw[qb e,qb e];have:=hfr t;rw[zn]at this;exact this.mono' (λb o d=>(hF0 b o d).1) λb o d=>(hF0 b o d).2
 refine dy (ro:=E l) (X:=X1) hd s (bodyT x) _ _ _ y S w1 ρ _ (.inr hra) (h x) hrun hsat (hok x) (wg _) ?_;intro e t2 s2 F2 w2 ρ2 a2 hK hr2 hs2 ho2 h02;cases e with
 |exit id=>exact hK.elim
 |ret=>exact hK.elim
 |normal=>
  have hl2:=(hs2.from0.keep.block l (f l (.inr (.inl rfl))).2 hnl).trans hl;have hD2:=(hs2.from0.keep.block D (f D (.inr (.inr rfl))).2 hnD).trans hD;have hF2:∀b,b<w1.heap.size->¬Mine' b->(∀o,¬S b o)->∀o,¬F2 b o:=λb d hn hf o ho=>(hs2.from0.new b o ho).elim (hf o) hn
  refine⟨_,run_beginRound hl2 rfl,?_⟩;generalize O:w2.putObj l _=w2b;have hMl:Mine1 l:=(f l (.inr (.inl rfl))).1;have g2:bM F2 w2 Mine1:=(hs2.from0.wider hMM).good g;have z:Step Mine1 F2 w2 F2 w2b:=O▸Step.put g2 hMl (hF2 l (f l (.inr (.inl rfl))).2 hnl hFl) _;have hoth:∀b,b≠l->w2b.heap[b]?=w2.heap[b]?:=λb d=>O▸World.putObj_heap_other d
  have M:w2b.heap.size=w2.heap.size:=O▸World.putObj_size;let X2:Cx:=⟨nt,n1,Mine',F2,w2b,ρ,[]⟩;have g2b:bM F2 w2b Mine':=⟨λb o d=>by rw[M];exact hs2.good.lt b o d,λb d=>hs2.good.mine b (by rw[<-M];exact d),hs2.good.tab.step z.sub z.cell⟩;have hsat2:Sat X2 F2 w2b ρ2 s2 a2:=by
   refine⟨hs2.size,λt=>(hs2.fr t).mono' z.sub z.cell,hs2.mem.keepB z.sub z.cell qa λj r b hj d=>?_,mG (λ_=>True) z.sub z.cell (λ_ _=>⟨rfl,rfl⟩) hs2.df (λ_ h=>absurd trivial h),g2b,Step.refl g2b,hs2.env0⟩;exact⟨hoth b λe=>hnl (e▸(hs2.mem.mine j r b hj d).1),λ_ h=>h⟩
  refine dy (ro:=E l) (X:=X2) hd V t2 s2 _ _ y F2 w2b ρ2 a2 (.inr hrb) hK hr2 hsat2 ho2 h02 ?_;intro e t3 s30 K w3 ρ3 a3 hK3 hr3 hs30 ho30 h030;simp only[Um]at hK3;split at hK3
  case h_2=>exact hK3.elim
  rename_i y' s3 hfin;have C:=(gZ hfin hs30 ho30 h030).1;have hy:=gY hfin hr3;subst hy;clear hs30 ho30 h030 hfin hr3;have hl3:w3.heap[l]?=E (.loop {state:=.busy,pending:=G,fn:=fn,tmps:=a,params:=#[J],assign:=s,body:=V,defers:=D}):=by
   refine(C.from0.keep.block l (by rw[M];exact(zG.1 hl2).1) hnl).trans ?_;show w2b.heap[l]?=_;rw[<-O];exact World.putObj_heap_same (zG.1 hl2).1
  have hD3:w3.heap[D]?=E (.deferred (E [])):=(C.from0.keep.block D (by rw[M];exact(zG.1 hD2).1) hnD).trans ((hoth D (Ne.symm hlD)).trans hD2);have hF3:∀b,b<w1.heap.size->¬Mine' b->(∀o,¬S b o)->∀o,¬K b o:=λb d hn hf o ho=>(C.from0.new b o ho).elim (hF2 b d hn hf o) hn
  have st13:Step Mine1 S w1 K w3:=((hs2.from0.wider hMM).trans z).trans (C.from0.wider hMM);have g3:bM K w3 Mine1:=st13.good g;have Z:=hF3 l (f l (.inr (.inl rfl))).2 hnl hFl
  have fin:∀ (mm:Mem) (jump:Option Code) (R:LoopState),ej s3.mem mm->e6 mm=true->mm.map (·.1)=bx.map (·.1)->
   b6 n1 mm=true->
   ∀Q,Q=w3.putObj l (.loop {state:=R,pending:=jump,fn:=fn,tmps:=a,params:=#[J],assign:=s,body:=V,defers:=D})->
   Step Mine1 S w1 K Q/\Q.heap[l]?=E (.loop {state:=R,pending:=jump,fn:=fn,tmps:=a,params:=#[J],assign:=s,body:=V,defers:=D})/\
   Q.heap[D]?=E (.deferred (E []))/\(∀b o,F0 b o->K b o/\Q.cell? ⟨b,o,G⟩=w0.cell? ⟨b,o,G⟩)/\(∀i r,mm.get i=E r->cH K Q ρ i r):=by
   intro mm jump R I hab hid hin Q hw4;have stp4:Step Mine1 K w3 K Q:=hw4▸Step.put g3 hMl Z _;have ho4:∀b,b≠l->Q.heap[b]?=w3.heap[b]?:=λb d=>hw4▸World.putObj_heap_other d
   have st14:=st13.trans stp4;refine⟨st14,hw4▸World.putObj_heap_same (zG.1 hl3).1,(ho4 D (Ne.symm hlD)).trans hD3,λb o d=>?_,λi r hi=>?_⟩;{obtain⟨q1,q2⟩:=hF0 b o d;exact⟨st14.sub b o q1,(st14.cell b o q1).trans q2⟩};obtain⟨r0,q1,q2⟩:=k0 I (dK hi);obtain⟨cs,rfl⟩:=gl hab hi;obtain⟨hi1,hi2⟩:=ft hin hi;have hr3:cH K w3 ρ3 i (.box cs):=(q2.rel K w3 ρ3 i (C.mem.ok _ _ q1)).1;refine hr3.keep (λj=>j<n1) stp4.sub stp4.cell (λj hj=>⟨(C.env0 j hj).1.symm,(C.env0 j hj).2.symm⟩) hi1 (λj hj=>my (Nat.le_of_not_lt hj) hi2) λb d=>⟨ho4 b ?_,λ_ h=>h⟩
   rw[box_owns,(C.env0 i hi1).1]at d;obtain⟨q,hq⟩:=iI hid hi;exact d▸(hlb i q hq).1
  have tokOk:∀ (Q:qm) (p:ae),Step Mine1 S w1 K Q->rngJ ρ F0 w0 l D (λR pe=>{state:=R,pending:=pe,fn:=fn,tmps:=a,params:=#[J],assign:=s,body:=V,defers:=D}) bx memD p K Q->
   aG K Q ρc Mine1 [(0,.tok (FT ρ F0 w0 l D (λR pe=>{state:=R,pending:=pe,fn:=fn,tmps:=a,params:=#[J],assign:=s,body:=V,defers:=D}) bx memD hbx hmD) p)]:=by
   intro Q p R hJ;have one:∀ {i:Nat} {r q:Res},Mem.get [(0,q)] i=E r->i=0/\q=r:=by
    intro i r q hi;simp only[Mem.get]at hi;split at hi;{rename_i e;exact⟨e.symm,kb⟩};cases hi
   refine⟨λi r hi=>?_,λi r b hi d=>?_,λi i' r r' b hi hi' _ _=>?_⟩;{obtain⟨rfl,rfl⟩:=one hi;exact hJ}
   ·obtain⟨rfl,rfl⟩:=one hi;have hb':rngB ρ l D bx b:=by
     rcases d with d|d;{simp[aX]at d};exact d
    exact⟨(f b hb').1,Nat.lt_of_lt_of_le (f b hb').2 R.keep.size⟩
   rw[(one hi).1,(one hi').1]
  cases e with
  |exit id=>exact hK3.elim
  |normal=>
   obtain⟨hy,I⟩:=hK3;have hy:y'=false:=hy;subst hy;refine⟨_,_,run_endRound G hl3,?_⟩;obtain⟨q1,q2,q3,q4,q5⟩:=fin bx G .ready (hY I) hbx rfl (by have:=hok x;simp only[St.ok,ql]at this;exact this.1.2) _ rfl;have Y:=hF3 D (f D (.inr (.inr rfl))).2 hnD hFD;exact⟨_,K,ρc,rfl,q1,λ_ _=>⟨rfl,rfl⟩,.pure .bool,tokOk _ _ q1 ⟨q4,q3,Y,Z,.inl ⟨rfl,q2,q5⟩⟩⟩
  |ret=>
   obtain⟨hy,I⟩:=hK3;have hy:y'=true:=hy;subst hy;refine⟨_,_,run_endRound (E .ret) hl3,?_⟩;obtain⟨q1,q2,q3,q4,q5⟩:=fin (memD (encX x)) (E .ret) .done (hY I) (hmD _).1 (hmD _).2 (hmL x) _ rfl;have Y:=hF3 D (f D (.inr (.inr rfl))).2 hnD hFD;exact⟨_,K,ρc,rfl,q1,λ_ _=>⟨rfl,rfl⟩,.pure .bool,tokOk _ _ q1 ⟨q4,q3,Y,Z,.inr ⟨encX x,rfl,q2,q5⟩⟩⟩
end
theorem Step.alloc0 {c:Nat->Prop}{F:Cells}{w:qm}(g:bM F w c)(d:Obj):Step c F w F (w.alloc d):=
 ⟨λ_ _ h=>h,λb o h=>World.cell?_alloc_lt _ _ _ (g.lt b o h),λ_ _ h=>.inl h,λb o h=>by have:=g.lt b o h;simp;omega,⟨rfl,rfl,rfl,jV,λk a _=>heap_alloc_old w d a⟩⟩
def lv (a:Nat)(τ:Tok)(bx m:Mem):Mem:=(a,.tok τ .nilI)::(bx.map λx=>(x.1,Res.gone))++m
theorem adl{bx:Mem}{i:Nat}(h:Mem.get (bx.map λx=>(x.1,Res.gone)) i=E r):r=.gone/\∃q,bx.get i=E q:=by induction bx<;>grind[Mem.get]
theorem acq {bx:Mem}{i:Nat}(h:Mem.get (bx.map λx=>(x.1,Res.gone)) i=G):bx.get i=none:=by induction bx<;>grind[Mem.get]
theorem mg{a:Nat}{τ:Tok}{bx m:Mem}{i:Nat}(h:(lv a τ bx m).get i=E r):
 (i=a/\r=.tok τ .nilI)\/(i≠a/\r=.gone/\∃q,bx.get i=E q)\/(i≠a/\bx.get i=G/\m.get i=E r):=by
 simp only[lv,List.cons_append,Mem.get]at h;split at h;{simp_all};rw[Mem.get_append]at h;cases b:Mem.get (bx.map λx=>(x.1,Res.gone)) i<;>grind[adl,acq]
section
variable {P:qn} {drawOk:List Oper->List aP->Bool} {A B:Type} {dB:B->Bool} {xB:B->A} {encX:A->ae} {N:Nat}
structure RngCall (P:qn) (dB:B->Bool) (xB:B->A) (c:aK B) (encX:A->ae) (gf:FuncId) (as:List ac) (l:Nat) (τ:Tok) (bx m:Mem) (id:Nat) (σ:List (Nat×Nat)) (o:Option B):Prop where
 hP:c.P=P
 hf:c.f=.fn gf
 ho:c.o=o
 args:ei (.yld l::as) (ac.renL (bn σ c.k id) c.args)
 mem:ej (lv (id+64) τ bx m) (Mem.ren (bn σ c.k id) c.m)
 ren:∀r,ga (c.hint σ r) id=H
 tok:∀r,(Mem.ren (bn σ c.k id) (c.m' r)).get (id+64)=E (.tok τ (tokP (dB r) (encX (xB r))))
theorem aiR (hd:fp P drawOk){X0:Cx}{bodyT:A->T Bool}{g:Operand}{I bd:Code}(hra:rOk I=H)(hrb:rOk bd=H){p0:Nat}(hp0:p0<X0.nt)
 {s:St} {F:Cells} {w:qm} {ρ:Env} {a:Act} (Z:Sat X0 F w ρ s a) (hso:s.ok=H) {gf:FuncId} {V:List ac} (hg:aL s g=.func gf [] V)
 {bx:Mem} {memD:ae->Mem} (hbx:e6 bx=H) (hmD:∀x,e6 (memD x)=H/\(memD x).map (·.1)=bx.map (·.1)) (hmL:∀x,b6 s.nx (memD (encX x))=H)
 (hok:∀x,St.ok ⟨(p0,.pure (encX x))::s.fr,bx,[],s.nx⟩=H) (hsub:ej s.mem bx) (hbl:b6 s.nx bx=H)
 (hbody:∀x,(Fr P X0.nt s.nx drawOk I bd (bodyT x) ⟨(p0,.pure (encX x))::s.fr,bx,[],s.nx⟩ bx (memD (encX x))).holds)
 {σ:List (Nat×Nat)} {o:Option B} (cand:dC P encX (λx=>(bodyT x).run N)->aK B)
 (hc:∀Y,RngCall P dB xB (cand Y) encX gf V Y.l Y.τ bx s.mem s.nx σ o) {r:B} (hr:o=E r) {Q:Exit->Act->qm->Prop}
 (hQ:∀F' w',Step X0.Mine F w F' w'->w'.heap[w.heap.size]?=E (.deferred (E []))->(∀o,¬F' w.heap.size o)->
  Sat ⟨X0.nt,X0.n0,λb=>X0.Mine b/\b≠w.heap.size,F',w',X0.ρ0,{target:=.collected w.heap.size,args:=#[]}::a.defers⟩ F' w' ρ ⟨s.fr,bif dB r then memD (encX (xB r))else bx,[],s.nx⟩
   {a with defers:={target:=.collected w.heap.size,args:=#[]}::a.defers}->
  Q (bif dB r then .ret else .normal) {a with defers:={target:=.collected w.heap.size,args:=#[]}::a.defers} w'):
 (Code.rangeFunc g #[p0] I bd).wp P Q a w:=by
 refine wpIn_wide.1 (wpIn_rangeFunc (F:=Fence.wide) (n:=0) ?_);intro z _;have hso':=hso;simp only[St.ok,ql]at hso';obtain⟨⟨hfrlt,X⟩,_⟩:=hso';generalize hD:w.heap.size=D at *
 generalize hl:D+1=l at *
 have hlD:l≠D:=qa;generalize S:(w.alloc (.deferred (E []))).alloc (.loop {state:=.ready,pending:=G,fn:=z,tmps:=a.tmps,params:=#[p0],assign:=I,body:=bd,defers:=D})=w1 at *
 have hent:(Instr.enterLoop z a.tmps #[p0] I bd Fence.wide.round).run P w=.ok (l,[{target:=.collected D,args:=#[]}]) w1:=by
  have:=run_enterLoop_outer (P:=P) (w:=w) z a.tmps #[p0] I bd;rw[hD,hl,S]at this;exact this
 have hsz1:w1.heap.size=D+2:=by rw[<-S];simp[hD]
 have g0:=Z.good;have sta:Step X0.Mine F w F (w.alloc (.deferred (E []))):=Step.alloc0 g0 _;have st1:Step X0.Mine F w F w1:=S▸sta.trans (Step.alloc0 (sta.good g0) _);have g1:bM F w1 X0.Mine:=st1.good g0;have hMD:X0.Mine D:=g0.mine D qa;have hMl:X0.Mine l:=g0.mine l qa;have hD1:w1.heap[D]?=E (.deferred (E [])):=by
  have h1:=World.alloc_heap_new w (.deferred (E []));rw[hD]at h1;rw[<-S];exact(heap_alloc_old _ _ jZ).trans h1
 have hl1:w1.heap[l]?=E (.loop {state:=.ready,pending:=G,fn:=z,tmps:=a.tmps,params:=#[p0],assign:=I,body:=bd,defers:=D}):=by
  have h1:=World.alloc_heap_new (w.alloc (.deferred (E []))) (.loop {state:=.ready,pending:=G,fn:=z,tmps:=a.tmps,params:=#[p0],assign:=I,body:=bd,defers:=D});rw[World.size_alloc,hD,hl,S]at h1;exact h1
 have hFD:∀o,¬F D o:=λo ho=>by have:=g0.lt D o ho;omega
 have hFl:∀o,¬F l o:=λo ho=>by have:=g0.lt l o ho;omega
 have hbxs:∀i q,bx.get i=E q->∃r0,s.mem.get i=E r0/\cH F w ρ i q/\aE w ρ i r0 (ρ.blk i):=by
  intro i q p;obtain⟨r0,M,q2⟩:=k0 hsub (dK p);obtain⟨cs,rfl⟩:=gl hbx p;obtain⟨q3,q4⟩:=q2.rel F w ρ i (Z.mem.ok _ _ M);exact⟨r0,M,q3,q4 _ (box_owns.2 rfl)⟩
 have hbm:∀i q,bx.get i=E q->X0.Mine (ρ.blk i)/\ρ.blk i<D:=by
  intro i q p;obtain⟨r0,M,_,q3⟩:=hbxs i q p;have:=Z.mem.mine i r0 _ M q3;exact⟨this.1,qa⟩
 have hdis:∀i i' q q',bx.get i=E q->bx.get i'=E q'->ρ.blk i=ρ.blk i'->i=i':=by
  intro i i' q q' p O he;obtain⟨r0,M,_,q3⟩:=hbxs i q p;obtain⟨r1,p1,_,p3⟩:=hbxs i' q' O;exact Z.mem.disj i i' r0 r1 _ M p1 q3 (he▸p3)
 have hlb:∀i q,bx.get i=E q->ρ.blk i≠l/\ρ.blk i≠D:=λi q p=>by have:=(hbm i q p).2;exact⟨qa,qa⟩
 have hfr1:∀t,ak F w1 ρ (di s.fr t) (a.tmps.getD t undef):=λt=>(Z.fr t).mono' st1.sub st1.cell
 let Y:dC P encX (λx=>(bodyT x).run N):=⟨l,_,λx y hy=>ae1 hd hra hrb hp0 hbx hmD Z.size hfr1 (D:=D) hlD (fn:=z) hdis hlb hok hmL hbody x y hy⟩;obtain⟨hP,hf,hco,hargs,hmem,hren,htok⟩:=hc Y;have R:=(cand Y).ok r (hco.trans hr);rw[hP,hf]at R;have hgv:=hg▸oa Z g;obtain⟨v2,hav,hcl,hcr⟩:∃v2:Array Value,a.eval g=.func (.func gf) #[] v2/\V.length=v2.size/\∀ (j:Nat) (b:ac) (v:Value),V[j]?=E b->v2[j]?=E v->ak F w ρ b v:=by
  generalize a.eval g=u at hgv;cases hgv with
  |@func _ _ _ v1 v2 M q2 q3 q4=>exact⟨v2,by rw[Array.eq_empty_of_size_eq_zero M.symm],q3,q4⟩
 have hresolve:(resolve a.eval (rangeCall g l) 0).run P w1=.ok {target:=.fn (.func gf) v2,args:=#[.func (.yield l) #[] #[]]} w1:=by
  simp only[resolve,hav];simp[go_sem]
 refine⟨l,_,w1,_,w1,gf,#[.func (.yield l) #[] #[]]++v2,w1,hent,hresolve,λ_ _=>trivial,by simp[invoke,rm R.callable],(λh=>by cases h),?_⟩;refine callsIn_wide.2 ?_;have hMok:aG F w1 ρ X0.Mine (lv (s.nx+64) Y.τ bx s.mem):=by
  have hm1:aG F w1 ρ X0.Mine s.mem:=Z.mem.keepB st1.sub st1.cell st1.keep.size λj q b hj c=>⟨by
   have m:=(Z.mem.mine j q b hj c).2;rw[<-S];exact(heap_alloc_old _ _ jZ).trans (heap_alloc_old _ _ m),λ_ h=>h⟩
  have htB:∀b,aE w1 ρ (s.nx+64) (.tok Y.τ .nilI) b->rngB ρ l D bx b:=by
   intro b c;rcases c with c|c
   {simp[aX]at c};exact c
  have hno:∀ {i b:Nat},¬aE w1 ρ i .gone b:=Ro rfl;have hbx1:∀i q,bx.get i=E q->∃r0,s.mem.get i=E r0/\cH F w1 ρ i q/\aE w1 ρ i r0 (ρ.blk i):=by
   intro i q p;obtain⟨r0,M,q2⟩:=k0 hsub (dK p);obtain⟨cs,rfl⟩:=gl hbx p;obtain⟨q3,q4⟩:=q2.rel F w1 ρ i (hm1.ok _ _ M);exact⟨r0,M,q3,q4 _ (box_owns.2 rfl)⟩
  have key:∀i q b,bx.get i=none->s.mem.get i=E q->aE w1 ρ i q b->¬rngB ρ l D bx b:=by
   intro i q b hn p c hB;have hlt:=Z.mem.mine i q b p ((h6 ⟨rfl,rfl⟩ (λb c=>by
    have m:=(Z.mem.mine i q b p c).2;rw[<-S];exact(heap_alloc_old _ _ jZ).trans (heap_alloc_old _ _ m)) b).1 c)
   rcases hB with⟨j,q',hj,rfl⟩|rfl|rfl;{obtain⟨r0,M,_,q3⟩:=hbx1 j q' hj;have:=hm1.disj j i r0 q _ M p q3 c;subst this;rw[hn]at hj;cases hj};{omega};omega
  refine⟨λi q p=>?_,λi q b p c=>?_,λi i' q q' b p O c m=>?_⟩
  ·rcases mg p with⟨rfl,rfl⟩|⟨_,rfl,_⟩|⟨_,_,h3⟩;{exact⟨λb o c=>⟨c,rfl⟩,hD1,hFD,hFl,.inl ⟨rfl,hl1,λj q hj=>(hbx1 j q hj).choose_spec.2.1⟩⟩};{trivial};exact hm1.ok _ _ h3
  ·rcases mg p with⟨rfl,rfl⟩|⟨_,rfl,_⟩|⟨_,_,h3⟩
   ·rcases htB b c with⟨j,q',hj,rfl⟩|rfl|rfl;{have:=hbm j q' hj;exact⟨this.1,qa⟩};{exact⟨hMl,qa⟩};exact⟨hMD,qa⟩
   {exact absurd c hno};exact hm1.mine _ _ _ h3 c
  rcases mg p with⟨rfl,rfl⟩|⟨_,rfl,_⟩|⟨_,h2,h3⟩
  ·rcases mg O with⟨rfl,rfl⟩|⟨_,rfl,_⟩|⟨_,h2',h3'⟩;{rfl};{exact absurd m hno};exact absurd (htB b c) (key _ _ _ h2' h3' m)
  {exact absurd c hno};rcases mg O with⟨rfl,rfl⟩|⟨_,rfl,_⟩|⟨_,h2',h3'⟩;{exact absurd (htB b m) (key _ _ _ h2 h3 c)};{exact absurd m hno};exact hm1.disj _ _ _ _ b h3 h3' c m
 have hfresh:dN s.nx (lv (s.nx+64) Y.τ bx s.mem):=by
  refine⟨λi p=>?_,λi j q p hj=>?_⟩
  ·obtain⟨i1,i2⟩:=p;cases hgi:(lv (s.nx+64) Y.τ bx s.mem).get i with
   |none=>rfl
   |some q=>
    rcases mg hgi with⟨rfl,_⟩|⟨_,_,q',h3⟩|⟨_,_,h3⟩;{omega};{have:=(ft hbl h3).1;omega};have:=(ft X h3).1;omega
  rcases mg hj with⟨_,rfl⟩|⟨_,rfl,_⟩|⟨_,_,h3⟩;{rfl};{rfl};exact my p.1 (ft X h3).2
 have hargs':eh F w1 ρ (ac.renL (bn σ (cand Y).k s.nx) (cand Y).args) (#[.func (.yield l) #[] #[]]++v2):=by
  obtain⟨M,q2⟩:=mi (F:=F) (w:=w1) (ρ:=ρ) hargs;refine⟨by rw[<-M];simp[hcl];omega,λj b v c hv=>?_⟩;obtain⟨b',m,hbv⟩:=q2 j b c;refine hbv v ?_;cases j with
  |zero=>
   rw[zH jV]at hv;simp at m hv;subst m;subst hv;exact .yld
  |succ j=>
   simp at m;rw[Array.getElem?_append_right jV]at hv;simp at hv;exact(hcr j b' v m hv).mono' st1.sub st1.cell
 have hcall:=Q6 (C:=Calls P gf) (λh k=>h.mono k) (h:=(cand Y).hint σ r) (id:=s.nx) R.calls (SQ (hren r)) hMok g1 hfresh (λx hx=>k0 hmem hx) hargs';refine hcall.mono ?_;rintro e w2 ⟨v,F2,ρ2,rfl,st2,_,_,hm2⟩
 have hJ:rngJ ρ F w1 l D (λst pe=>{state:=st,pending:=pe,fn:=z,tmps:=a.tmps,params:=#[p0],assign:=I,body:=bd,defers:=D}) bx memD (tokP (dB r) (encX (xB r))) F2 w2:=
  hm2.ok (s.nx+64) (.tok Y.τ (tokP (dB r) (encX (xB r)))) (by
   rw[Mem.get_append];have:=htok r;rw[show Mem.ren (bn ((cand Y).hint σ r).σ ((cand Y).hint σ r).k s.nx) ((cand Y).hint σ r).m'=Mem.ren (bn σ (cand Y).k s.nx) ((cand Y).m' r)from rfl,this];rfl)
 obtain⟨_,j2,j3,j4,j5⟩:=hJ;have g2:=st2.good g1
 have fin:∀ (mm:Mem) (pe:Option Code) (st:LoopState),st≠ .busy->e6 mm=true->mm.map (·.1)=bx.map (·.1)->
  w2.heap[l]?=E (.loop {state:=st,pending:=pe,fn:=z,tmps:=a.tmps,params:=#[p0],assign:=I,body:=bd,defers:=D})->(∀i q,mm.get i=E q->cH F2 w2 ρ i q)->
  ∃K,(Instr.endLoop l).run P w2=.ok pe K/\Step X0.Mine F w F2 K/\K.heap[D]?=E (.deferred (E []))/\(∀o,¬F2 D o)/\
   Sat ⟨X0.nt,X0.n0,λb=>X0.Mine b/\b≠D,F2,K,X0.ρ0,{target:=.collected D,args:=#[]}::a.defers⟩ F2 K ρ ⟨s.fr,mm,[],s.nx⟩
    {a with defers:={target:=.collected D,args:=#[]}::a.defers}:=by
  intro mm pe st hst hab hid hl2 hr2;refine⟨_,run_endLoop hl2 hst,?_⟩;generalize hw4:w2.putObj l _=K;have stp:Step X0.Mine F2 w2 F2 K:=hw4▸Step.put g2 hMl j4 _;have hoth:∀b,b≠l->K.heap[b]?=w2.heap[b]?:=λb c=>hw4▸World.putObj_heap_other c
  have J:Step X0.Mine F w F2 K:=(st1.trans st2).trans stp;have hD4:K.heap[D]?=E (.deferred (E [])):=(hoth D (Ne.symm hlD)).trans j2;have hDs:D<K.heap.size:=(zG.1 hD4).1;refine⟨J,hD4,j3,⟨Z.size,λt=>(Z.fr t).mono' J.sub J.cell,⟨λi q p=>?_,λi q b p c=>?_,λi i' q q' b p O c m=>?_⟩,.nil,⟨(J.good g0).lt,λb c=>⟨(J.good g0).mine b c,by have c:K.heap.size<=b:=c;omega⟩,(J.good g0).tab⟩,?_,Z.env0⟩⟩
  ·obtain⟨cs,rfl⟩:=gl hab p;obtain⟨q',hq'⟩:=iI hid p;refine(hr2 i _ p).keep (λ_=>True) stp.sub stp.cell (λ_ _=>⟨rfl,rfl⟩) trivial (λ_ h=>absurd trivial h) λb c=>⟨hoth b ?_,λ_ h=>h⟩
   rw[box_owns]at c;exact c▸(hlb i q' hq').1
  {obtain⟨cs,rfl⟩:=gl hab p;obtain⟨q',hq'⟩:=iI hid p;rw[box_owns]at c;have:=hbm i q' hq';exact⟨⟨c▸this.1,qa⟩,qa⟩};{obtain⟨cs,rfl⟩:=gl hab p;obtain⟨cs',rfl⟩:=gl hab O;obtain⟨M,hq1⟩:=iI hid p;obtain⟨q2,hq2⟩:=iI hid O;rw[box_owns]at c m;exact hdis i i' M q2 hq1 hq2 (c.trans m.symm)};exact Step.refl ⟨(J.good g0).lt,λb c=>⟨(J.good g0).mine b c,by have c:K.heap.size<=b:=c;omega⟩,(J.good g0).tab⟩
 generalize hdd:dB r=d at j5 hQ;generalize xB r=x at j5 hQ;cases d with
 |false=>
  have j5:=j5.resolve_right (by rintro⟨q,hq,_⟩;cases hq);obtain⟨K,k1,k2,k3,k4,k5⟩:=fin bx G .ready jV hbx rfl j5.2.1 j5.2.2;exact⟨G,K,k1,hQ F2 K k2 k3 k4 k5⟩
 |true=>
  have j5:=j5.resolve_left (by rintro⟨hq,_⟩;cases hq);obtain⟨q,hq,j6,j7⟩:=j5;have hq:ae.agg [encX x]=.agg [q]:=hq;cases hq;obtain⟨K,k1,k2,k3,k4,k5⟩:=fin (memD (encX x)) (E .ret) .done jV (hmD _).1 (hmD _).2 j6 j7;exact⟨E .ret,K,k1,wpIn_ret (hQ F2 K k2 k3 k4 k5)⟩
end
def dC.dummy {P:qn}{A:Type}{encX:A->ae}{o:A->Option Bool}:dC P encX o:=
 ⟨0,⟨λ_=>False,λ_ _ _=>False,λh _ _ _=>h⟩,λ_ _ _=>⟨λ_ _ _ _ _ a=>(a.ok 0 _ rfl).elim⟩⟩
section
variable {A B U RR:Type} (P:qn) (gs:List (GuardS P)) (drawOk:List Oper->List aP->Bool) (fn:Func) (k:Nat) (encX:A->ae)
def afH (dB:B->Bool)(xB:B->A)(c:aK B)(a:FuncId)(as:List ac)(l:Nat)(τ:Tok)(bx m:Mem)(id:Nat)(σ:List (Nat×Nat)):Ob:=
 .and (.eq c.P P)<| .and (.eq c.f (.fn a))<| .and (gL (.yld l::as) (ac.renL (bn σ c.k id) c.args))<| .and (subM (lv (id+64) τ bx m) (Mem.ren (bn σ c.k id) c.m))<|
  .and (.all λr=>.eq (ga (c.hint σ r) id) H) (.all λr=>match(Mem.ren (bn σ c.k id) (c.m' r)).get (id+64)with
   |some q=>.eq q (.tok τ (tokP (dB r) (encX (xB r))))
   |none=>.no)
variable (bodyT:A->T Bool) (bx:Mem) (memD:ae->Mem) (σ:List (Nat×Nat)) (dB:B->Bool) (xB:B->A) (cand:dC P encX (λx=>(bodyT x).run NN)->aK B) (tF:T RR) (rD:A->RR) (res:RR->ac) (m':RR->Mem)
def FS (t:T RR)(s:St):Ob:=
 match finT t s with
 |some (r,s)=>(match s.df with
  |[]=>retO P gs k k fn.results.toList (res r) (m' r) s
  |_=>.no)
 |none=>.no
def rngO (g:Operand)(c:Nat)(a d c3 f:Code)(s:St):Ob:=
 match aL s g with
 | .func h [] b=>if rOk a&&rOk d&&decide (c<fn.ntmps)&&e6 bx&&b6 s.nx bx&&St.ok ⟨s.fr,bx,[],s.nx⟩then
  .and (mS gs s.df)<| .and (subM s.mem bx)<| .and (.all λx:ae=>.and (.eq (e6 (memD x)) H) (.eq ((memD x).map (·.1)) (bx.map (·.1))))<|
  .and (.all λx:A=>.and (.eq (b6 s.nx (memD (encX x))) H) (.and (.eq (St.ok ⟨(c,.pure (encX x))::s.fr,bx,[],s.nx⟩) H)
   (Fr P fn.ntmps s.nx drawOk a d (bodyT x) ⟨(c,.pure (encX x))::s.fr,bx,[],s.nx⟩ bx (memD (encX x)))))<|
  .and (.all λY=>afH P encX dB xB (cand Y) h b Y.l Y.τ bx s.mem s.nx σ)<|
  .and (vcT P fn.ntmps k drawOk c3 tF ⟨s.fr,bx,[],s.nx⟩ λe t s=>match e with
   | .normal=>vcT P fn.ntmps k drawOk f t s λe t s=>match e with
     | .exit _=>.no
     |_=>FS P gs fn k res m' t s
   |_=>.no) (.all λx=>retO P gs k k fn.results.toList (res (rD x)) (m' (rD x)) ⟨s.fr,memD (encX x),[],s.nx⟩)
   else .no
 |_=>.no
variable (cand:U->dC P encX (λx=>(bodyT x).run NN)->aK B)in
def tR (b:T U)(a:List ac)(m:Mem):Ob:=
 match fn.body with
 |some (.seq h (.seq i (.seq (.seq c2 (.block _ (.rangeFunc g p c d))) (.seq c3 j))))=>match p.toList with
  |[o]=>if decide (a.length<=fn.ntmps)&&St.ok ⟨fz 0 a,m,[],k⟩then
   vcT P fn.ntmps k drawOk h b ⟨fz 0 a,m,[],k⟩ λe t s=>match e with
    | .normal=>vcT P fn.ntmps k drawOk i t s λe t s=>match e with
      | .normal=>vcT P fn.ntmps k drawOk c2 t s λe t s=>match e with
        | .normal=>(match finT t s with
          |some (u,s)=>rngO P gs drawOk fn k encX bodyT bx memD σ dB xB (cand u) tF rD res m' g o c d c3 j s
          |none=>.no)
        |_=>.no
      |_=>.no
    |_=>.no
   else .no
  |_=>.no
 |_=>.no
end
section
variable {A B U RR:Type} {P:qn} {gs:List (GuardS P)} {drawOk:List Oper->List aP->Bool} {fn:Func} {k:Nat} {encX:A->ae}
 {bodyT:A->T Bool} {bx:Mem} {memD:ae->Mem} {σ:List (Nat×Nat)} {dB:B->Bool} {xB:B->A} {cand:U->dC P encX (λx=>(bodyT x).run NN)->aK B} {tF:T RR} {rD:A->RR} {res:RR->ac} {m':RR->Mem}
theorem ae0 {F0:Cells}{w0:qm}{ρ0:Env}{c:Nat->Prop}{D:Nat}{a:Act}{Q:List ac}{Fa:Cells}{wa:qm}{ρa:Env}(hdf:All2B [] (DRel Fa wa ρa) a.defers Q)(hgd:k9 P Q)
 {X:Cx} (m:∀b,X.Mine b↔c b/\b≠D) (hXr:X.ρ0=ρ0) (hXb:X.base={target:=.collected D,args:=#[]}::a.defers) (hXn:X.n0=k) (hMD:c D)
 (st0:Step c F0 w0 X.F0 X.w0) (hg0:bM F0 w0 c) (J:X.w0.heap[D]?=E (.deferred (E []))) (Y:∀o,¬X.F0 D o)
 {s:St} {F:Cells} {w:qm} {ρ:Env} {I:Act} (g:Sat X F w ρ s I) (hsd:s.df=[]) {rs:ac} {ms:Mem} (M:il P k k fn.results.toList rs ms s):
 LeavesInM Fence.wide 0 P fn I.tmps (λe w'=>∃v S ρ',e=.returned v/\Step c F0 w0 S w'/\cA k ρ0 ρ'/\ak S w' ρ' rs v/\aG S w' ρ' c ms) I.defers .returning w:=by
 have hd:I.defers={target:=.collected D,args:=#[]}::a.defers:=by
  have:=g.df;rw[hsd]at this;generalize I.defers=ds at this;cases this;exact hXb
 have Z:D<X.w0.heap.size:=(zG.1 J).1;have y:¬X.Mine D:=λh=>((m D).1 h).2 rfl
 have V:w.heap[D]?=E (.deferred (E [])):=(g.from0.keep.block D Z y).trans J;have hF2:∀o,¬F D o:=λo ho=>(g.from0.new D o ho).elim (Y o) y
 have R:Step c F0 w0 F w:=st0.trans (g.from0.wider λb f=>((m b).1 f).1);have gA:bM F w c:=R.good hg0;rw[hd];refine⟨jV,.inl ⟨D,_,rfl,run_takeDeferred V,?_⟩⟩;generalize C:w.putObj D (.deferred G)=w5;have d:Step c F w F w5:=C▸Step.put gA hMD hF2 _;have K:∀b,b≠D->w5.heap[b]?=w.heap[b]?:=λb f=>C▸World.putObj_heap_other f
 have O:w5.heap.size=w.heap.size:=C▸World.putObj_size;have g5:bM F w5 X.Mine:=⟨λb o f=>by rw[O];exact g.good.lt b o f,λb f=>g.good.mine b (by rw[<-O];exact f),g.good.tab.step d.sub d.cell⟩
 have hs5:Sat ⟨X.nt,X.n0,X.Mine,F,w5,X.ρ0,X.base⟩ F w5 ρ s I:=
  ⟨g.size,λt=>(g.fr t).mono' d.sub d.cell,g.mem.keepB d.sub d.cell qa λj r b hj f=>⟨K b λe=>y (e▸(g.mem.mine j r b hj f).1),λ_ h=>h⟩,
   mG (λ_=>True) d.sub d.cell (λ_ _=>⟨rfl,rfl⟩) g.df (λ_ h=>absurd trivial h),g5,Step.refl g5,g.env0⟩
 have z:il P (Cx.n0 ⟨X.nt,X.n0,X.Mine,F,w5,X.ρ0,X.base⟩) k fn.results.toList rs ms s:=by show il P X.n0 k _ _ _ _;rw[hXn];exact M
 obtain⟨v,h1,_,F2,ρ2,st2,he2,ha2,p⟩:=T5 z hs5;refine Nu h1 ⟨v,F2,ρ2,rfl,(R.trans d).trans (st2.wider λb f=>((m b).1 f).1),hXr▸he2,ha2,p.ok,λi r b hi f=>?_,p.disj⟩ hdf hgd;have:=p.mine i r b hi f;exact⟨((m b).1 this.1).1,this.2⟩
theorem agc {f:FuncId}{R:T U}{p:List ac}{m:Mem}(hd:fp P drawOk)(hf:P.funcs[f]?=E fn)(hname:(fn.name== "runtime.NumGoroutine")=L)
 (h:(tR P gs drawOk fn k encX bodyT bx memD σ dB xB tF rD res m' cand R p m).holds) (hco:∀u Y,(cand u Y).o=(cand u dC.dummy).o) {y:RR}
 (hy:((R.run NN).bind λu=>(cand u dC.dummy).o.bind λr=>bif dB r then E (rD (xB r))else tF.run NN)=E y):eD P f k p m (res y) (m' y):=by
 unfold tR at h;split at h
 case h_2=>exact h.elim
 rename_i c0 c1 c2 bid g ps asg bd c3 c4 hb;split at h
 case h_2=>exact h.elim
 rename_i p0 hps;have hps:ps=#[p0]:=by apply zF;simpa using hps
 subst hps;split at h
 case isFalse=>exact h.elim
 rename_i hc;simp only[ql,qf]at hc;obtain⟨hlen,hok⟩:=hc;obtain⟨u,hpre,hy1⟩:=zI.1 hy;obtain⟨r,hr,hy2⟩:=zI.1 hy1;clear hy hy1;refine⟨⟨fn,hf,hname,by rw[hb];rfl⟩,λF w ρ j vs hm hg M=>?_⟩;let X:Cx:=⟨fn.ntmps,k,j,F,w,ρ,[]⟩;refine callsIn_wide.1 (callsIn_of_wp_marks (n:=0) hf hb trivial (wpIn_wide.2 ?_) rfl);have hsz:=M.1;have hsat:Sat X F w ρ ⟨fz 0 p,m,[],k⟩ {tmps:=vs++zx (fn.ntmps-vs.size) undef,defers:=[]}:=by
  refine⟨by show(vs++zx _ _).size=fn.ntmps;simp;omega,λt=>?_,hm,.nil,hg,Step.refl hg,λi _=>⟨rfl,rfl⟩⟩;show ak F w ρ (di (fz 0 p) t) _;rw[Da];simp only[Nat.zero_le,if_true,Nat.sub_zero];cases ht:p[t]? with
  |none=>exact .any
  |some b=>
   have hlt:t<vs.size:=by have:=(List.getElem?_eq_some_iff.1 ht).1;omega
   refine M.2 t b _ ht ?_;rw[zn,zH hlt];simp[hlt]
 refine wp_seq (mA (X:=X) hd c0 R _ _ _ u F w ρ _ h hpre hsat hok (wg _) ?_);intro e t s F1 w1 ρ1 a1 a hr1 c I C;cases e with
 |exit id=>exact a.elim
 |ret=>exact a.elim
 |normal=>
 refine wp_seq (mA (X:=X) hd c1 t s _ _ u F1 w1 ρ1 a1 a hr1 c I C ?_);clear a hr1 c I C;intro e t s F1 w1 ρ1 a1 a hr1 c I C;cases e with
 |exit id=>exact a.elim
 |ret=>exact a.elim
 |normal=>
 refine wp_seq (wp_seq (mA (X:=X) hd c2 t s _ _ u F1 w1 ρ1 a1 a hr1 c I C ?_));clear a hr1 c I C;intro e t s0 F1 w1 ρ1 a1 a hr1 c I C;cases e with
 |exit id=>exact a.elim
 |ret=>exact a.elim
 |normal=>
 simp only at a;split at a
 case h_2=>exact a.elim
 rename_i u' s z;obtain⟨c,I,C⟩:=gZ z c I C;have hu:=gY z hr1;subst hu;clear z hr1;unfold rngO at a;split at a
 case h_2=>exact a.elim
 rename_i gf caps hgv;split at a
 case isFalse=>exact a.elim
 rename_i O;simp only[ql,qf]at O;obtain⟨⟨⟨⟨⟨hra,hrb⟩,hp0⟩,hbx⟩,hbl⟩,hok2⟩:=O;obtain⟨k1,k2,k3,k4,k5,k6,k7⟩:=a;have hgd:=DP k1;have hmDe:∀x,e6 (memD x)=H/\(memD x).map (·.1)=bx.map (·.1):=k3;refine wp_block ?_
 refine aiR (X0:=X) (N:=NN) (encX:=encX) (bodyT:=bodyT) (bx:=bx) (memD:=memD) (σ:=σ) (dB:=dB) (xB:=xB) (o:=(cand u' dC.dummy).o) (r:=r) hd hra hrb hp0 c I hgv hbx hmDe (λx=>(k4 x).1) (λx=>(k4 x).2.1) (hY k2) hbl (λx=>(k4 x).2.2) (cand u')
  (λY=>?_) hr ?_
 ·obtain⟨q1,q2,q3,q4,q5,q6⟩:=k5 Y;refine⟨q1,q2,hco u' Y,hI q3,hY q4,q5,λr=>?_⟩;have:=q6 r;simp only at this;split at this;{rename_i q hq;rw[hq,show q=_ from this]};exact this.elim
 intro S V st hD hFD J;have hMD:j w1.heap.size:=c.good.mine _ (wg _)
 have Q:∀ (s':St) (F2:Cells) (w2:qm) (ρ2:Env) (Z:Act) (yy:RR),
  Sat ⟨X.nt,X.n0,λb=>X.Mine b/\b≠w1.heap.size,S,V,X.ρ0,{target:=.collected w1.heap.size,args:=#[]}::a1.defers⟩ F2 w2 ρ2 s' Z->s'.df=[]->il P k k fn.results.toList (res yy) (m' yy) s'->
  LeavesInM Fence.wide 0 P fn Z.tmps (λe V=>∃v S ρ',e=.returned v/\Step j F w S V/\cA k ρ ρ'/\ak S V ρ' (res yy) v/\aG S V ρ' j (m' yy)) Z.defers .returning w2:=
  λs' F2 w2 ρ2 Z yy K hdf2 hret=>ae0 c.df hgd (λb=>Iff.rfl) rfl rfl rfl hMD (c.from0.trans st) hg hD hFD K hdf2 hret
 generalize hdd:dB r=d at hy2 J;generalize xB r=x at hy2 J;cases d with
 |true=>
  have hy:E (rD x)=E y:=hy2;simp only[Option.some.injEq]at hy;subst hy;exact Q _ _ _ _ _ _ J rfl (sZ (k7 x))
 |false=>
  have hy:tF.run NN=E y:=hy2;show(Code.seq c3 c4).wp P _ _ _;refine wp_seq (mA hd c3 tF _ _ _ y S V ρ1 _ k6 hy J hok2 C ?_);intro e t s' F2 w2 ρ2 Z a hr2 K ho2 h02;cases e with
  |exit id=>exact a.elim
  |ret=>exact a.elim
  |normal=>
  refine mA hd c4 t s' _ _ y F2 w2 ρ2 Z a hr2 K ho2 h02 ?_;clear a hr2 K ho2 h02;intro e t s' F2 w2 ρ2 Z a hr2 K ho2 h02;have fin:(FS P gs fn k res m' t s').holds->LeavesInM Fence.wide 0 P fn Z.tmps (λe V=>∃v S ρ',e=.returned v/\Step j F w S V/\cA k ρ ρ'/\ak S V ρ' (res y) v/\aG S V ρ' j (m' y)) Z.defers .returning w2:=by
   intro a;unfold FS at a;split at a
   ·rename_i r' s'' z;obtain⟨hs3,_,_⟩:=gZ z K ho2 h02;have hr':=gY z hr2;subst hr';split at a;{rename_i hdf;exact Q _ _ _ _ _ _ hs3 hdf (sZ a)};exact a.elim
   exact a.elim
  cases e with
  |exit id=>exact a.elim
  |normal=>exact fin a
  |ret=>exact fin a
def mkR {f:FuncId}(gs:List (GuardS P))(hd:fp P drawOk)(e:P.funcs[f]?=E fn)(c:(fn.name== "runtime.NumGoroutine")=L)
    (b:T U) (bodyT:A->T Bool) (bx:Mem) (memD:ae->Mem) (σ:List (Nat×Nat)) (dB:B->Bool) (xB:B->A) (cand:U->dC P encX (λx=>(bodyT x).run NN)->aK B) (tF:T RR) (rD:A->RR)
    (d:∀u Y,(cand u Y).o=(cand u dC.dummy).o) (k:Nat) (a:List ac) (m:Mem) (res:RR->ac) (m':RR->Mem)
    (h:(tR P gs drawOk fn k encX bodyT bx memD σ dB xB tF rD res m' cand b a m).side H=(tR P gs drawOk fn k encX bodyT bx memD σ dB xB tF rD res m' cand b a m).side L):aK RR:=
 ⟨P,.fn f,(b.run NN).bind λu=>(cand u dC.dummy).o.bind λr=>bif dB r then E (rD (xB r))else tF.run NN,k,a,m,res,m',λ_ g=>agc hd e c (Ob.of_side h) d g⟩
end
end Go.Abs
