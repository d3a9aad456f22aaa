import Derived.Test.YtnfbbidmdkfilaaGreatDoorZDTBase
open Array renaming ext'->xY,getD_eq_getD_getElem?->xK,getElem?_eq_some_iff->xZ,getElem?_append_left->x6,replicate->xR
open Bool renaming and_eq_true->qm
open Go renaming World->qn,Program->qo
open Nat renaming le_refl->qk
open Option renaming bind_eq_some_iff->x7
namespace Go.Abs
theorem Step.wider {Mine a:Nat->Prop}{F F':Cells}{w c:qn}(h:Step Mine F w F' c)(d:∀b,Mine b->a b):Step a F w F' c:=
 ⟨h.sub,h.cell,λb o e=>(h.new b o e).imp (λh=>h) (d b),h.lt,⟨h.keep.os,h.keep.tape,h.keep.output,h.keep.size,λk g f=>h.keep.block k g λi=>f (d k i)⟩⟩
theorem Step.put {Mine:Nat->Prop}{F:Cells}{w:qn}(g:Good F w Mine){l:Nat}(c:Mine l)(d:∀o,¬F l o)(ob:Obj):Step Mine F w F (w.putObj l ob):=by
 refine⟨λ_ _ h=>h,λb o h=>?_,λ_ _ h=>.inl h,λb o h=>?_,⟨rfl,rfl,rfl,jq,λk _ a=>World.putObj_heap_other λe=>a (e▸c)⟩⟩
 ·grind[World.cell?_of_block,World.putObj_heap_other]
 ·rw[World.putObj_size];exact g.lt b o h
theorem MemOk.keepB {F F':Cells}{w e:qn}{ρ:Env}{Mine:Nat->Prop}{M:Mem}(g:MemOk F w ρ Mine M)(n:∀b o,F b o->F' b o)
 (p:∀b o,F b o->e.cell? ⟨b,o,none⟩=w.cell? ⟨b,o,none⟩) (m:w.heap.size<=e.heap.size)
 (c:∀j r b,M.get j=some r->Owns w ρ j r b->e.heap[b]?=w.heap[b]?/\∀o,F' b o->F b o):MemOk F' e ρ Mine M:=by
 have d:∀j r,M.get j=some r->∀b,Owns e ρ j r b↔Owns w ρ j r b:=λj r h=>yzo ⟨rfl,rfl⟩ λb a=>(c j r b h a).1
 refine⟨λj r h=>(g.ok j r h).keep (λ_=>True) n p (λ_ _=>⟨rfl,rfl⟩) trivial (λ_ h=>absurd trivial h) λb a=>c j r b h a,λj r b h a=>?_,λj i r k b h l a f=>?_⟩
 ·rw[d j r h]at a;have:=g.mine j r b h a
  grind
 ·rw[d j r h]at a;rw[d i k l]at f;exact g.disj j i r k b h l a f
def azjn:Res->Bool
 | .box _=>true
 |_=>false
def uz6 (m:Mem):Bool:=m.all λx=>azjn x.2
theorem gzd {m:Mem}(h:uz6 m=true){i:Nat}{r:Res}(c:m.get i=some r):∃b,r=.box b:=by
 have:=List.all_eq_true.1 h _ (gzz c);cases r<;>simp[azjn]at this
 simp_all
theorem box_owns {w:qn}{ρ:Env}{i b:Nat}{a:List AVal}:Owns w ρ i (.box a) b↔ρ.blk i=b:=by
 simp[Owns,mzh,bz8]
theorem azo0 {F:Cells}{w:qn}{ρ:Env}{i:Nat}{a:List AVal}(h:ResOk F w ρ i (.box a)):ρ.blk i<w.heap.size/\∀o,¬F (ρ.blk i) o:=by
 obtain⟨c,e,b,_,d,_⟩:=h
 grind
theorem kzz {m a:Mem}(h:m.map (·.1)=a.map (·.1)){i:Nat}{r:Res}(c:m.get i=some r):∃b,a.get i=some b:=by
 have d:i∈a.map (·.1):=by rw[<-h];exact List.mem_map.2 ⟨_,gzz c,rfl⟩
 cases e:a.get i with
 |some b=>simp_all
 |none=>
  clear h c;induction a<;>grind[Mem.get]
def tokP (d:Bool)(p:PVal):PVal:=bif d then .agg [p]else .nilI
structure YldS (P:qo) {A:Type} (encX:A->PVal) (o:A->Option Bool)where
 l:Nat
 τ:Tok
 ok:∀x y,o x=some y->YSpec P l 1 [.pure (encX x)] [(0,.tok τ .nilI)] (.pure (.bool !y)) [(0,.tok τ (tokP y (encX x)))]
section
variable (ρ:Env) (F0:Cells) (w0:qn) (l D:Nat) (rec:LoopState->Option Code->Loop) (bx:Mem) (memD:PVal->Mem)
def rngJ (p:PVal)(F:Cells)(w:qn):Prop:=
 (∀b o,F0 b o->F b o/\w.cell? ⟨b,o,none⟩=w0.cell? ⟨b,o,none⟩)/\w.heap[D]?=some (.deferred (some []))/\(∀o,¬F D o)/\(∀o,¬F l o)/\
 ((p=.nilI/\w.heap[l]?=some (.loop (rec .ready none))/\∀i r,bx.get i=some r->ResOk F w ρ i r)\/
   ∃x,p=.agg [x]/\w.heap[l]?=some (.loop (rec .done (some .ret)))/\∀i r,(memD x).get i=some r->ResOk F w ρ i r)
def rngB (b:Nat):Prop:=(∃i r,bx.get i=some r/\ρ.blk i=b)\/b=l\/b=D
variable (hbx:uz6 bx=true) (hmD:∀x,uz6 (memD x)=true/\(memD x).map (·.1)=bx.map (·.1))
include hbx hmD in
theorem azi2 {p:PVal}{F F':Cells}{w c:qn}(h:rngJ ρ F0 w0 l D rec bx memD p F w)(C:∀b o,F b o->F' b o)
 (v:∀b o,F b o->c.cell? ⟨b,o,none⟩=w.cell? ⟨b,o,none⟩) (n:∀b,rngB ρ l D bx b->c.heap[b]?=w.heap[b]?/\∀o,F' b o->F b o):rngJ ρ F0 w0 l D rec bx memD p F' c:=by
 obtain⟨I,x,y,u,K⟩:=h;obtain⟨g,f⟩:=n D (.inr (.inr rfl));obtain⟨A,d⟩:=n l (.inr (.inl rfl));have s:∀ (m:Mem),uz6 m=true->m.map (·.1)=bx.map (·.1)->(∀i r,m.get i=some r->ResOk F w ρ i r)->∀i r,m.get i=some r->ResOk F' c ρ i r:=by
  intro m a hi z i r j;obtain⟨J,rfl⟩:=gzd a j;obtain⟨B,k⟩:=kzz hi j;refine(z i _ j).keep (λ_=>True) C v (λ_ _=>⟨rfl,rfl⟩) trivial (λ_ h=>absurd trivial h) λb a=>?_
  rw[box_owns]at a;exact n b (.inl ⟨i,B,k,a⟩)
 refine⟨λb o a=>?_,g.trans x,λo e=>y o (f o e),λo e=>u o (d o e),?_⟩;all_goals grind
def azec:Tok:=⟨rngB ρ l D bx,rngJ ρ F0 w0 l D rec bx memD,λh d i c=>azi2 ρ F0 w0 l D rec bx memD hbx hmD h d i c⟩
end
def azkh (bx b:Mem)(e:Ex)(t:T Bool)(s:St):Ob:=
 match finT t s with
 |some (y,a)=>(match e with
  | .normal=>.and (.eq y false) (subM a.mem bx)
  | .ret=>.and (.eq y true) (subM a.mem b)
  |_=>.no)
 |none=>.no
def az5r (P:qo)(nt c:Nat)(a:List Oper->List Eff->Bool)(b d:Code)(t:T Bool)(s:St)(bx f:Mem):Ob:=
 vcT P nt c a b t s λe t s=>match e with
  | .normal=>vcT P nt c a d t s (azkh bx f)
  |_=>.no
section
variable {P:qo} {drawOk:List Oper->List Eff->Bool} {A:Type} {encX:A->PVal} {N:Nat}
theorem azef (hd:gzb P drawOk){nt n1:Nat}{bodyT:A->T Bool}{asg bd:Code}(hra:rOk asg=true)(hrb:rOk bd=true){p0:Nat}(hp0:p0<nt)
 {fr:List (Nat×AVal)} {bx:Mem} {memD:PVal->Mem} (hbx:uz6 bx=true) (hmD:∀x,uz6 (memD x)=true/\(memD x).map (·.1)=bx.map (·.1))
 {ρ:Env} {F0:Cells} {w0:qn} {tmps:Array Value} (htm:tmps.size=nt) (hfr:∀t,ARel F0 w0 ρ (rzz fr t) (tmps.getD t undef)) {l D:Nat} (hlD:l≠D) {fn:FuncId}
 (hdis:∀i i' r r',bx.get i=some r->bx.get i'=some r'->ρ.blk i=ρ.blk i'->i=i') (hlb:∀i r,bx.get i=some r->ρ.blk i≠l/\ρ.blk i≠D)
 (hok:∀x,St.ok ⟨(p0,.pure (encX x))::fr,bx,[],n1⟩=true)
 (hmL:∀x,hzt n1 (memD (encX x))=true)
 (h:∀x,(az5r P nt n1 drawOk asg bd (bodyT x) ⟨(p0,.pure (encX x))::fr,bx,[],n1⟩ bx (memD (encX x))).holds) (x:A) (y:Bool) (hrun:(bodyT x).run N=some y):
 YSpec P l 1 [.pure (encX x)] [(0,.tok (azec ρ F0 w0 l D (λst pe=>{state:=st,pending:=pe,fn:=fn,tmps:=tmps,params:=#[p0],assign:=asg,body:=bd,defers:=D}) bx memD hbx hmD) .nilI)] (.pure (.bool !y))
  [(0,.tok (azec ρ F0 w0 l D (λst pe=>{state:=st,pending:=pe,fn:=fn,tmps:=tmps,params:=#[p0],assign:=asg,body:=bd,defers:=D}) bx memD hbx hmD) (tokP y (encX x)))]:=by
 refine⟨λF1 w1 ρc Mine1 vs hm g hargs=>?_⟩;obtain⟨hF0,hD,hFD,hFl,hst⟩:=hm.ok 0 _ rfl;have hst:=hst.resolve_right (by rintro⟨x,hx,_⟩;cases hx);obtain⟨_,hl,hb⟩:=hst;have hBM:∀b,rngB ρ l D bx b->Mine1 b/\b<w1.heap.size:=λb hb=>hm.mine 0 _ b rfl (.inr hb)
 obtain⟨v,hvs⟩:∃v,vs=#[v]:=by
  have hs:=hargs.1;simp at hs;exact⟨vs[0],by apply xY;obtain⟨l⟩:=vs;match l,hs with|[u],_=>rfl⟩
 subst hvs;have hv:ARel F1 w1 ρ (.pure (encX x)) v:=.pure (hargs.2 0 _ v rfl rfl).pure_inv;let Mine':Nat->Prop:=λb=>(∃i r,bx.get i=some r/\ρ.blk i=b)\/w1.heap.size<=b
 have hMM:∀b,Mine' b->Mine1 b:=λb hb=>hb.elim (λhb=>(hBM b (.inl hb)).1) λhb=>g.mine b hb
 have hnl:¬Mine' l:=by
  rintro(⟨i,r,h1,h2⟩|h1)
  ·exact(hlb i r h1).1 h2
  ·have:=(hBM l (.inr (.inl rfl))).2;omega
 have hnD:¬Mine' D:=by
  rintro(⟨i,r,h1,h2⟩|h1)
  ·exact(hlb i r h1).2 h2
  ·have:=(hBM D (.inr (.inr rfl))).2;omega
 have mem_of:∀ (F:Cells) (w:qn) (m:Mem),uz6 m=true->m.map (·.1)=bx.map (·.1)->(∀i r,m.get i=some r->ResOk F w ρ i r)->MemOk F w ρ Mine' m:=by
  intro F w m hab hid hr;refine⟨hr,λi r b hi hb=>?_,λi i' r r' b hi hi' hb hb'=>?_⟩
  ·obtain⟨cs,rfl⟩:=gzd hab hi;obtain⟨q,hq⟩:=kzz hid hi;rw[box_owns]at hb;exact⟨.inl ⟨i,q,hq,hb⟩,hb▸(azo0 (hr i _ hi)).1⟩
  ·obtain⟨cs,rfl⟩:=gzd hab hi;obtain⟨cs',rfl⟩:=gzd hab hi';obtain⟨q,hq⟩:=kzz hid hi;obtain⟨q',hq'⟩:=kzz hid hi';rw[box_owns]at hb hb';exact hdis i i' q q' hq hq' (hb.trans hb'.symm)
 refine⟨fn,tmps.setIfInBounds p0 v,asg,bd,?_,roundIn_of_wpIn trivial ?_⟩
 ·have:=run_yield (P:=P) (args:=#[v]) hl rfl;rw[this];simp
 let X1:Cx:=⟨nt,n1,Mine',F1,w1,ρ,[]⟩;have g1:Good F1 w1 Mine':=⟨g.lt,λb hb=>.inr hb,g.tab⟩;have hsat:Sat X1 F1 w1 ρ ⟨(p0,.pure (encX x))::fr,bx,[],n1⟩ {tmps:=tmps.setIfInBounds p0 v,defers:=[]}:=by
  refine⟨by simpa using htm,λt=>?_,mem_of _ _ bx hbx rfl hb,.nil,g1,Step.refl g1,λi _=>⟨rfl,rfl⟩⟩;show ARel F1 w1 ρ (rzz ((p0,.pure (encX x))::fr) t) ((tmps.setIfInBounds p0 v).getD t undef);simp only[rzz,xK,Array.getElem?_setIfInBounds];by_cases e:p0=t
  ·subst e;simpa[htm,hp0]using hv
  ·rw[qb e,qb e];have:=hfr t;rw[xK]at this;exact this.mono' (λb o hb=>(hF0 b o hb).1) λb o hb=>(hF0 b o hb).2
 refine czg (ro:=some l) (X:=X1) hd asg (bodyT x) _ _ _ y F1 w1 ρ _ (.inr hra) (h x) hrun hsat (hok x) (qk _) ?_;intro e t2 s2 F2 w2 ρ2 a2 hK hr2 hs2 ho2 h02;cases e with
 |exit id=>exact hK.elim
 |ret=>exact hK.elim
 |normal=>
  have hl2:=(hs2.from0.keep.block l (hBM l (.inr (.inl rfl))).2 hnl).trans hl;have hD2:=(hs2.from0.keep.block D (hBM D (.inr (.inr rfl))).2 hnD).trans hD;have hF2:∀b,b<w1.heap.size->¬Mine' b->(∀o,¬F1 b o)->∀o,¬F2 b o:=λb hb hn hf o ho=>(hs2.from0.new b o ho).elim (hf o) hn
  refine⟨_,run_beginRound hl2 rfl,?_⟩;generalize hw2b:w2.putObj l _=w2b;have hMl:Mine1 l:=(hBM l (.inr (.inl rfl))).1;have g2:Good F2 w2 Mine1:=(hs2.from0.wider hMM).good g;have stp:Step Mine1 F2 w2 F2 w2b:=hw2b▸Step.put g2 hMl (hF2 l (hBM l (.inr (.inl rfl))).2 hnl hFl) _;have hoth:∀b,b≠l->w2b.heap[b]?=w2.heap[b]?:=λb hb=>hw2b▸World.putObj_heap_other hb
  have hsz2:w2b.heap.size=w2.heap.size:=hw2b▸World.putObj_size;let X2:Cx:=⟨nt,n1,Mine',F2,w2b,ρ,[]⟩;have g2b:Good F2 w2b Mine':=⟨λb o hb=>by rw[hsz2];exact hs2.good.lt b o hb,λb hb=>hs2.good.mine b (by rw[<-hsz2];exact hb),hs2.good.tab.step stp.sub stp.cell⟩;have hsat2:Sat X2 F2 w2b ρ2 s2 a2:=by
   refine⟨hs2.size,λt=>(hs2.fr t).mono' stp.sub stp.cell,hs2.mem.keepB stp.sub stp.cell qa λj r b hj hb=>?_,Mz7 (λ_=>True) stp.sub stp.cell (λ_ _=>⟨rfl,rfl⟩) hs2.df (λ_ h=>absurd trivial h),g2b,Step.refl g2b,hs2.env0⟩;exact⟨hoth b λe=>hnl (e▸(hs2.mem.mine j r b hj hb).1),λ_ h=>h⟩
  refine czg (ro:=some l) (X:=X2) hd bd t2 s2 _ _ y F2 w2b ρ2 a2 (.inr hrb) hK hr2 hsat2 ho2 h02 ?_;intro e t3 s30 F3 w3 ρ3 a3 hK3 hr3 hs30 ho30 h030;simp only[azkh]at hK3;split at hK3
  case h_2=>exact hK3.elim
  rename_i y' s3 hfin;have hs3:=(nzw hfin hs30 ho30 h030).1;have hy:=nzv hfin hr3;subst hy;clear hs30 ho30 h030 hfin hr3;have hl3:w3.heap[l]?=some (.loop {state:=.busy,pending:=none,fn:=fn,tmps:=tmps,params:=#[p0],assign:=asg,body:=bd,defers:=D}):=by
   refine(hs3.from0.keep.block l (by rw[hsz2];exact(xZ.1 hl2).1) hnl).trans ?_;show w2b.heap[l]?=_;rw[<-hw2b];exact World.putObj_heap_same (xZ.1 hl2).1
  have hD3:w3.heap[D]?=some (.deferred (some [])):=(hs3.from0.keep.block D (by rw[hsz2];exact(xZ.1 hD2).1) hnD).trans ((hoth D (Ne.symm hlD)).trans hD2);have hF3:∀b,b<w1.heap.size->¬Mine' b->(∀o,¬F1 b o)->∀o,¬F3 b o:=λb hb hn hf o ho=>(hs3.from0.new b o ho).elim (hF2 b hb hn hf o) hn
  have st13:Step Mine1 F1 w1 F3 w3:=((hs2.from0.wider hMM).trans stp).trans (hs3.from0.wider hMM);have g3:Good F3 w3 Mine1:=st13.good g;have hFl3:=hF3 l (hBM l (.inr (.inl rfl))).2 hnl hFl
  have fin:∀ (mm:Mem) (jump:Option Code) (st:LoopState),MSub s3.mem mm->uz6 mm=true->mm.map (·.1)=bx.map (·.1)->
   hzt n1 mm=true->
   ∀w4,w4=w3.putObj l (.loop {state:=st,pending:=jump,fn:=fn,tmps:=tmps,params:=#[p0],assign:=asg,body:=bd,defers:=D})->
   Step Mine1 F1 w1 F3 w4/\w4.heap[l]?=some (.loop {state:=st,pending:=jump,fn:=fn,tmps:=tmps,params:=#[p0],assign:=asg,body:=bd,defers:=D})/\
   w4.heap[D]?=some (.deferred (some []))/\(∀b o,F0 b o->F3 b o/\w4.cell? ⟨b,o,none⟩=w0.cell? ⟨b,o,none⟩)/\(∀i r,mm.get i=some r->ResOk F3 w4 ρ i r):=by
   intro mm jump st hsub hab hid hin w4 hw4;have stp4:Step Mine1 F3 w3 F3 w4:=hw4▸Step.put g3 hMl hFl3 _;have ho4:∀b,b≠l->w4.heap[b]?=w3.heap[b]?:=λb hb=>hw4▸World.putObj_heap_other hb
   have st14:=st13.trans stp4;refine⟨st14,hw4▸World.putObj_heap_same (xZ.1 hl3).1,(ho4 D (Ne.symm hlD)).trans hD3,λb o hb=>?_,λi r hi=>?_⟩
   ·obtain⟨q1,q2⟩:=hF0 b o hb;exact⟨st14.sub b o q1,(st14.cell b o q1).trans q2⟩
   ·obtain⟨r0,q1,q2⟩:=uzl hsub (gzz hi);obtain⟨cs,rfl⟩:=gzd hab hi;obtain⟨hi1,hi2⟩:=gzn hin hi;have hr3:ResOk F3 w3 ρ3 i (.box cs):=(q2.rel F3 w3 ρ3 i (hs3.mem.ok _ _ q1)).1;refine hr3.keep (λj=>j<n1) stp4.sub stp4.cell (λj hj=>⟨(hs3.env0 j hj).1.symm,(hs3.env0 j hj).2.symm⟩) hi1 (λj hj=>yz8 (Nat.le_of_not_lt hj) hi2) λb hb=>⟨ho4 b ?_,λ_ h=>h⟩
    rw[box_owns,(hs3.env0 i hi1).1]at hb;obtain⟨q,hq⟩:=kzz hid hi;exact hb▸(hlb i q hq).1
  have tokOk:∀ (w4:qn) (p:PVal),Step Mine1 F1 w1 F3 w4->rngJ ρ F0 w0 l D (λst pe=>{state:=st,pending:=pe,fn:=fn,tmps:=tmps,params:=#[p0],assign:=asg,body:=bd,defers:=D}) bx memD p F3 w4->
   MemOk F3 w4 ρc Mine1 [(0,.tok (azec ρ F0 w0 l D (λst pe=>{state:=st,pending:=pe,fn:=fn,tmps:=tmps,params:=#[p0],assign:=asg,body:=bd,defers:=D}) bx memD hbx hmD) p)]:=by
   intro w4 p st hJ;have one:∀ {i:Nat} {r q:Res},Mem.get [(0,q)] i=some r->i=0/\q=r:=by
    intro i r q hi;simp only[Mem.get]at hi;split at hi
    ·rename_i e;exact⟨e.symm,by simpa using hi⟩
    ·cases hi
   refine⟨λi r hi=>?_,λi r b hi hb=>?_,λi i' r r' b hi hi' _ _=>?_⟩
   ·obtain⟨rfl,rfl⟩:=one hi;exact hJ
   ·obtain⟨rfl,rfl⟩:=one hi;have hb':rngB ρ l D bx b:=by
     rcases hb with hb|hb
     ·simp[bz8]at hb
     ·exact hb
    exact⟨(hBM b hb').1,Nat.lt_of_lt_of_le (hBM b hb').2 st.keep.size⟩
   ·rw[(one hi).1,(one hi').1]
  cases e with
  |exit id=>exact hK3.elim
  |normal=>
   obtain⟨hy,hsub⟩:=hK3;have hy:y'=false:=hy;subst hy;refine⟨_,_,run_endRound none hl3,?_⟩;obtain⟨q1,q2,q3,q4,q5⟩:=fin bx none .ready (xzh hsub) hbx rfl (by have:=hok x;simp only[St.ok,qm]at this;exact this.1.2) _ rfl;have hFD4:=hF3 D (hBM D (.inr (.inr rfl))).2 hnD hFD;exact⟨_,F3,ρc,rfl,q1,λ_ _=>⟨rfl,rfl⟩,.pure .bool,tokOk _ _ q1 ⟨q4,q3,hFD4,hFl3,.inl ⟨rfl,q2,q5⟩⟩⟩
  |ret=>
   obtain⟨hy,hsub⟩:=hK3;have hy:y'=true:=hy;subst hy;refine⟨_,_,run_endRound (some .ret) hl3,?_⟩;obtain⟨q1,q2,q3,q4,q5⟩:=fin (memD (encX x)) (some .ret) .done (xzh hsub) (hmD _).1 (hmD _).2 (hmL x) _ rfl;have hFD4:=hF3 D (hBM D (.inr (.inr rfl))).2 hnD hFD;exact⟨_,F3,ρc,rfl,q1,λ_ _=>⟨rfl,rfl⟩,.pure .bool,tokOk _ _ q1 ⟨q4,q3,hFD4,hFl3,.inr ⟨encX x,rfl,q2,q5⟩⟩⟩
end
theorem Step.alloc0 {Mine:Nat->Prop}{F:Cells}{w:qn}(g:Good F w Mine)(ob:Obj):Step Mine F w F (w.alloc ob):=
 ⟨λ_ _ h=>h,λb o h=>World.cell?_alloc_lt _ _ _ (g.lt b o h),λ_ _ h=>.inl h,λb o h=>by have:=g.lt b o h;simp;omega,⟨rfl,rfl,rfl,jq,λk a _=>heap_alloc_old w ob a⟩⟩
def Tzi (a:Nat)(τ:Tok)(bx m:Mem):Mem:=(a,.tok τ .nilI)::(bx.map λx=>(x.1,Res.gone))++m
theorem azbt {bx:Mem}{i:Nat}{r:Res}(h:Mem.get (bx.map λx=>(x.1,Res.gone)) i=some r):r=.gone/\∃q,bx.get i=some q:=by
 induction bx<;>grind[Mem.get]
theorem az8r {bx:Mem}{i:Nat}(h:Mem.get (bx.map λx=>(x.1,Res.gone)) i=none):bx.get i=none:=by
 induction bx<;>grind[Mem.get]
theorem nzi {a:Nat}{τ:Tok}{bx m:Mem}{i:Nat}{r:Res}(h:(Tzi a τ bx m).get i=some r):
 (i=a/\r=.tok τ .nilI)\/(i≠a/\r=.gone/\∃q,bx.get i=some q)\/(i≠a/\bx.get i=none/\m.get i=some r):=by
 simp only[Tzi,List.cons_append,Mem.get]at h;split at h
 ·simp_all
 ·rw[Mem.get_append]at h;cases b:Mem.get (bx.map λx=>(x.1,Res.gone)) i<;>grind[azbt,az8r]
section
variable {P:qo} {drawOk:List Oper->List Eff->Bool} {A B:Type} {dB:B->Bool} {xB:B->A} {encX:A->PVal} {N:Nat}
structure RngCall (P:qo) (dB:B->Bool) (xB:B->A) (c:CallS B) (encX:A->PVal) (gf:FuncId) (as:List AVal) (l:Nat) (τ:Tok) (bx m:Mem) (id:Nat) (σ:List (Nat×Nat)) (o:Option B):Prop where
 hP:c.P=P
 hf:c.f=.fn gf
 ho:c.o=o
 args:Gza (.yld l::as) (AVal.renL (ezc σ c.k id) c.args)
 mem:MSub (Tzi (id+64) τ bx m) (Mem.ren (ezc σ c.k id) c.m)
 ren:∀r,Tzf (c.hint σ r) id=true
 tok:∀r,(Mem.ren (ezc σ c.k id) (c.m' r)).get (id+64)=some (.tok τ (tokP (dB r) (encX (xB r))))
theorem azpb (hd:gzb P drawOk){X0:Cx}{bodyT:A->T Bool}{g:Operand}{asg bd:Code}(hra:rOk asg=true)(hrb:rOk bd=true){p0:Nat}(hp0:p0<X0.nt)
 {s:St} {F:Cells} {w:qn} {ρ:Env} {a:Act} (hs:Sat X0 F w ρ s a) (hso:s.ok=true) {gf:FuncId} {caps:List AVal} (hg:bzz s g=.func gf [] caps)
 {bx:Mem} {memD:PVal->Mem} (hbx:uz6 bx=true) (hmD:∀x,uz6 (memD x)=true/\(memD x).map (·.1)=bx.map (·.1)) (hmL:∀x,hzt s.nx (memD (encX x))=true)
 (hok:∀x,St.ok ⟨(p0,.pure (encX x))::s.fr,bx,[],s.nx⟩=true) (hsub:MSub s.mem bx) (hbl:hzt s.nx bx=true)
 (hbody:∀x,(az5r P X0.nt s.nx drawOk asg bd (bodyT x) ⟨(p0,.pure (encX x))::s.fr,bx,[],s.nx⟩ bx (memD (encX x))).holds)
 {σ:List (Nat×Nat)} {o:Option B} (cand:YldS P encX (λx=>(bodyT x).run N)->CallS B)
 (hc:∀Y,RngCall P dB xB (cand Y) encX gf caps Y.l Y.τ bx s.mem s.nx σ o) {r:B} (hr:o=some r) {Q:Exit->Act->qn->Prop}
 (hQ:∀F' w',Step X0.Mine F w F' w'->w'.heap[w.heap.size]?=some (.deferred (some []))->(∀o,¬F' w.heap.size o)->
  Sat ⟨X0.nt,X0.n0,λb=>X0.Mine b/\b≠w.heap.size,F',w',X0.ρ0,{target:=.collected w.heap.size,args:=#[]}::a.defers⟩ F' w' ρ ⟨s.fr,bif dB r then memD (encX (xB r))else bx,[],s.nx⟩
   {a with defers:={target:=.collected w.heap.size,args:=#[]}::a.defers}->
  Q (bif dB r then .ret else .normal) {a with defers:={target:=.collected w.heap.size,args:=#[]}::a.defers} w'):
 (Code.rangeFunc g #[p0] asg bd).wp P Q a w:=by
 refine wpIn_wide.1 (wpIn_rangeFunc (F:=Fence.wide) (n:=0) ?_);intro fnid _;have hso':=hso;simp only[St.ok,qm]at hso';obtain⟨⟨hfrlt,hmemlt⟩,_⟩:=hso';generalize hD:w.heap.size=D at *
 generalize hl:D+1=l at *
 have hlD:l≠D:=qa
 generalize hw1:(w.alloc (.deferred (some []))).alloc (.loop {state:=.ready,pending:=none,fn:=fnid,tmps:=a.tmps,params:=#[p0],assign:=asg,body:=bd,defers:=D})=w1 at *
 have hent:(Instr.enterLoop fnid a.tmps #[p0] asg bd Fence.wide.round).run P w=.ok (l,[{target:=.collected D,args:=#[]}]) w1:=by
  have:=run_enterLoop_outer (P:=P) (w:=w) fnid a.tmps #[p0] asg bd;rw[hD,hl,hw1]at this;exact this
 have hsz1:w1.heap.size=D+2:=by rw[<-hw1];simp[hD]
 have g0:=hs.good;have sta:Step X0.Mine F w F (w.alloc (.deferred (some []))):=Step.alloc0 g0 _;have st1:Step X0.Mine F w F w1:=hw1▸sta.trans (Step.alloc0 (sta.good g0) _);have g1:Good F w1 X0.Mine:=st1.good g0;have hMD:X0.Mine D:=g0.mine D qa;have hMl:X0.Mine l:=g0.mine l qa;have hD1:w1.heap[D]?=some (.deferred (some [])):=by
  have h1:=World.alloc_heap_new w (.deferred (some []));rw[hD]at h1;rw[<-hw1];exact(heap_alloc_old _ _ jv).trans h1
 have hl1:w1.heap[l]?=some (.loop {state:=.ready,pending:=none,fn:=fnid,tmps:=a.tmps,params:=#[p0],assign:=asg,body:=bd,defers:=D}):=by
  have h1:=World.alloc_heap_new (w.alloc (.deferred (some []))) (.loop {state:=.ready,pending:=none,fn:=fnid,tmps:=a.tmps,params:=#[p0],assign:=asg,body:=bd,defers:=D});rw[World.size_alloc,hD,hl,hw1]at h1;exact h1
 have hFD:∀o,¬F D o:=λo ho=>by have:=g0.lt D o ho;omega
 have hFl:∀o,¬F l o:=λo ho=>by have:=g0.lt l o ho;omega
 have hbxs:∀i q,bx.get i=some q->∃r0,s.mem.get i=some r0/\ResOk F w ρ i q/\Owns w ρ i r0 (ρ.blk i):=by
  intro i q hi;obtain⟨r0,q1,q2⟩:=uzl hsub (gzz hi);obtain⟨cs,rfl⟩:=gzd hbx hi;obtain⟨q3,q4⟩:=q2.rel F w ρ i (hs.mem.ok _ _ q1);exact⟨r0,q1,q3,q4 _ (box_owns.2 rfl)⟩
 have hbm:∀i q,bx.get i=some q->X0.Mine (ρ.blk i)/\ρ.blk i<D:=by
  intro i q hi;obtain⟨r0,q1,_,q3⟩:=hbxs i q hi;have:=hs.mem.mine i r0 _ q1 q3;exact⟨this.1,qa⟩
 have hdis:∀i i' q q',bx.get i=some q->bx.get i'=some q'->ρ.blk i=ρ.blk i'->i=i':=by
  intro i i' q q' hi hi' he;obtain⟨r0,q1,_,q3⟩:=hbxs i q hi;obtain⟨r1,p1,_,p3⟩:=hbxs i' q' hi';exact hs.mem.disj i i' r0 r1 _ q1 p1 q3 (he▸p3)
 have hlb:∀i q,bx.get i=some q->ρ.blk i≠l/\ρ.blk i≠D:=λi q hi=>by have:=(hbm i q hi).2;exact⟨qa,qa⟩
 have hfr1:∀t,ARel F w1 ρ (rzz s.fr t) (a.tmps.getD t undef):=λt=>(hs.fr t).mono' st1.sub st1.cell
 let Y:YldS P encX (λx=>(bodyT x).run N):=⟨l,_,λx y hy=>azef hd hra hrb hp0 hbx hmD hs.size hfr1 (D:=D) hlD (fn:=fnid) hdis hlb hok hmL hbody x y hy⟩;obtain⟨hP,hf,hco,hargs,hmem,hren,htok⟩:=hc Y;have hspec:=(cand Y).ok r (hco.trans hr);rw[hP,hf]at hspec;have hgv:=hg▸Jzw hs g;obtain⟨v2,hav,hcl,hcr⟩:∃v2:Array Value,a.eval g=.func (.func gf) #[] v2/\caps.length=v2.size/\∀ (j:Nat) (b:AVal) (v:Value),caps[j]?=some b->v2[j]?=some v->ARel F w ρ b v:=by
  generalize a.eval g=u at hgv;cases hgv with
  |@func _ _ _ v1 v2 q1 q2 q3 q4=>exact⟨v2,by rw[Array.eq_empty_of_size_eq_zero q1.symm],q3,q4⟩
 have hresolve:(resolve a.eval (rangeCall g l) 0).run P w1=.ok {target:=.fn (.func gf) v2,args:=#[.func (.yield l) #[] #[]]} w1:=by
  simp only[resolve,hav];simp[go_sem]
 refine⟨l,_,w1,_,w1,gf,#[.func (.yield l) #[] #[]]++v2,w1,hent,hresolve,λ_ _=>trivial,by simp[invoke,ozl hspec.callable],(λh=>by cases h),?_⟩;refine callsIn_wide.2 ?_;have hMok:MemOk F w1 ρ X0.Mine (Tzi (s.nx+64) Y.τ bx s.mem):=by
  have hm1:MemOk F w1 ρ X0.Mine s.mem:=hs.mem.keepB st1.sub st1.cell st1.keep.size λj q b hj hb=>⟨by
   have hb':=(hs.mem.mine j q b hj hb).2;rw[<-hw1];exact(heap_alloc_old _ _ jv).trans (heap_alloc_old _ _ hb'),λ_ h=>h⟩
  have htB:∀b,Owns w1 ρ (s.nx+64) (.tok Y.τ .nilI) b->rngB ρ l D bx b:=by
   intro b hb;rcases hb with hb|hb
   ·simp[bz8]at hb
   ·exact hb
  have hno:∀ {i b:Nat},¬Owns w1 ρ i .gone b:=az1g rfl;have hbx1:∀i q,bx.get i=some q->∃r0,s.mem.get i=some r0/\ResOk F w1 ρ i q/\Owns w1 ρ i r0 (ρ.blk i):=by
   intro i q hi;obtain⟨r0,q1,q2⟩:=uzl hsub (gzz hi);obtain⟨cs,rfl⟩:=gzd hbx hi;obtain⟨q3,q4⟩:=q2.rel F w1 ρ i (hm1.ok _ _ q1);exact⟨r0,q1,q3,q4 _ (box_owns.2 rfl)⟩
  have key:∀i q b,bx.get i=none->s.mem.get i=some q->Owns w1 ρ i q b->¬rngB ρ l D bx b:=by
   intro i q b hn hi hb hB;have hlt:=hs.mem.mine i q b hi ((yzo ⟨rfl,rfl⟩ (λb hb=>by
    have hb':=(hs.mem.mine i q b hi hb).2;rw[<-hw1];exact(heap_alloc_old _ _ jv).trans (heap_alloc_old _ _ hb')) b).1 hb)
   rcases hB with⟨j,q',hj,rfl⟩|rfl|rfl
   ·obtain⟨r0,q1,_,q3⟩:=hbx1 j q' hj;have:=hm1.disj j i r0 q _ q1 hi q3 hb;subst this;rw[hn]at hj;cases hj
   ·omega
   ·omega
  refine⟨λi q hi=>?_,λi q b hi hb=>?_,λi i' q q' b hi hi' hb hb'=>?_⟩
  ·rcases nzi hi with⟨rfl,rfl⟩|⟨_,rfl,_⟩|⟨_,_,h3⟩
   ·exact⟨λb o hb=>⟨hb,rfl⟩,hD1,hFD,hFl,.inl ⟨rfl,hl1,λj q hj=>(hbx1 j q hj).choose_spec.2.1⟩⟩
   ·trivial
   ·exact hm1.ok _ _ h3
  ·rcases nzi hi with⟨rfl,rfl⟩|⟨_,rfl,_⟩|⟨_,_,h3⟩
   ·rcases htB b hb with⟨j,q',hj,rfl⟩|rfl|rfl
    ·have:=hbm j q' hj;exact⟨this.1,qa⟩
    ·exact⟨hMl,qa⟩
    ·exact⟨hMD,qa⟩
   ·exact absurd hb hno
   ·exact hm1.mine _ _ _ h3 hb
  ·rcases nzi hi with⟨rfl,rfl⟩|⟨_,rfl,_⟩|⟨_,h2,h3⟩
   ·rcases nzi hi' with⟨rfl,rfl⟩|⟨_,rfl,_⟩|⟨_,h2',h3'⟩
    ·rfl
    ·exact absurd hb' hno
    ·exact absurd (htB b hb) (key _ _ _ h2' h3' hb')
   ·exact absurd hb hno
   ·rcases nzi hi' with⟨rfl,rfl⟩|⟨_,rfl,_⟩|⟨_,h2',h3'⟩
    ·exact absurd (htB b hb') (key _ _ _ h2 h3 hb)
    ·exact absurd hb' hno
    ·exact hm1.disj _ _ _ _ b h3 h3' hb hb'
 have hfresh:Fresh s.nx (Tzi (s.nx+64) Y.τ bx s.mem):=by
  refine⟨λi hi=>?_,λi j q hi hj=>?_⟩
  ·obtain⟨i1,i2⟩:=hi;cases hgi:(Tzi (s.nx+64) Y.τ bx s.mem).get i with
   |none=>rfl
   |some q=>
    rcases nzi hgi with⟨rfl,_⟩|⟨_,_,q',h3⟩|⟨_,_,h3⟩
    ·omega
    ·have:=(gzn hbl h3).1;omega
    ·have:=(gzn hmemlt h3).1;omega
  ·rcases nzi hj with⟨_,rfl⟩|⟨_,rfl,_⟩|⟨_,_,h3⟩
   ·rfl
   ·rfl
   ·exact yz8 hi.1 (gzn hmemlt h3).2
 have hargs':Hzu F w1 ρ (AVal.renL (ezc σ (cand Y).k s.nx) (cand Y).args) (#[.func (.yield l) #[] #[]]++v2):=by
  obtain⟨q1,q2⟩:=rzo (F:=F) (w:=w1) (ρ:=ρ) hargs;refine⟨by rw[<-q1];simp[hcl];omega,λj b v hb hv=>?_⟩;obtain⟨b',hb',hbv⟩:=q2 j b hb;refine hbv v ?_;cases j with
  |zero=>
   rw[x6 jq]at hv;simp at hb' hv;subst hb';subst hv;exact .yld
  |succ j=>
   simp at hb';rw[Array.getElem?_append_right jq]at hv;simp at hv;exact(hcr j b' v hb' hv).mono' st1.sub st1.cell
 have hcall:=az0k (C:=Calls P gf) (λh k=>h.mono k) (h:=(cand Y).hint σ r) (id:=s.nx) hspec.calls (az7u (hren r)) hMok g1 hfresh (λx hx=>uzl hmem hx) hargs';refine hcall.mono ?_;rintro e w2 ⟨v,F2,ρ2,rfl,st2,_,_,hm2⟩
 have hJ:rngJ ρ F w1 l D (λst pe=>{state:=st,pending:=pe,fn:=fnid,tmps:=a.tmps,params:=#[p0],assign:=asg,body:=bd,defers:=D}) bx memD (tokP (dB r) (encX (xB r))) F2 w2:=
  hm2.ok (s.nx+64) (.tok Y.τ (tokP (dB r) (encX (xB r)))) (by
   rw[Mem.get_append];have:=htok r;rw[show Mem.ren (ezc ((cand Y).hint σ r).σ ((cand Y).hint σ r).k s.nx) ((cand Y).hint σ r).m'=Mem.ren (ezc σ (cand Y).k s.nx) ((cand Y).m' r)from rfl,this];rfl)
 obtain⟨_,j2,j3,j4,j5⟩:=hJ;have g2:=st2.good g1
 have fin:∀ (mm:Mem) (pe:Option Code) (st:LoopState),st≠ .busy->uz6 mm=true->mm.map (·.1)=bx.map (·.1)->
  w2.heap[l]?=some (.loop {state:=st,pending:=pe,fn:=fnid,tmps:=a.tmps,params:=#[p0],assign:=asg,body:=bd,defers:=D})->(∀i q,mm.get i=some q->ResOk F2 w2 ρ i q)->
  ∃w4,(Instr.endLoop l).run P w2=.ok pe w4/\Step X0.Mine F w F2 w4/\w4.heap[D]?=some (.deferred (some []))/\(∀o,¬F2 D o)/\
   Sat ⟨X0.nt,X0.n0,λb=>X0.Mine b/\b≠D,F2,w4,X0.ρ0,{target:=.collected D,args:=#[]}::a.defers⟩ F2 w4 ρ ⟨s.fr,mm,[],s.nx⟩
    {a with defers:={target:=.collected D,args:=#[]}::a.defers}:=by
  intro mm pe st hst hab hid hl2 hr2;refine⟨_,run_endLoop hl2 hst,?_⟩;generalize hw4:w2.putObj l _=w4;have stp:Step X0.Mine F2 w2 F2 w4:=hw4▸Step.put g2 hMl j4 _;have hoth:∀b,b≠l->w4.heap[b]?=w2.heap[b]?:=λb hb=>hw4▸World.putObj_heap_other hb
  have stA:Step X0.Mine F w F2 w4:=(st1.trans st2).trans stp;have hD4:w4.heap[D]?=some (.deferred (some [])):=(hoth D (Ne.symm hlD)).trans j2;have hDs:D<w4.heap.size:=(xZ.1 hD4).1;refine⟨stA,hD4,j3,⟨hs.size,λt=>(hs.fr t).mono' stA.sub stA.cell,⟨λi q hi=>?_,λi q b hi hb=>?_,λi i' q q' b hi hi' hb hb'=>?_⟩,.nil,⟨(stA.good g0).lt,λb hb=>⟨(stA.good g0).mine b hb,by have hb:w4.heap.size<=b:=hb;omega⟩,(stA.good g0).tab⟩,?_,hs.env0⟩⟩
  ·obtain⟨cs,rfl⟩:=gzd hab hi;obtain⟨q',hq'⟩:=kzz hid hi;refine(hr2 i _ hi).keep (λ_=>True) stp.sub stp.cell (λ_ _=>⟨rfl,rfl⟩) trivial (λ_ h=>absurd trivial h) λb hb=>⟨hoth b ?_,λ_ h=>h⟩
   rw[box_owns]at hb;exact hb▸(hlb i q' hq').1
  ·obtain⟨cs,rfl⟩:=gzd hab hi;obtain⟨q',hq'⟩:=kzz hid hi;rw[box_owns]at hb;have:=hbm i q' hq';exact⟨⟨hb▸this.1,qa⟩,qa⟩
  ·obtain⟨cs,rfl⟩:=gzd hab hi;obtain⟨cs',rfl⟩:=gzd hab hi';obtain⟨q1,hq1⟩:=kzz hid hi;obtain⟨q2,hq2⟩:=kzz hid hi';rw[box_owns]at hb hb';exact hdis i i' q1 q2 hq1 hq2 (hb.trans hb'.symm)
  ·exact Step.refl ⟨(stA.good g0).lt,λb hb=>⟨(stA.good g0).mine b hb,by have hb:w4.heap.size<=b:=hb;omega⟩,(stA.good g0).tab⟩
 generalize hdd:dB r=d at j5 hQ;generalize xB r=x at j5 hQ;cases d with
 |false=>
  have j5:=j5.resolve_right (by rintro⟨q,hq,_⟩;cases hq);obtain⟨w4,k1,k2,k3,k4,k5⟩:=fin bx none .ready jq hbx rfl j5.2.1 j5.2.2;exact⟨none,w4,k1,hQ F2 w4 k2 k3 k4 k5⟩
 |true=>
  have j5:=j5.resolve_left (by rintro⟨hq,_⟩;cases hq);obtain⟨q,hq,j6,j7⟩:=j5;have hq:PVal.agg [encX x]=.agg [q]:=hq;cases hq;obtain⟨w4,k1,k2,k3,k4,k5⟩:=fin (memD (encX x)) (some .ret) .done jq (hmD _).1 (hmD _).2 j6 j7;exact⟨some .ret,w4,k1,wpIn_ret (hQ F2 w4 k2 k3 k4 k5)⟩
end
def YldS.dummy {P:qo}{A:Type}{encX:A->PVal}{o:A->Option Bool}:YldS P encX o:=
 ⟨0,⟨λ_=>False,λ_ _ _=>False,λh _ _ _=>h⟩,λ_ _ _=>⟨λ_ _ _ _ _ hm=>(hm.ok 0 _ rfl).elim⟩⟩
section
variable {A B U RR:Type} (P:qo) (gs:List (GuardS P)) (drawOk:List Oper->List Eff->Bool) (fn:Func) (k:Nat) (encX:A->PVal)
def azi1 (dB:B->Bool)(xB:B->A)(c:CallS B)(gf:FuncId)(as:List AVal)(l:Nat)(τ:Tok)(bx m:Mem)(id:Nat)(σ:List (Nat×Nat)):Ob:=
 .and (.eq c.P P)<| .and (.eq c.f (.fn gf))<| .and (Vzr (.yld l::as) (AVal.renL (ezc σ c.k id) c.args))<| .and (subM (Tzi (id+64) τ bx m) (Mem.ren (ezc σ c.k id) c.m))<|
  .and (.all λr=>.eq (Tzf (c.hint σ r) id) true) (.all λr=>match(Mem.ren (ezc σ c.k id) (c.m' r)).get (id+64)with
   |some q=>.eq q (.tok τ (tokP (dB r) (encX (xB r))))
   |none=>.no)
variable (bodyT:A->T Bool) (bx:Mem) (memD:PVal->Mem) (σ:List (Nat×Nat)) (dB:B->Bool) (xB:B->A) (cand:YldS P encX (λx=>(bodyT x).run NN)->CallS B) (tF:T RR) (rD:A->RR) (res:RR->AVal) (m':RR->Mem)
def azeb (t:T RR)(s:St):Ob:=
 match finT t s with
 |some (r,s)=>(match s.df with
  |[]=>retO P gs k k fn.results.toList (res r) (m' r) s
  |_=>.no)
 |none=>.no
def rngO (g:Operand)(p0:Nat)(asg bd c3 c4:Code)(s:St):Ob:=
 match bzz s g with
 | .func gf [] caps=>if rOk asg&&rOk bd&&decide (p0<fn.ntmps)&&uz6 bx&&hzt s.nx bx&&St.ok ⟨s.fr,bx,[],s.nx⟩then
  .and (Wzd gs s.df)<| .and (subM s.mem bx)<| .and (.all λx:PVal=>.and (.eq (uz6 (memD x)) true) (.eq ((memD x).map (·.1)) (bx.map (·.1))))<|
  .and (.all λx:A=>.and (.eq (hzt s.nx (memD (encX x))) true) (.and (.eq (St.ok ⟨(p0,.pure (encX x))::s.fr,bx,[],s.nx⟩) true)
   (az5r P fn.ntmps s.nx drawOk asg bd (bodyT x) ⟨(p0,.pure (encX x))::s.fr,bx,[],s.nx⟩ bx (memD (encX x)))))<|
  .and (.all λY=>azi1 P encX dB xB (cand Y) gf caps Y.l Y.τ bx s.mem s.nx σ)<|
  .and (vcT P fn.ntmps k drawOk c3 tF ⟨s.fr,bx,[],s.nx⟩ λe t s=>match e with
   | .normal=>vcT P fn.ntmps k drawOk c4 t s λe t s=>match e with
     | .exit _=>.no
     |_=>azeb P gs fn k res m' t s
   |_=>.no) (.all λx=>retO P gs k k fn.results.toList (res (rD x)) (m' (rD x)) ⟨s.fr,memD (encX x),[],s.nx⟩)
   else .no
 |_=>.no
variable (cand:U->YldS P encX (λx=>(bodyT x).run NN)->CallS B)in
def azj4 (preT:T U)(args:List AVal)(m:Mem):Ob:=
 match fn.body with
 |some (.seq c0 (.seq c1 (.seq (.seq c2 (.block _ (.rangeFunc g ps asg bd))) (.seq c3 c4))))=>match ps.toList with
  |[p0]=>if decide (args.length<=fn.ntmps)&&St.ok ⟨Bzu 0 args,m,[],k⟩then
   vcT P fn.ntmps k drawOk c0 preT ⟨Bzu 0 args,m,[],k⟩ λe t s=>match e with
    | .normal=>vcT P fn.ntmps k drawOk c1 t s λe t s=>match e with
      | .normal=>vcT P fn.ntmps k drawOk c2 t s λe t s=>match e with
        | .normal=>(match finT t s with
          |some (u,s)=>rngO P gs drawOk fn k encX bodyT bx memD σ dB xB (cand u) tF rD res m' g p0 asg bd c3 c4 s
          |none=>.no)
        |_=>.no
      |_=>.no
    |_=>.no
   else .no
  |_=>.no
 |_=>.no
end
section
variable {A B U RR:Type} {P:qo} {gs:List (GuardS P)} {drawOk:List Oper->List Eff->Bool} {fn:Func} {k:Nat} {encX:A->PVal}
 {bodyT:A->T Bool} {bx:Mem} {memD:PVal->Mem} {σ:List (Nat×Nat)} {dB:B->Bool} {xB:B->A} {cand:U->YldS P encX (λx=>(bodyT x).run NN)->CallS B} {tF:T RR} {rD:A->RR} {res:RR->AVal} {m':RR->Mem}
theorem azee {F0:Cells}{w0:qn}{ρ0:Env}{Mine:Nat->Prop}{D:Nat}{a:Act}{sdf:List AVal}{Fa:Cells}{wa:qn}{ρa:Env}(hdf:All2B [] (DRel Fa wa ρa) a.defers sdf)(hgd:yzn P sdf)
 {X:Cx} (hXM:∀b,X.Mine b↔Mine b/\b≠D) (hXr:X.ρ0=ρ0) (hXb:X.base={target:=.collected D,args:=#[]}::a.defers) (hXn:X.n0=k) (hMD:Mine D)
 (st0:Step Mine F0 w0 X.F0 X.w0) (hg0:Good F0 w0 Mine) (hDw:X.w0.heap[D]?=some (.deferred (some []))) (hDF:∀o,¬X.F0 D o)
 {s:St} {F:Cells} {w:qn} {ρ:Env} {a':Act} (hs:Sat X F w ρ s a') (hsd:s.df=[]) {rs:AVal} {ms:Mem} (hret:Zze P k k fn.results.toList rs ms s):
 LeavesInM Fence.wide 0 P fn a'.tmps (λe w'=>∃v F' ρ',e=.returned v/\Step Mine F0 w0 F' w'/\dz4 k ρ0 ρ'/\ARel F' w' ρ' rs v/\MemOk F' w' ρ' Mine ms) a'.defers .returning w:=by
 have hd:a'.defers={target:=.collected D,args:=#[]}::a.defers:=by
  have:=hs.df;rw[hsd]at this;generalize a'.defers=ds at this;cases this;exact hXb
 have hDs:D<X.w0.heap.size:=(xZ.1 hDw).1;have hnD:¬X.Mine D:=λh=>((hXM D).1 h).2 rfl
 have hD2:w.heap[D]?=some (.deferred (some [])):=(hs.from0.keep.block D hDs hnD).trans hDw;have hF2:∀o,¬F D o:=λo ho=>(hs.from0.new D o ho).elim (hDF o) hnD
 have stA:Step Mine F0 w0 F w:=st0.trans (hs.from0.wider λb hb=>((hXM b).1 hb).1);have gA:Good F w Mine:=stA.good hg0;rw[hd];refine⟨jq,.inl ⟨D,_,rfl,run_takeDeferred hD2,?_⟩⟩;generalize hw5:w.putObj D (.deferred none)=w5;have stp:Step Mine F w F w5:=hw5▸Step.put gA hMD hF2 _;have hoth:∀b,b≠D->w5.heap[b]?=w.heap[b]?:=λb hb=>hw5▸World.putObj_heap_other hb
 have hsz:w5.heap.size=w.heap.size:=hw5▸World.putObj_size;have g5:Good F w5 X.Mine:=⟨λb o hb=>by rw[hsz];exact hs.good.lt b o hb,λb hb=>hs.good.mine b (by rw[<-hsz];exact hb),hs.good.tab.step stp.sub stp.cell⟩
 have hs5:Sat ⟨X.nt,X.n0,X.Mine,F,w5,X.ρ0,X.base⟩ F w5 ρ s a':=
  ⟨hs.size,λt=>(hs.fr t).mono' stp.sub stp.cell,hs.mem.keepB stp.sub stp.cell qa λj r b hj hb=>⟨hoth b λe=>hnD (e▸(hs.mem.mine j r b hj hb).1),λ_ h=>h⟩,
   Mz7 (λ_=>True) stp.sub stp.cell (λ_ _=>⟨rfl,rfl⟩) hs.df (λ_ h=>absurd trivial h),g5,Step.refl g5,hs.env0⟩
 have hret':Zze P (Cx.n0 ⟨X.nt,X.n0,X.Mine,F,w5,X.ρ0,X.base⟩) k fn.results.toList rs ms s:=by show Zze P X.n0 k _ _ _ _;rw[hXn];exact hret
 obtain⟨v,h1,_,F2,ρ2,st2,he2,ha2,hm2⟩:=azjh hret' hs5;refine Dzr h1 ⟨v,F2,ρ2,rfl,(stA.trans stp).trans (st2.wider λb hb=>((hXM b).1 hb).1),hXr▸he2,ha2,hm2.ok,λi r b hi hb=>?_,hm2.disj⟩ hdf hgd;have:=hm2.mine i r b hi hb;exact⟨((hXM b).1 this.1).1,this.2⟩
theorem aziv {f:FuncId}{preT:T U}{args:List AVal}{m:Mem}(hd:gzb P drawOk)(hf:P.funcs[f]?=some fn)(hname:(fn.name== "runtime.NumGoroutine")=false)
 (h:(azj4 P gs drawOk fn k encX bodyT bx memD σ dB xB tF rD res m' cand preT args m).holds) (hco:∀u Y,(cand u Y).o=(cand u YldS.dummy).o) {y:RR}
 (hy:((preT.run NN).bind λu=>(cand u YldS.dummy).o.bind λr=>bif dB r then some (rD (xB r))else tF.run NN)=some y):Spec P f k args m (res y) (m' y):=by
 unfold azj4 at h;split at h
 case h_2=>exact h.elim
 rename_i c0 c1 c2 bid g ps asg bd c3 c4 hb;split at h
 case h_2=>exact h.elim
 rename_i p0 hps;have hps:ps=#[p0]:=by apply xY;simpa using hps
 subst hps;split at h
 case isFalse=>exact h.elim
 rename_i hc;simp only[qm,qf]at hc;obtain⟨hlen,hok⟩:=hc;obtain⟨u,hpre,hy1⟩:=x7.1 hy;obtain⟨r,hr,hy2⟩:=x7.1 hy1;clear hy hy1;refine⟨⟨fn,hf,hname,by rw[hb];rfl⟩,λF w ρ Mine vs hm hg hargs=>?_⟩;let X:Cx:=⟨fn.ntmps,k,Mine,F,w,ρ,[]⟩;refine callsIn_wide.1 (callsIn_of_wp_marks (n:=0) hf hb trivial (wpIn_wide.2 ?_) rfl);have hsz:=hargs.1;have hsat:Sat X F w ρ ⟨Bzu 0 args,m,[],k⟩ {tmps:=vs++xR (fn.ntmps-vs.size) undef,defers:=[]}:=by
  refine⟨by show(vs++xR _ _).size=fn.ntmps;simp;omega,λt=>?_,hm,.nil,hg,Step.refl hg,λi _=>⟨rfl,rfl⟩⟩;show ARel F w ρ (rzz (Bzu 0 args) t) _;rw[Mza];simp only[Nat.zero_le,if_true,Nat.sub_zero];cases ht:args[t]? with
  |none=>exact .any
  |some b=>
   have hlt:t<vs.size:=by have:=(List.getElem?_eq_some_iff.1 ht).1;omega
   refine hargs.2 t b _ ht ?_;rw[xK,x6 hlt];simp[hlt]
 refine wp_seq (yzl (X:=X) hd c0 preT _ _ _ u F w ρ _ h hpre hsat hok (qk _) ?_);intro e t s F1 w1 ρ1 a1 hK hr1 hs1 ho1 h01;cases e with
 |exit id=>exact hK.elim
 |ret=>exact hK.elim
 |normal=>
 refine wp_seq (yzl (X:=X) hd c1 t s _ _ u F1 w1 ρ1 a1 hK hr1 hs1 ho1 h01 ?_);clear hK hr1 hs1 ho1 h01;intro e t s F1 w1 ρ1 a1 hK hr1 hs1 ho1 h01;cases e with
 |exit id=>exact hK.elim
 |ret=>exact hK.elim
 |normal=>
 refine wp_seq (wp_seq (yzl (X:=X) hd c2 t s _ _ u F1 w1 ρ1 a1 hK hr1 hs1 ho1 h01 ?_));clear hK hr1 hs1 ho1 h01;intro e t s0 F1 w1 ρ1 a1 hK hr1 hs1 ho1 h01;cases e with
 |exit id=>exact hK.elim
 |ret=>exact hK.elim
 |normal=>
 simp only at hK;split at hK
 case h_2=>exact hK.elim
 rename_i u' s hfin;obtain⟨hs1,ho1,h01⟩:=nzw hfin hs1 ho1 h01;have hu:=nzv hfin hr1;subst hu;clear hfin hr1;unfold rngO at hK;split at hK
 case h_2=>exact hK.elim
 rename_i gf caps hgv;split at hK
 case isFalse=>exact hK.elim
 rename_i hcond;simp only[qm,qf]at hcond;obtain⟨⟨⟨⟨⟨hra,hrb⟩,hp0⟩,hbx⟩,hbl⟩,hok2⟩:=hcond;obtain⟨k1,k2,k3,k4,k5,k6,k7⟩:=hK;have hgd:=Rzx k1;have hmDe:∀x,uz6 (memD x)=true/\(memD x).map (·.1)=bx.map (·.1):=k3;refine wp_block ?_
 refine azpb (X0:=X) (N:=NN) (encX:=encX) (bodyT:=bodyT) (bx:=bx) (memD:=memD) (σ:=σ) (dB:=dB) (xB:=xB) (o:=(cand u' YldS.dummy).o) (r:=r) hd hra hrb hp0 hs1 ho1 hgv hbx hmDe (λx=>(k4 x).1) (λx=>(k4 x).2.1) (xzh k2) hbl (λx=>(k4 x).2.2) (cand u')
  (λY=>?_) hr ?_
 ·obtain⟨q1,q2,q3,q4,q5,q6⟩:=k5 Y;refine⟨q1,q2,hco u' Y,oz9 q3,xzh q4,q5,λr=>?_⟩;have:=q6 r;simp only at this;split at this
  ·rename_i q hq;rw[hq,show q=_ from this]
  ·exact this.elim
 ·intro F' w' st hD hFD hsat';have hMD:Mine w1.heap.size:=hs1.good.mine _ (qk _)
  have leave:∀ (s':St) (F2:Cells) (w2:qn) (ρ2:Env) (a2:Act) (yy:RR),
   Sat ⟨X.nt,X.n0,λb=>X.Mine b/\b≠w1.heap.size,F',w',X.ρ0,{target:=.collected w1.heap.size,args:=#[]}::a1.defers⟩ F2 w2 ρ2 s' a2->s'.df=[]->Zze P k k fn.results.toList (res yy) (m' yy) s'->
   LeavesInM Fence.wide 0 P fn a2.tmps (λe w'=>∃v F' ρ',e=.returned v/\Step Mine F w F' w'/\dz4 k ρ ρ'/\ARel F' w' ρ' (res yy) v/\MemOk F' w' ρ' Mine (m' yy)) a2.defers .returning w2:=
   λs' F2 w2 ρ2 a2 yy hs2 hdf2 hret=>azee hs1.df hgd (λb=>Iff.rfl) rfl rfl rfl hMD (hs1.from0.trans st) hg hD hFD hs2 hdf2 hret
  generalize hdd:dB r=d at hy2 hsat';generalize xB r=x at hy2 hsat';cases d with
  |true=>
   have hy:some (rD x)=some y:=hy2;simp only[Option.some.injEq]at hy;subst hy;exact leave _ _ _ _ _ _ hsat' rfl (Zzd (k7 x))
  |false=>
   have hy:tF.run NN=some y:=hy2;show(Code.seq c3 c4).wp P _ _ _;refine wp_seq (yzl hd c3 tF _ _ _ y F' w' ρ1 _ k6 hy hsat' hok2 h01 ?_);intro e t s' F2 w2 ρ2 a2 hK hr2 hs2 ho2 h02;cases e with
   |exit id=>exact hK.elim
   |ret=>exact hK.elim
   |normal=>
   refine yzl hd c4 t s' _ _ y F2 w2 ρ2 a2 hK hr2 hs2 ho2 h02 ?_;clear hK hr2 hs2 ho2 h02;intro e t s' F2 w2 ρ2 a2 hK hr2 hs2 ho2 h02;have fin:(azeb P gs fn k res m' t s').holds->LeavesInM Fence.wide 0 P fn a2.tmps (λe w'=>∃v F' ρ',e=.returned v/\Step Mine F w F' w'/\dz4 k ρ ρ'/\ARel F' w' ρ' (res y) v/\MemOk F' w' ρ' Mine (m' y)) a2.defers .returning w2:=by
    intro hK;unfold azeb at hK;split at hK
    ·rename_i r' s'' hfin;obtain⟨hs3,_,_⟩:=nzw hfin hs2 ho2 h02;have hr':=nzv hfin hr2;subst hr';split at hK
     ·rename_i hdf;exact leave _ _ _ _ _ _ hs3 hdf (Zzd hK)
     ·exact hK.elim
    ·exact hK.elim
   cases e with
   |exit id=>exact hK.elim
   |normal=>exact fin hK
   |ret=>exact fin hK
def mkR {f:FuncId}(gs:List (GuardS P))(hd:gzb P drawOk)(hf:P.funcs[f]?=some fn)(hname:(fn.name== "runtime.NumGoroutine")=false)
    (preT:T U) (bodyT:A->T Bool) (bx:Mem) (memD:PVal->Mem) (σ:List (Nat×Nat)) (dB:B->Bool) (xB:B->A) (cand:U->YldS P encX (λx=>(bodyT x).run NN)->CallS B) (tF:T RR) (rD:A->RR)
    (hco:∀u Y,(cand u Y).o=(cand u YldS.dummy).o) (k:Nat) (args:List AVal) (m:Mem) (res:RR->AVal) (m':RR->Mem)
    (h:(azj4 P gs drawOk fn k encX bodyT bx memD σ dB xB tF rD res m' cand preT args m).side true=(azj4 P gs drawOk fn k encX bodyT bx memD σ dB xB tF rD res m' cand preT args m).side false):CallS RR:=
 ⟨P,.fn f,(preT.run NN).bind λu=>(cand u YldS.dummy).o.bind λr=>bif dB r then some (rD (xB r))else tF.run NN,k,args,m,res,m',λ_ hy=>aziv hd hf hname (Ob.of_side h) hco hy⟩
end
end Go.Abs
