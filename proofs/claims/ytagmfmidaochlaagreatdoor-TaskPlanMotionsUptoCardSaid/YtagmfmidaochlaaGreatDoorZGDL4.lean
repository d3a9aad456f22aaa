import Derived.Test.YtagmfmidaochlaaGreatDoorZGDL3
import Derived.Test.YtagmfmidaochlaaGreatDoorZGDL2
open Bool renaming true->AD,false->AE
open Go.IntKind renaming wrap->AG
open List renaming length->AA,getD->AF
open Option renaming some->AB
open Bool renaming or_eq_false_iff->qo,or_eq_true->qW,and_true->wj,not_true->qH,not_false->wI,and_eq_true->ql
open Classical renaming byContradiction->xK
open Decidable renaming decide->qu
open Go.IntKind renaming i64->qs
open Inhabited renaming default->qt
open Int renaming toNat_natCast->qD,le_refl->wM,mul_le_mul_of_nonneg_right->wk,toNat_of_nonneg->xA
open List renaming replicate->qr,getD_eq_getElem?_getD->qY,length_singleton->wW,length_set->qZ,length_replicate->wg,mem_singleton->wD,length_cons->qw,length_nil->qy,pairwise_iff_getElem->xc,getElem?_eq_getElem->xa,length_append->wV,pairwise_append->xF,pairwise_cons->xG,mem_cons->xH,getElem?_append->xI,mem_append->wC,append_assoc->wH,drop_eq_getElem_cons->xJ,mem_of_mem_take->xL,take_of_length_le->xM,mem_map->xO
open Nat renaming mul_le_mul_right->xz,le_refl->we,le_trans->xC,lt_or_ge->xD,add_comm->xE,lt_succ_self->wE,add_zero->xN
open Option renaming bind_some->qG
open Go.Abs.T renaming run->qj
noncomputable section
namespace Go.Abs
open Go.Proofs
theorem Yg (b:eR)(c:Ay)(a:Int):(py b c a).o=(Jy b c a).run NN:=rfl
theorem akq (b:Av)(c:Ay)(a:Int):(uz b c a).o=(H6 b c a).run NN:=rfl
theorem YV (b:Aw)(c a:Int):(pK b c a).o=(KP b c a).run NN:=rfl
structure Lks (E:Int->Int->Int->Prop) (L:Aw):Prop where
 graph:Graph E (AA L) 1099511627776
 mem:∀v w c:Int,0<=v->v<(AA L:Int)->((⟨w,c⟩:eR)∈AF L v.toNat qt↔E v w c)
 few:∀i,AA (AF L i qt)<=200
 len:AA L<=100
 sorted:∀i,i<AA L->(AF L i qt).Pairwise (λa b=>a.to<b.to)
def ajQ (E:Int->Int->Int->Prop)(t fr:Int)(L:Aw)(R:Ay):Prop:=
 (AA R)=AA L/\(∀v:Int,0<=v->v<(AA L:Int)->(rkv R v).points=0\/(1<=(rkv R v).points/\Walk E t v (rkv R v).cost ((rkv R v).points-1)))/\
 (∀v:Int,0<=v->v<(AA L:Int)->(rkv R v).points<=AA L+1)/\
 ∀c k,Best E t fr c k->rkv R fr=⟨c,k+1⟩/\∀w a b,Best E t w a b->(a<c\/a=c/\b<k)->rkv R w=⟨a,b+1⟩
variable {E:Int->Int->Int->Prop} {t fr:Int} {L:Aw}{R:Ay}
theorem DInv.drop{q a:Ax}{S:Nat->Bool}{V:Int->Int->Int->Prop}{x:eS}(h:DInv E t fr L R q S V)(g:∀y∈a,y∈q)(j:∀y∈q,y=x\/y∈a)(l:Heap a)
 (i:rkv R x.point≠x.rank):DInv E t fr L R a S V:=
 ⟨h.len,h.walk,h.few,h.src,h.best,h.relaxed,λv c f k d=>(j _ (h.queued v c f k d)).resolve_left (λe=>i jX),λy b=>h.entry y (g y b),λv c f d y b=>h.low v c f d y (g y b),l,h.notFrom⟩
theorem DInv.settle(g:Graph E (AA L) 1099511627776)(D:0<=t/\t<(AA L:Int))(N:0<=fr){q m:Ax}{S:Nat->Bool}{x:eS}(h:DInv E t fr L R q S E)(o:x∈q)(r:∀y∈m,y∈q)(H:∀y∈q,y=x\/y∈m)(z:Heap m)
 (A:rkv R x.point=x.rank) (l:∀y∈q,¬ltR y.rank x.rank) (C:x.point≠fr):
 DInv E t fr L R m (λi=>i==x.point.toNat||S i) (λa b d=>S a.toNat=AD/\E a b d):=by
 obtain⟨B,G,F,J,M⟩:=h.entry x o;have K:=h.first g D ⟨B,G⟩ A F l;have p:∀u:Int,0<=u->(u.toNat==x.point.toNat||S u.toNat)=true->u=x.point\/S u.toNat=true:=by
  grind
 refine⟨h.len,h.walk,h.few,h.src,λv j k f=>?_,λv w c j k f s=>h.relaxed v w c j k s.1 s.2,λv j k I f=>?_,λy n=>h.entry y (r y n),λv j k f y n=>?_,z,?_⟩
 ·rcases p v j f with rfl|f;{simp_all};exact h.best v j k f
 ·simp only[qo]at f;refine(H _ (h.queued v j k I f.2)).resolve_left (λe=>?_);grind
 ·rcases p v j f with rfl|f;{grind[ltR]};exact h.low v j k f y (r y n)
 simp only[qo];refine⟨?_,h.notFrom⟩;grind
theorem ahG{l:eR}{v:Int}(e:0<=l.to/\l.to<(AA R:Int))(d:0<=v/\v<(AA R:Int))(c:1<=(rkv R v).points/\(rkv R v).points<=1000000)(b:0<=l.cost/\l.cost<=1099511627776)
 (a:(rkv R l.to).points=(rkv R v).points-1->0<=(rkv R l.to).cost/\(rkv R l.to).cost<=4000000000000000000):
 (py l R v).o=AB (qu ((rkv R l.to).points=(rkv R v).points-1/\(rkv R l.to).cost+l.cost=(rkv R v).cost),R,v):=by
 simp only[Yg,Jy,qj];grind[an,w64,qh]
theorem agl{l:Av}{v:Int}(M:eR->Prop)[DecidablePred M](t:AA l+1<NN)(u:AA l<1000000)(h:∀x∈l,(py x R v).o=AB (qu (M x),R,v))(d:∃x∈l,M x):
 ∃i:Nat,(uz l R v).o=AB ((i:Int),R,v)/\i<AA l/\M (AF l i qt)/\∀j,j<i->¬M (AF l j qt):=by
 have e:∃r,(uz l R v).o=AB r/\∃i:Nat,r=((i:Int),R,v)/\i<AA l/\M (AF l i qt)/\∀j,j<i->¬M (AF l j qt):=by
  simp only[akq,H6,qj];refine mg (λk (x:Ay×Int×Int)=>∃i:Nat,x=(R,v,(i:Int))/\i+k=AA l/\∀j,j<i->¬M (AF l j qt)) (λ_=>False) (AA l) ⟨0,rfl,qa,λj m=>qa⟩ qa ?_ (λ_ h=>h.elim);rintro k x ⟨i,rfl,s,a⟩;dsimp only;by_cases b:i<AA l
  ·(rw[ai qa];(repeat rw[an qa]);rw[qD,h _ (mem_getD.2 ⟨i,b,rfl⟩),qG])
   by_cases c:M (AF l i qt);{rw[ai c];exact .inr (.inr ⟨_,rfl,i,rfl,b,c,a⟩)};rw[aj c,w64n qa];refine .inl ⟨_,k-1,rfl,qa,i+1,rfl,qa,λj m=>?_⟩;by_cases g:j=i;{subst g;exact c};exact a j qa
  ·exfalso
   obtain⟨x,q,f⟩:=d;obtain⟨j,m,rfl⟩:=mem_getD.1 q;exact a j qa f
 obtain⟨r,p,i,rfl,n⟩:=e;exact⟨i,p,n⟩
theorem ac7 (hk:Lks E L)(ht:0<=t/\t<(AA L:Int))(hfr:0<=fr/\fr<(AA L:Int))(hN:100000<=NN):
 ∃r:A7×Int×Bool,(pK L fr t).o=AB r/\((r.2.2=AE/\r.1=nl/\r.2.1=0/\∀c k,¬Walk E t fr c k)\/(r.2.2=AD/\∃c k l,Best E t fr c k/\Rt E t fr l/\r.1=fr::l/\r.2.1=c)):=by
 have g:=hk.graph;have hlen:=hk.len;simp only[YV,KP,qj]
 ((repeat rw[an qa]);rw[qD];(repeat rw[an qa]))
 have N:∀v:Int,0<=v->rkv ((qr (AA L) (⟨0,0⟩:dh)).set t.toNat ⟨0,1⟩) v=if v=t then⟨0,1⟩else rkv (qr (AA L) ⟨0,0⟩) v:=λv hv=>Hf ⟨ht.1,by simpa using ht.2⟩ hv
 have hrep:∀v:Int,rkv (qr (AA L) (⟨0,0⟩:dh)) v=⟨0,0⟩:=λv=>by
  unfold rkv;rw[qY,List.getElem?_replicate];split<;>rfl
 have hl0:((qr (AA L) (⟨0,0⟩:dh)).set t.toNat ⟨0,1⟩).length=AA L:=jV;generalize (qr (AA L) (⟨0,0⟩:dh)).set t.toNat ⟨0,1⟩=R0 at N hl0;have hR0t:rkv R0 t=⟨0,1⟩:=by rw[N t ht.1,qc rfl]
 ((repeat(first|rw[an qa]|rw[an (by simp only[wg];omega)])))
 rw[show AF R0 t.toNat qt=⟨0,1⟩from hR0t]
 refine ip (g:=λr=>r) (λm (x:Ay×Ax)=>∃S,DInv E t fr L x.1 x.2 S E/\(AA x.2)+rest (λi=>AA (AF L i qt)) S (AA L)<=m/\m<=20001)
  (ajQ E t fr L) (1+rest (λi=>AA (AF L i qt)) (λ_=>AE) (AA L)) ⟨λ_=>AE,⟨hl0,λv h0 h1=>?_,λv h0 h1=>?_,hR0t,jV,jV,λv h0 h1 hp _=>?_,λe he=>?_,jV,?_,rfl⟩,jV,?_⟩ ?_ ?_ ?_
 ·rw[N v h0];by_cases e:v=t;{rw[qc e];subst e;exact .inr ⟨jU,.nil⟩};rw[qb e,hrep];exact .inl rfl
 ·rw[N v h0];by_cases e:v=t;{rw[qc e];simp only;omega};rw[qb e,hrep];simp only;omega
 ·rw[N v h0]at hp⊢;by_cases e:v=t;{rw[qc e,e];simp};rw[qb e,hrep]at hp;exact absurd hp jU
 {simp only[wD]at he;subst he;refine⟨ht.1,ht.2,wM 1,?_⟩;simp only;rw[hR0t];exact⟨jU,.inr ⟨rfl,wM _⟩⟩};{intro i h0 h1;simp at h1;omega};{have:=Hc (S:=λ_=>AE) (λi=>hk.few i) (AA L);have:AA L * 200<=100 * 200:=xz _ hlen;omega};{have:=Hc (S:=λ_=>AE) (λi=>hk.few i) (AA L);have:AA L * 200<=100 * 200:=xz _ hlen;omega}
 ·rintro m ⟨R,q⟩ ⟨S,C,hm,hm2⟩;simp only at C hm;dsimp only;by_cases hq:0<AA q
  ·rw[ai qa];obtain⟨q1,hpop,Y,hlen1,hsub,hsup,M⟩:=ajt q qa hq qa C.heap C.pts;have hxq:AF q 0 qt∈q:=mem_getD.2 ⟨0,hq,rfl⟩;rw[hpop,qG];generalize AF q 0 qt=x at hsup M hxq;dsimp only;obtain⟨e1,e2,e3,e4,e5⟩:=C.entry x hxq;have hRl:=C.len;by_cases hxf:x.point=fr
   ·right;rw[bK hxf];refine⟨_,rfl,C.len,C.walk,C.few,λc k J=>?_⟩;rw[hxf]at e4 e5;have hb0:=J.1.ge g;have hw:=(C.walk fr hfr.1 hfr.2).resolve_left qa;have h1:=J.2 _ _ hw.2;obtain⟨k',rfl⟩:∃k':Nat,k=k':=⟨k.toNat,qa⟩;obtain⟨y,hy,hle⟩:=(C.key g ht k' fr c J).resolve_left (by rw[C.notFrom];simp);have h2:=M y hy;unfold ltR at h2;simp only[leR]at hle e5;have a1:(rkv R fr).cost=c:=qa;have a2:(rkv R fr).points=k'+1:=qa;have a3:x.rank.cost=c/\x.rank.points=k'+1:=qa;refine⟨?_,λw c' k2 hb' hlt=>C.settled g ht hb' λy' hy'=>?_⟩;{generalize rkv R fr=z at a1 a2;obtain⟨z1,z2⟩:=z;simp only at a1 a2;rw[a1,a2]};have h3:=M y' hy';unfold ltR at h3⊢;simp only;omega
   left
   (rw[bB hxf];(repeat rw[an qa]))
   by_cases hst:x.rank.cost=(rkv R x.point).cost/\x.rank.points=(rkv R x.point).points
   ·have U:rkv R x.point=x.rank:=by
     obtain⟨s1,s2⟩:=hst;generalize rkv R x.point=z at s1 s2;generalize x.rank=z' at s1 s2;obtain⟨z1,z2⟩:=z;obtain⟨z3,z4⟩:=z';simp only at s1 s2;rw[s1,s2]
    (rw[cT (by rw[beq_iff_eq.2 hst.1,beq_iff_eq.2 hst.2];rfl)];(repeat rw[an qa]))
    have J:=C.first g ht ⟨e1,e2⟩ U e3 M;have hb0:=J.1.ge g;have hbn:=J.few g ht;have hbc:=J.1.le g;have hbc2:(x.rank.points-1) * 1099511627776<=100 * 1099511627776:=wk qa qa;have hS0:=C.settle g ht hfr.1 hxq hsub hsup Y U M hxf;have hfew:=hk.few x.point.toNat
    refine ip (g:=am.next) (λk' (z:Ay×Ax×Int)=>∃j:Nat,z.2.2=(j:Int)/\j+k'=AA (AF L x.point.toNat qt)/\
     DInv E t fr L z.1 z.2.1 (λi=>i==x.point.toNat||S i) (λa b d=>(S a.toNat=AD/\E a b d)\/(a=x.point/\∃i,i<j/\(AF L x.point.toNat qt).getD i qt=⟨b,d⟩))/\rkv z.1 x.point=x.rank/\
     (∀u:Int,0<=u->u<(AA L:Int)->(u.toNat==x.point.toNat||S u.toNat)=true->leR (rkv z.1 u) x.rank)/\(AA z.2.1)<=AA q1+j/\(S x.point.toNat=true->z.2.1=q1))
     (λz=>DInv E t fr L z.1 z.2 (λi=>i==x.point.toNat||S i) (λa b d=>(S a.toNat=AD/\E a b d)\/(a=x.point/\∃i,i<AA (AF L x.point.toNat qt)/\(AF L x.point.toNat qt).getD i qt=⟨b,d⟩))/\
      (AA z.2)<=AA q1+AA (AF L x.point.toNat qt)/\(S x.point.toNat=true->z.2=q1))
     (AA (AF L x.point.toNat qt)) ⟨0,rfl,qa,hS0.congr (λa b d _ hv=>?_),U,λu h0 h1 D=>?_,jV,λ_=>rfl⟩ qa ?_ ?_
    ·rcases hv with hv|⟨_,i,hi,_⟩;{exact hv};omega
    ·rw[qW]at D;rcases D with D|D
     ·have:u=x.point:=by have:=eq_of_beq D;omega
      rw[this,U];exact .inr ⟨rfl,wM _⟩
     exact C.low u h0 h1 D x hxq
    ·rintro k' ⟨p,q',jj⟩ ⟨j,hj,hjk,hD,I,Z,hql,f⟩;simp only at hj hD I Z hql f;subst hj;dsimp only;by_cases hlt:j<AA (AF L x.point.toNat qt)
     ·left
      (rw[ai qa];(repeat rw[an qa]);rw[qD])
      have hmem:(AF L x.point.toNat qt).getD j qt∈AF L x.point.toNat qt:=mem_getD.2 ⟨j,hlt,rfl⟩;have he:=(hk.mem x.point _ _ e1 e2).1 (show(⟨((AF L x.point.toNat qt).getD j qt).to,((AF L x.point.toNat qt).getD j qt).cost⟩:eR)∈_ from hmem);have hlj:(AF L x.point.toNat qt).getD j qt=⟨((AF L x.point.toNat qt).getD j qt).to,((AF L x.point.toNat qt).getD j qt).cost⟩:=rfl;generalize hw:((AF L x.point.toNat qt).getD j qt).to=w at he hlj;generalize hc:((AF L x.point.toNat qt).getD j qt).cost=c at he hlj;have hwl:=g.lt _ _ _ he;have hce:=g.cost _ _ _ he;have hDl:=hD.len
      ((repeat rw[an qa]);rw[w64 (x:=x.rank.cost+c) qa qa,w64 (x:=x.rank.points+1) qa qa])
      have hV:∀a b d,((S a.toNat=AD/\E a b d)\/(a=x.point/\∃i,i<j/\(AF L x.point.toNat qt).getD i qt=⟨b,d⟩))->E a b d:=by
       rintro a b d (h|⟨rfl,i,hi,B⟩);{exact h.2};exact(hk.mem x.point _ _ e1 e2).1 (B▸mem_getD.2 ⟨i,qa,rfl⟩)
      have hsv:(x.point.toNat==x.point.toNat||S x.point.toNat)=true:=jV;by_cases A:(rkv p w).points=0\/ltR ⟨x.rank.cost+c,x.rank.points+1⟩ (rkv p w)
      ·(rw[sy A,qG,c6 (by rfl)];(repeat rw[an qa]))
       obtain⟨q2,hpush,hh2,hl2,hm2'⟩:=ail q' ⟨⟨x.rank.cost+c,x.rank.points+1⟩,w⟩ qa qa hD.heap hD.pts j8;rw[hpush,qG,ah,w64n qa];obtain⟨hD2,hwv,hsw⟩:=hD.relax g hV ht hsv he (by rw[I];exact A) hh2 (by rw[I];exact hm2') (by rw[I];exact Z);rw[I]at hD2;have hset2:∀u:Int,0<=u->rkv (p.set w.toNat ⟨x.rank.cost+c,x.rank.points+1⟩) u=if u=w then⟨x.rank.cost+c,x.rank.points+1⟩else rkv p u:=λu hu=>Hf ⟨hwl.2.2.1,qa⟩ hu
       refine⟨_,rfl,k'-1,qa,j+1,rfl,qa,hD2.congr (λa b d _ hv=>?_),?_,λu h0 h1 D=>?_,by dsimp only;omega,λhsx=>?_⟩
       ·rcases hv with hv|⟨rfl,i,hi,B⟩;{exact .inl (.inl hv)};by_cases hij:i=j;{subst hij;rw[hlj]at B;cases B;exact .inr ⟨rfl,rfl,rfl⟩};exact .inl (.inr ⟨rfl,i,qa,B⟩)
       {dsimp only;rw[hset2 _ e1,qb (λe=>hwv e.symm)];exact I};{dsimp only;rw[hset2 u h0,qb (λe=>by subst e;rw[hsw]at D;cases D)];exact Z u h0 h1 D}
       ·exfalso
        have h3:=hD.relaxed x.point w c e1 e2 hsv (.inl ⟨hsx,he⟩);rw[I]at h3;unfold ltR at A;simp only[leR]at h3 A;omega
      rw[yd (λh=>A (.inl h)) (λh=>A (.inr h)),qG,cT (by rfl),ah,w64n qa];have hD2:=hD.skip (v:=x.point) (w:=w) (c:=c) (by rw[I];exact A) ⟨hwl.2.2.1,hwl.2.2.2⟩;refine⟨_,rfl,k'-1,qa,j+1,rfl,qa,hD2.congr (λa b d _ hv=>?_),I,Z,by dsimp only;omega,f⟩;rcases hv with hv|⟨rfl,i,hi,B⟩
      {exact .inl (.inl hv)};by_cases hij:i=j;{subst hij;rw[hlj]at B;cases B;exact .inr ⟨rfl,rfl,rfl⟩};exact .inl (.inr ⟨rfl,i,qa,B⟩)
     right;rw[aj qa];have hje:j=AA (AF L x.point.toNat qt):=qa;subst hje;exact⟨_,rfl,hD,hql,f⟩
    rintro⟨p,q'⟩ ⟨hD,hql,f⟩;simp only at hD hql f;have hm':AA q'+rest (λi=>AA (AF L i qt)) (λi=>i==x.point.toNat||S i) (AA L)<m:=by
     cases hsx:S x.point.toNat with
     |true=>
      have:=f hsx;subst this;rw[FQ (S:=S) (λi hi=>by
       by_cases hix:i=x.point.toNat;{subst hix;simp[hsx]};have:(i==x.point.toNat)=false:=by simpa using hix
       simp[this])]
      omega
     |false=>
      have:=Tl (d:=λi=>AA (AF L i qt)) hsx (n:=AA L) qa;omega
    refine⟨_,rfl,_,hm',_,hD.congr (λa b d hsa hv=>?_),we _,qa⟩;rw[qW]at hsa;rcases hsa with hsa|hsa
    ·have hab:=g.lt _ _ _ hv;have:a=x.point:=by have:=eq_of_beq hsa;omega
     subst this;obtain⟨i,hi,B⟩:=mem_getD.1 ((hk.mem x.point _ _ e1 e2).2 hv);exact .inr ⟨rfl,i,hi,B⟩
    exact .inl ⟨hsa,hv⟩
   rw[c6 (by
    rw[Bool.not_eq_true',Bool.and_eq_false_iff];by_cases h1:x.rank.cost=(rkv R x.point).cost;{right;rw[wj];exact beq_eq_false_iff_ne.2 (λh2=>hst ⟨h1,h2⟩)};exact .inl (beq_eq_false_iff_ne.2 h1))]
   refine⟨_,rfl,AA q1+rest (λi=>AA (AF L i qt)) S (AA L),qa,S,C.drop hsub hsup Y (λe=>hst ?_),we _,qa⟩;rw[e];exact⟨rfl,rfl⟩
  right;rw[aj qa];have hnil:q=[]:=List.eq_nil_of_length_eq_zero qa;subst hnil;exact⟨_,rfl,C.len,C.walk,C.few,λc k J=>⟨C.settled g ht J jV,λw c' k' hb' _=>C.settled g ht hb' jV⟩⟩
 rintro R ⟨hRl,Q,hfew,X⟩
 ((repeat rw[an qa]))
 by_cases hp:(rkv R fr).points=0;{rw[bK hp];refine⟨_,rfl,.inl ⟨rfl,rfl,rfl,λc k hw=>?_⟩⟩;obtain⟨c',k',J⟩:=Best.exists g hw;have h0:=J.1.ge g;have:=(X _ _ J).1;rw[this]at hp;simp only at hp;omega}
 ·(rw[bB hp];(repeat rw[an qa]))
  obtain⟨c,k,J⟩:=Best.exists g ((Q fr hfr.1 hfr.2).resolve_left hp).2;have hb0:=J.1.ge g;have hbn:=J.few g ht;obtain⟨hf1,hf2⟩:=X c k J;rw[show AF R fr.toNat qt=⟨c,k+1⟩from hf1]
  refine ip (g:=λr=>r) (λm (z:Ay×A7×Int)=>∃c',z.1=R/\Best E t z.2.2 c' (m:Int)/\(c'<c\/c'=c/\(m:Int)<=k)/\rkv R z.2.2=⟨c',m+1⟩/\
   ∃pre,z.2.1=fr::pre/\(AA pre+m:Int)<=k/\∀l,Rt E t z.2.2 l->Rt E t fr (pre++l))
   (λacc=>∃l,acc=fr::l/\Rt E t fr l) k.toNat ⟨c,rfl,?_,?_,?_,[],rfl,jZ,λl h=>h⟩ qa ?_ ?_
  {dsimp only;rw[xA hb0.2];exact J};{right;exact⟨rfl,qa⟩};{dsimp only;rw[xA hb0.2];exact hf1}
  ·rintro m ⟨p,acc,v⟩ ⟨c',hR',H,hle,hrv,pre,hacc,hpl,hrt⟩;simp only at hR' H hle hrv hacc hpl hrt;subst hR';subst hacc;dsimp only;by_cases hvt:v=t;{right;rw[aJ hvt];refine⟨_,rfl,pre,rfl,?_⟩;have:=hrt [] (by rw[hvt];exact .nil);simpa using this};left;have O:=H.1.lt g ht;have hbv0:=H.1.ge g;have hm1:=H.ne g hvt;have hmn:=H.few g ht
   (rw[bJ hvt];(repeat rw[an qa]))
   have hE:∀x∈AF L v.toNat qt,E v x.to x.cost:=λx U=>(hk.mem v _ _ O.1 O.2).1 U
   have hM:∀x:eR,E v x.to x.cost->(((rkv p x.to).points=(rkv p v).points-1/\(rkv p x.to).cost+x.cost=(rkv p v).cost)↔Best E t x.to (c'-x.cost) (m-1)):=by
    intro x U;have hxl:=g.lt _ _ _ U;have hxc:=g.cost _ _ _ U;rw[hrv];simp only;constructor
    ·rintro⟨h1,h2⟩;have hw:=((Q x.to hxl.2.2.1 hxl.2.2.2).resolve_left qa).2;have a1:(rkv p x.to).cost=c'-x.cost:=qa;have a2:(rkv p x.to).points-1=(m:Int)-1:=qa;rw[a1,a2]at hw;refine⟨hw,λc2 k2 hw2=>?_⟩;have:=H.2 _ _ (Walk.cons U hw2);omega
    intro hbx;have:=hf2 _ _ _ hbx qa;rw[this];simp only;omega
   have hcond:∀x∈AF L v.toNat qt,(py x p v).o=AB (qu ((rkv p x.to).points=(rkv p v).points-1/\(rkv p x.to).cost+x.cost=(rkv p v).cost),p,v):=by
    intro x U;have V:=hE x U;have hxl:=g.lt _ _ _ V;have hxc:=g.cost _ _ _ V;refine ahG ⟨hxl.2.2.1,qa⟩ ⟨O.1,qa⟩ (by rw[hrv];simp only;omega) hxc (λhpp=>?_);rw[hrv]at hpp;simp only at hpp;have hw:=((Q x.to hxl.2.2.1 hxl.2.2.2).resolve_left qa).2;have h1:=hw.ge g;have h2:=hw.le g;have:((rkv p x.to).points-1) * 1099511627776<=100 * 1099511627776:=wk qa qa;omega
   obtain⟨u0,e0,he0,hbu0⟩:=H.step qa;have hfew2:=hk.few v.toNat;obtain⟨i,hidx,hil,hMi,hno⟩:=agl (λx=>(rkv p x.to).points=(rkv p v).points-1/\(rkv p x.to).cost+x.cost=(rkv p v).cost) qa qa hcond ⟨⟨u0,e0⟩,(hk.mem v _ _ O.1 O.2).2 he0,(hM ⟨u0,e0⟩ he0).2 hbu0⟩;rw[hidx,qG];dsimp only
   ((repeat(first|rw[an qa]|rw[an (by simp only[qZ];omega)]|rw[an (by simp only[qw,qy,au];omega)]|rw[an (by simp only[wW,qZ,wg,au,and_true];omega)]|rw[an (by rw[au];simp only[qw];omega)]));rw[qD])
   have hmem:(AF L v.toNat qt).getD i qt∈AF L v.toNat qt:=mem_getD.2 ⟨i,hil,rfl⟩;have V:=hE _ hmem;have hbi:=(hM _ V).1 hMi;have hsort:=hk.sorted v.toNat qa;generalize U:(AF L v.toNat qt).getD i qt=x at hmem V hbi;have hxc:=g.cost _ _ _ V;have hb1:=hbi.1.ge g;have hnext:NextV E t v x.to:=by
    refine⟨⟨c',m,x.cost,H,V,hbi⟩,?_⟩;rintro w' ⟨c2,k2,e2,hbv2,he2,hbw2⟩;obtain⟨rfl,rfl⟩:=H.unique hbv2;have hmem2:=(hk.mem v _ _ O.1 O.2).2 he2;obtain⟨j,hj,hje⟩:=mem_getD.1 hmem2;have hMj:=(hM ⟨w',e2⟩ he2).2 hbw2;by_cases hji:j<i;{exact absurd (by rw[hje];exact hMj) (hno j hji)};by_cases hij:i=j;{subst hij;rw[U]at hje;rw[hje];exact wM _};have:=(xc.1 hsort) i j hil hj qa;have a1:(AF L v.toNat qt)[i]=x:=by rw[<-U,qY (l:=AF L v.toNat qt),xa hil];rfl
    have a2:(AF L v.toNat qt)[j]=⟨w',e2⟩:=by rw[<-hje,qY (l:=AF L v.toNat qt),xa hj];rfl
    rw[a1,a2]at this;simp only at this;omega
   have hmm:((m-1:Nat):Int)=(m:Int)-1:=qa;refine⟨_,rfl,m-1,qa,c'-x.cost,rfl,by dsimp only;rw[hmm];exact hbi,qa,?_,pre++[x.to],jV,jZ,λl hl=>?_⟩;{dsimp only;have:=hf2 _ _ _ hbi qa;rw[this,hmm]};have:=hrt (x.to::l) (.cons hvt hnext hl);simpa using this
  rintro acc ⟨l,rfl,hl⟩;exact⟨_,rfl,.inr ⟨rfl,c,k,l,J,hl,rfl,rfl⟩⟩
theorem ad1 (j:Lks E L)(g:0<=t/\t<(AA L:Int))(d:0<=fr/\fr<(AA L:Int))(e:100000<=NN):
 ∃r:bY×Bool,(pK L fr t).o=AB (r.1.Xp,r.1.Xh,r.2)/\((r.2=AE/\r.1=⟨nl,0⟩/\∀c k,¬Walk E t fr c k)\/(r.2=AD/\∃c k l,Best E t fr c k/\Rt E t fr l/\r.1=⟨fr::l,c⟩)):=by
 obtain⟨⟨v,c,b⟩,i,f⟩:=ac7 j g d e;refine⟨(⟨v,c⟩,b),i,f.imp (λh=>⟨h.1,jW,h.2.2.2⟩) (λ⟨a,p,k,l,m,n,q,s⟩=>⟨a,p,k,l,m,n,jW⟩)⟩
theorem ab7 (a:aw)(b c:Int):(xn a b c).o=(CF a b c).run NN:=rfl
theorem Zb (a:aw)(b c e:Int):(Lp a b c e).o=(Lq a b c e).run NN:=rfl
def il (m:aw)(fr t:Int):Prop:=WF m/\(0<=fr/\fr<(AA m.Xc:Int))/\(0<=t/\t<(AA m.Xc:Int))
def Routed (m:aw)(fr t a:Int)(r:bY×Bool):Prop:=
 (r.2=AE/\r.1=⟨nl,0⟩/\∀c k,¬Walk (Eg m a) t fr c k)\/(r.2=AD/\∃c k l,Best (Eg m a) t fr c k/\Rt (Eg m a) t fr l/\r.1=⟨fr::l,c⟩)
theorem Routed.unique {m:aw}{fr t a:Int}{r j:bY×Bool}(h:Routed m fr t a r)(p:Routed m fr t a j):r=j:=by
 obtain⟨v,s⟩:=r;obtain⟨w,x⟩:=j;rcases h with⟨i,n,g⟩|⟨i,c,k,l,n,g,o⟩<;>rcases p with⟨e,d,b⟩|⟨e,y,u,q,d,b,f⟩
 {simp_all};{exact absurd d.1 (g _ _)};{exact absurd n.1 (b _ _)};simp only at i o e f;rw[i,o,e,f,(n.unique d).1,g.unique b]
variable {m:aw}
theorem ajk{a:Int}(d:cX m)(e:WF m){L:Aw}(f:AA L=AA m.Xc)(b:∀v,v<AA m.Xc->AF L v qt=eP m.Xa a v):Lks (Eg m a) L:=by
 refine⟨by grind[Eg.graph],λv w c k j=>?_,λi=>?_,by rw[f];exact d.1,λi g=>?_⟩;{grind[aeM]}
 ·by_cases h:i<AA m.Xc;{rw[b i h];exact xC (FC _ _ _) d.2};rw[qY,List.getElem?_eq_none qa];exact Nat.zero_le _
 rw[b i qa];exact abu e a i
theorem acJ (m:aw)(fr t a:Int)(c:cX m)(h:il m fr t)(i:100000<=NN):∃L r,(vN m a).o=AB L/\(pK L fr t).o=AB (r.1.Xp,r.1.Xh,r.2)/\Routed m fr t a r:=by obtain⟨b,l,k⟩:=h;obtain⟨L,d,f,g⟩:=agC m a c b qa;obtain⟨r,e,j⟩:=ad1 (E:=Eg m a) (t:=t) (fr:=fr) (ajk c b f g) qa qa i;exact⟨L,r,d,e,j⟩
theorem Sw (m:aw)(fr t:Int)(c:cX m)(a:100000<=NN):∃b,(xn m fr t).o=AB b/\(b=AD↔il m fr t):=by simp only[ab7,CF,qj];grind[il,RU]
theorem adO (m:aw)(fr t a:Int)(hs:cX m)(h:il m fr t)(hm:0<=a/\a<=2)(hN:100000<=NN):∃r,(Lp m fr t a).o=AB r/\Routed m fr t a r:=by
 obtain⟨b,hb,c⟩:=Sw m fr t hs hN;have hbt:=c.2 h;subst hbt;obtain⟨hw,hf,ht⟩:=h;have g:=Eg.graph hw a;obtain⟨l,hl,hll,R⟩:=aeI m a t hs hw ht hN;simp only[Zb,Lq,qj]
 (rw[hb,qG,cT (by rfl),aj qa,ah,aj qa,hl,qG];(repeat rw[an qa]))
 have hs1:=hs.1;have hs2:=hs.2;rcases R fr hf.1 hf.2 with⟨h1,A⟩|hb
 {rw[ai h1];exact⟨_,rfl,.inl ⟨rfl,rfl,A⟩⟩};have hb0:=hb.1.ge g;have hbn:=hb.few g ht
 (rw[aj (show ¬ (lab l fr).Xh<0 from qa)];(repeat rw[an qa]))
 generalize hcf:(lab l fr).Xh=cf at hb hb0;generalize hkf:(lab l fr).Xa=kf at hb hb0 hbn
 refine ip (g:=λr=>r) (λk (z:A7×Int)=>∃H,Best (Eg m a) t z.2 H (k:Int)/\lab l z.2=⟨H,k⟩/\∃pre,z.1=fr::pre/\(AA pre+k:Int)<=kf/\∀Z,Rt (Eg m a) t z.2 Z->Rt (Eg m a) t fr (pre++Z))
  (λacc=>∃Z,acc=fr::Z/\Rt (Eg m a) t fr Z) kf.toNat ⟨cf,by dsimp only;rw[xA hb0.2];exact hb,?_,[],rfl,jZ,λZ h=>h⟩ qa ?_ ?_
 {dsimp only;rw[xA hb0.2];generalize lab l fr=z at hcf hkf;obtain⟨z1,z2⟩:=z;simp only at hcf hkf;rw[hcf,hkf]}
 ·rintro k ⟨acc,v⟩ ⟨H,N,hlv,pre,hacc,hpl,hrt⟩;simp only at N hlv hacc hpl hrt;subst hacc;dsimp only;by_cases Y:v=t;{right;rw[aJ Y];refine⟨_,rfl,pre,rfl,?_⟩;have:=hrt [] (by rw[Y];exact .nil);simpa using this};left;rw[bJ Y];have hvl:=N.1.lt g ht;have hbv0:=N.1.ge g;have hk1:=N.ne g Y;have hvc:(lab l v).Xh=H:=by rw[hlv]
  have hve:(lab l v).Xa=k:=by rw[hlv]
  have hcand:∀i,i<AA m.Xa->jza (AF m.Xa i qt).Xo a=true->∀w,((AF m.Xa i qt).U=v/\(AF m.Xa i qt).V=w\/(AF m.Xa i qt).V=v/\(AF m.Xa i qt).U=w)->
   (0<=(lab l w).Xh/\(lab l w).Xh+(AF m.Xa i qt).Xh=H/\(lab l w).Xa+1=k↔Best (Eg m a) t w (H- (AF m.Xa i qt).Xh) (k-1)):=by
   intro i hi O w J;have he:Eg m a v w (AF m.Xa i qt).Xh:=⟨i,hi,O,rfl,qa⟩;have B:=g.lt _ _ _ he;rcases R w B.2.2.1 B.2.2.2 with⟨h1,A⟩|c
   ·constructor;{intro h;omega};intro h;exact absurd h.1 (A _ _)
   constructor;{rintro⟨_,h3,h4⟩;rw[show H- (AF m.Xa i qt).Xh=(lab l w).Xh from qa,show(k:Int)-1=(lab l w).Xa from qa];exact c};intro h;have:=c.unique h;have:=c.1.ge g;omega
  refine ip (g:=am.next) (λk' (z:Int×Int)=>∃i:Nat,z.2=(i:Int)/\i+k'=AA m.Xa/\
   ((z.1= -1/\∀j,j<i->jza (AF m.Xa j qt).Xo a=true->∀w,((AF m.Xa j qt).U=v/\(AF m.Xa j qt).V=w\/(AF m.Xa j qt).V=v/\(AF m.Xa j qt).U=w)->¬Best (Eg m a) t w (H- (AF m.Xa j qt).Xh) (k-1))\/
    (0<=z.1/\(∃e,Eg m a v z.1 e/\Best (Eg m a) t z.1 (H-e) (k-1))/\∀j,j<i->jza (AF m.Xa j qt).Xo a=true->∀w,((AF m.Xa j qt).U=v/\(AF m.Xa j qt).V=w\/(AF m.Xa j qt).V=v/\(AF m.Xa j qt).U=w)->Best (Eg m a) t w (H- (AF m.Xa j qt).Xh) (k-1)->z.1<=w)))
   (λw=>NextV (Eg m a) t v w/\∃e,Eg m a v w e/\Best (Eg m a) t w (H-e) (k-1)) (AA m.Xa) ⟨0,rfl,qa,.inl ⟨rfl,λj hj=>qa⟩⟩ qa ?_ ?_
  ·rintro k' ⟨nx,x⟩ ⟨i,hx,hi,I⟩;simp only at hx I;subst hx;dsimp only;by_cases hlt:i<AA m.Xa
   ·left;obtain⟨o1,o2,o3,o4,o5⟩:=(hw i hlt).1
    (rw[ai qa];(repeat rw[an qa]);rw[qD,QU,qG])
    have skip:(∀w,jza (AF m.Xa i qt).Xo a=true->((AF m.Xa i qt).U=v/\(AF m.Xa i qt).V=w\/(AF m.Xa i qt).V=v/\(AF m.Xa i qt).U=w)->¬Best (Eg m a) t w (H- (AF m.Xa i qt).Xh) (k-1))->
     ∃x',(AB (am.next (nx,((i+1:Nat):Int))):Option (am (Int×Int) Int (am (A7×Int) A7 (bY×Bool))))=AB (.next x')/\∃m',m'<k'/\∃i:Nat,x'.2=(i:Int)/\i+m'=AA m.Xa/\
    ((x'.1= -1/\∀j,j<i->jza (AF m.Xa j qt).Xo a=true->∀w,((AF m.Xa j qt).U=v/\(AF m.Xa j qt).V=w\/(AF m.Xa j qt).V=v/\(AF m.Xa j qt).U=w)->¬Best (Eg m a) t w (H- (AF m.Xa j qt).Xh) (k-1))\/
     (0<=x'.1/\(∃e,Eg m a v x'.1 e/\Best (Eg m a) t x'.1 (H-e) (k-1))/\∀j,j<i->jza (AF m.Xa j qt).Xo a=true->∀w,((AF m.Xa j qt).U=v/\(AF m.Xa j qt).V=w\/(AF m.Xa j qt).V=v/\(AF m.Xa j qt).U=w)->Best (Eg m a) t w (H- (AF m.Xa j qt).Xh) (k-1)->x'.1<=w)):=by
      intro hno;refine⟨_,rfl,k'-1,qa,i+1,rfl,qa,?_⟩;rcases I with⟨h1,A⟩|⟨h1,A,h3⟩
      ·refine .inl ⟨h1,λj hj O w J=>?_⟩;by_cases C:j=i;{subst C;exact hno w O J};exact A j qa O w J
      refine .inr ⟨h1,A,λj hj O w J c=>?_⟩;by_cases C:j=i;{subst C;exact absurd c (hno w O J)};exact h3 j qa O w J c
    by_cases O:jza (AF m.Xa i qt).Xo a=AD
    ·rw[cT (by rw[O];rfl)];by_cases Q:(AF m.Xa i qt).U=v\/(AF m.Xa i qt).V=v
     ·have hy:(bif ((AF m.Xa i qt).U !=v)then(AB (.out ((AF m.Xa i qt).V !=v)):Option (am Unit Bool (am Unit Int (am (Int×Int) Int (am (A7×Int) A7 (bY×Bool))))))else AB (.out AE))=AB (.out AE):=by
       by_cases h1:(AF m.Xa i qt).U=v;{rw[aJ h1]};rw[bJ h1];have:((AF m.Xa i qt).V !=v)=false:=by simpa using Q.resolve_left h1
       rw[this]
      rw[hy,ah,cT (by rfl)];obtain⟨w,J,hz⟩:∃w,((AF m.Xa i qt).U=v/\(AF m.Xa i qt).V=w\/(AF m.Xa i qt).V=v/\(AF m.Xa i qt).U=w)/\AG qs (AG qs ((AF m.Xa i qt).U+(AF m.Xa i qt).V)-v)=w:=by
       rw[w64 (x:=(AF m.Xa i qt).U+(AF m.Xa i qt).V) qa qa,w64 qa qa];refine⟨_,?_,rfl⟩;omega
      rw[hz];have he:Eg m a v w (AF m.Xa i qt).Xh:=⟨i,hlt,O,rfl,qa⟩;have B:=g.lt _ _ _ he;have hc:=hcand i hlt O w J;have S:∀D,((AF m.Xa i qt).U=v/\(AF m.Xa i qt).V=D\/(AF m.Xa i qt).V=v/\(AF m.Xa i qt).U=D)->D=w:=λD h=>qa
      have hlw:(lab l w).Xh<0\/(0<=(lab l w).Xh/\(lab l w).Xh<=100 * 1099511627776/\0<=(lab l w).Xa/\(lab l w).Xa<=100):=by
       rcases R w B.2.2.1 B.2.2.2 with⟨h1,_⟩|c;{exact .inl h1};have a1:=c.1.ge g;have a2:=c.1.le g;have a3:=c.few g ht;have a4:(lab l w).Xa * 1099511627776<=100 * 1099511627776:=wk qa qa;exact .inr ⟨a1.1,qa,a1.2,qa⟩
      ((repeat rw[an qa]))
      by_cases hok:0<=(lab l w).Xh/\(lab l w).Xh+(AF m.Xa i qt).Xh=H/\(lab l w).Xa+1=k
      ·have c:=hc.1 hok
       (rw[ai (show(lab l w).Xh>=0 from qa)];(repeat rw[an qa]);rw[w64 (x:=(lab l w).Xh+(AF m.Xa i qt).Xh) qa qa,bK (show(lab l w).Xh+(AF m.Xa i qt).Xh=(lab l v).Xh from qa)];(repeat rw[an qa]);rw[w64 (x:=(lab l w).Xa+1) qa qa,bK (show(lab l w).Xa+1=(lab l v).Xa from qa)])
       by_cases hnx:nx<0
       ·rw[ai hnx,ah,c6 (by rfl),ah,w64n qa];refine⟨_,rfl,k'-1,qa,i+1,rfl,qa,.inr ⟨B.2.2.1,⟨_,he,c⟩,λj hj X D f p=>?_⟩⟩;by_cases C:j=i;{subst C;rw[S D f];exact wM _};rcases I with⟨_,A⟩|⟨h1,_⟩;{exact absurd p (A j qa X D f)};omega
       rw[aj hnx,ah];rcases I with⟨h1,A⟩|⟨h1,A,h3⟩
       {omega};by_cases hlt2:w<nx
       ·rw[ai hlt2,ah,w64n qa];refine⟨_,rfl,k'-1,qa,i+1,rfl,qa,.inr ⟨B.2.2.1,⟨_,he,c⟩,λj hj X D f p=>?_⟩⟩;by_cases C:j=i;{subst C;rw[S D f];exact wM _};have:=h3 j qa X D f p;dsimp only;omega
       rw[aj hlt2,ah,w64n qa];refine⟨_,rfl,k'-1,qa,i+1,rfl,qa,.inr ⟨h1,A,λj hj X D f p=>?_⟩⟩;by_cases C:j=i;{subst C;rw[S D f];dsimp only;omega};exact h3 j qa X D f p
      have hfin:(bif (qu ((lab l w).Xh>=0))then
       bif ((AG qs ((lab l w).Xh+(AF m.Xa i qt).Xh))==(lab l v).Xh)then
        bif ((AG qs ((lab l w).Xa+1))==(lab l v).Xa)then
         bif (qu (nx<0))then
          AB (.out AD)
         else
          AB (.out (qu (w<nx)))
        else
         AB (.out AE)
       else
        AB (.out AE)
       else
        (AB (.out AE):Option (am Unit Bool (am Unit Int (am (Int×Int) Int (am (A7×Int) A7 (bY×Bool)))))))=AB (.out AE):=by
       by_cases h1:(lab l w).Xh>=0
       ·(rw[ai h1];(repeat rw[an qa]);rw[w64 (x:=(lab l w).Xh+(AF m.Xa i qt).Xh) qa qa])
        by_cases A:(lab l w).Xh+(AF m.Xa i qt).Xh=(lab l v).Xh
        ·(rw[bK A];(repeat rw[an qa]);rw[w64 (x:=(lab l w).Xa+1) qa qa,bB qa])
        rw[bB A]
       rw[aj h1]
      rw[hfin,ah,cT (by rfl),ah,w64n qa];exact skip (λD _ f p=>hok (hc.2 (by rw[<-S D f];exact p)))
     rw[bJ (λh=>Q (.inl h))];have:((AF m.Xa i qt).V !=v)=true:=by
      rw[bne_iff_ne];exact λh=>Q (.inr h)
     rw[this,ah,c6 (by rfl),ah,w64n qa];exact skip (λD _ f _=>Q qa)
    have huf:jza (AF m.Xa i qt).Xo a=false:=by simpa using O
    rw[huf,c6 (by rfl),ah,c6 (by rfl),ah,w64n qa];exact skip (λD h _ _=>O h)
   right;rw[aj qa];have hie:i=AA m.Xa:=qa;subst hie;obtain⟨u0,e0,⟨j0,hj0,hu0,hc0,hpq0⟩,hbu0⟩:=N.step qa;rcases I with⟨_,A⟩|⟨h1,A,h3⟩
   {exact absurd (by rw[hc0];exact hbu0) (A j0 hj0 hu0 u0 qa)};obtain⟨e1,he1,M⟩:=A;refine⟨_,rfl,⟨⟨H,k,e1,N,he1,M⟩,?_⟩,e1,he1,M⟩;rintro D ⟨c2,k2,e2,hbv2,⟨j,hj,O,hc,hpq⟩,hbw2⟩;obtain⟨rfl,rfl⟩:=N.unique hbv2;exact h3 j hj O D qa (by rw[hc];exact hbw2)
  rintro w ⟨hnext,e1,he1,M⟩;have B:=g.lt _ _ _ he1;have hb10:=M.1.ge g;have hkk:((k-1:Nat):Int)=(k:Int)-1:=qa
  ((repeat(first|rw[an qa]|rw[an (by simp only[qZ];omega)]|rw[an (by simp only[qw,qy,au];omega)]|rw[an (by simp only[wW,qZ,wg,au,and_true];omega)]|rw[an (by rw[au];simp only[qw];omega)])))
  refine⟨_,rfl,k-1,qa,H-e1,by dsimp only;rw[hkk];exact M,?_,pre++[w],jV,jZ,λZ hl'=>?_⟩
  ·dsimp only;rcases R w B.2.2.1 B.2.2.2 with⟨_,A⟩|c
   {exact absurd M.1 (A _ _)};have:=c.unique M;generalize lab l w=z at this;obtain⟨z1,z2⟩:=z;simp only at this;rw[this.1,this.2,hkk]
  have:=hrt (w::Z) (.cons Y hnext hl');simpa using this
 rintro acc ⟨Z,rfl,hl'⟩;exact⟨_,rfl,.inr ⟨rfl,cf,kf,Z,hb,hl',rfl⟩⟩
theorem Routed.len{fr t a:Int}{r:bY×Bool}(p:cX m)(e:il m fr t)(h:Routed m fr t a r):AA r.1.Xp<=101:=by rcases h with⟨_,b,_⟩|⟨_,c,k,l,b,f,o⟩;{rw[b];simp[nl]};have g:=Eg.graph e.1 a;have w:=f.length g b;have z:=b.few g e.2.2;have:=p.1;rw[o];simp;omega
theorem Vu (b:Ao)(a:(Int×Int)):(pt b a).o=(uy b a).run NN:=rfl
theorem NM (b:aw)(c a:Int):(pS b c a).o=(uV b c a).run NN:=rfl
theorem OT (b:aw)(c a:Int):(nL b c a).o=(lY b c a).run NN:=rfl
theorem abc (b:aw)(c a:Int):(rS b c a).o=(CS b c a).run NN:=rfl
theorem abQ (b:aw)(c a:Int):(nU b c a).o=(D1 b c a).run NN:=rfl
theorem U1 {x:Int}(h:0<=x)(a:x<4000000000000):AG qs ((IntKind.u64.wrap (AG qs x)).fdiv (2 ^ (min (1:Int).toNat 64)))=x / 2:=by grind[IntKind.wrap,IntKind.bits,w64]
theorem ade(z:cX m)(q:WF m){u v:Int}{e:Nat}(w:e<AA m.Xa)(I:(AF m.Xa e qt).U=u)(H:(AF m.Xa e qt).V=v)(J:100000<=NN):
 (pt m.Xa (u,v)).o=AB ((e:Int),AD):=by
 have G:=z.2;have C:∃r,(pt m.Xa (u,v)).o=AB r/\r=((e:Int),AD):=by
  simp only[Vu,uy,qj];refine ip (g:=λr=>r) (λk (x:Int×Int)=>∃a b:Nat,x=((a:Int),(b:Int))/\a+k=b/\b<=AA m.Xa/\a<=e/\e<=b) (λy=>y=(e:Int)) (AA m.Xa) ⟨0,AA m.Xa,rfl,qa,qa,qa,qa⟩ qa ?_ ?_
  ·rintro k x ⟨a,b,rfl,F,B,E,D⟩;by_cases t:a<b
   ·left
    (rw[ai qa];rw[U1 qa qa])
    obtain⟨h,s⟩:∃h:Nat,((a:Int)+(b:Int)) / 2=(h:Int):=⟨(a+b) / 2,qa⟩
    (rw[s];(repeat rw[an qa]);rw[qD])
    obtain⟨c,p,l,n⟩:=rc qa (AF m.Xa h qt) u v;rw[p,qG];by_cases f:c<0
    ·rw[ai f,w64n qa];refine⟨_,rfl,b- (h+1),qa,h+1,b,rfl,qa,B,?_,D⟩;rcases xD h e with d|d
     {omega};by_cases A:h=e;{simp_all};have:=q.lt (i:=e) (j:=h) qa qa;grind[eLt]
    rw[aj f];refine⟨_,rfl,h-a,qa,a,h,rfl,qa,qa,E,?_⟩;rcases xD h e with d|d
    ·have:=q.lt (i:=h) (j:=e) d w;grind[eLt]
    omega
   grind
  rintro y rfl
  ((repeat rw[an qa]);rw[qD])
  obtain⟨c,p,l,n⟩:=rc qa (AF m.Xa e qt) u v;simp_all
 simp_all
def EI (m:aw)(a:A7)(i e:Nat):Prop:=e<AA m.Xa/\(AF m.Xa e qt).U=min (AF a i qt) (AF a (i+1) qt)/\(AF m.Xa e qt).V=max (AF a i qt) (AF a (i+1) qt)
theorem ES(f:cX m)(b:WF m){x y:Int}{e:Nat}(c:e<AA m.Xa)(d:(AF m.Xa e qt).U=min x y)(a:(AF m.Xa e qt).V=max x y)(g:100000<=NN):(pS m x y).o=AB ((e:Int),AD):=by grind[NM,uV,qj,ade]
theorem Rt.adj {E:Int->Int->Int->Prop}{t v:Int}{l:A7}(h:Rt E t v l):∀i,i<AA l->∃c,E (AF (v::l) i qt) (AF (v::l) (i+1) qt) c:=by
 induction h with
 |nil=>simp_all
 |cons b a _ g=>
  intro i d;cases i with
  |zero=>
   obtain⟨_,_,e,_,f,_⟩:=a.1;grind
  |succ i=>
   simp_all
theorem EI.exists(g:WF m){a fr t:Int}{l:A7}(h:Rt (Eg m a) t fr l){i:Nat}(f:i<AA l):∃e,EI m (fr::l) i e:=by obtain⟨c,e,b,k,n,d⟩:=h.adj i f;obtain⟨o,r,p,j,q⟩:=(g e b).1;exact⟨e,b,qa,qa⟩
theorem EI.unique(d:WF m){b:A7}{i e c:Nat}(h:EI m b i e)(a:EI m b i c):e=c:=d.one h.1 a.1 (by rw[h.2.1,a.2.1]) (by rw[h.2.2,a.2.2])
def NextQ (m:aw)(a:bY)(r:Int×bY×Int):Prop:=
 (r=(-1,a,1)/\∀i,i+1<AA a.Xp->∀e,EI m a.Xp i e->(AF m.Xa e qt).Xo≠0)\/
 ∃i e:Nat,i+1<AA a.Xp/\EI m a.Xp i e/\(AF m.Xa e qt).Xo=0/\r=((e:Int),a,3)/\∀j,j<i->∀b,EI m a.Xp j b->(AF m.Xa b qt).Xo≠0
theorem NextQ.unique {m:aw}(k:WF m){f:bY}{r g:Int×bY×Int}(h:NextQ m f r)(p:NextQ m f g):r=g:=by
 rcases h with⟨o,d⟩|⟨i,e,o,d,u,l,v⟩<;>rcases p with⟨c,a⟩|⟨j,t,c,a,n,b,s⟩
 {simp_all};{grind};{grind};have q:i=j:=by
  grind
 subst q;rw[l,b,d.unique k a]
theorem NextQ.route{a:bY}{r:Int×bY×Int}(h:NextQ m a r):r.2.1=a:=by rcases h with⟨c,_⟩|⟨i,e,_,_,_,b,_⟩;all_goals simp_all
def NextP (m:aw)(fr t:Int)(r:Int×bY×Int):Prop:=
 (¬il m fr t/\r=(-1,⟨nl,0⟩,0))\/(il m fr t/\∃a,Routed m fr t 1 a/\((a.2=AE/\r=(-1,⟨nl,0⟩,2))\/(a.2=AD/\NextQ m a.1 r)))
theorem NextP.unique {m:aw}{fr t:Int}{r i:Int×bY×Int}(h:NextP m fr t r)(k:NextP m fr t i):r=i:=by
 rcases h with⟨j,g⟩|⟨j,p,g,o⟩<;>rcases k with⟨d,c⟩|⟨d,l,c,e⟩
 {simp_all};{simp_all};{simp_all};have:=g.unique c;subst this;rcases o with⟨a,b⟩|⟨a,b⟩<;>rcases e with⟨n,f⟩|⟨n,f⟩
 {grind};{simp_all};{simp_all};exact b.unique j.1 f
theorem NextP.len {m:aw}{fr t:Int}{r:Int×bY×Int}(d:cX m)(h:NextP m fr t r):AA r.2.1.Xp<=101:=by rcases h with⟨_,a⟩|⟨c,e,a,⟨_,b⟩|⟨_,b⟩⟩;{rw[a];simp[nl]};{rw[b];simp[nl]};rw[b.route];exact a.len d c
theorem ahs (m:aw)(fr t:Int)(C:cX m)(I:100000<=NN):∃r:Int×bY×Int,(rS m fr t).o=AB (r.1,r.2.1.Xp,r.2.1.Xh,r.2.2)/\NextP m fr t r:=by
 suffices h:∃r:Int×A7×Int×Int,(rS m fr t).o=AB r/\NextP m fr t (r.1,⟨r.2.1,r.2.2.1⟩,r.2.2.2)from h.elim λr h=>⟨(r.1,⟨r.2.1,r.2.2.1⟩,r.2.2.2),h⟩
 simp only[abc,CS,qj];obtain⟨b,W,u⟩:=PQ m C qa;rw[W,qG];have d:¬il m fr t->∃r:Int×A7×Int×Int,(AB ((-1:Int),(nl:A7),(0:Int),(0:Int)):Option (Int×A7×Int×Int))=AB r/\NextP m fr t (r.1,⟨r.2.1,r.2.2.1⟩,r.2.2.2):=λh=>⟨_,rfl,.inl ⟨h,rfl⟩⟩
 cases b with
 |false=>
  exact d (λh=>by have:=u.2 h.1;grind)
 |true=>
  have v:=u.1 rfl;rw[cT (by rfl),mf,qG];by_cases w:0<=fr/\fr<(AA m.Xc:Int)
  ·rw[mG w,mf,qG,ah];by_cases B:0<=t/\t<(AA m.Xc:Int)
   ·rw[mG B];have z:il m fr t:=⟨v,w,B⟩;obtain⟨L,H,V,Q,M⟩:=acJ m fr t 1 C z I;have p:=M.len C z;rw[V,qG,Q,qG];rcases M with⟨g,E,A⟩|⟨g,c,k,l,E,A,J⟩
    {rw[g,c6 (by rfl)];exact⟨_,rfl,.inr ⟨z,H,.inl ⟨g,E,A⟩,.inl ⟨g,rfl⟩⟩⟩};have K:∀r,NextQ m H.1 r->NextP m fr t r:=λr h=>.inr ⟨z,H,.inr ⟨g,c,k,l,E,A,J⟩,.inr ⟨g,h⟩⟩
    rw[g,cT (by rfl)];rw[J]at K p⊢;simp only[qw]at p;dsimp only;have X:(1:Int).toNat=1:=rfl;have Y:((((AA (fr::l):Nat):Int)).toNat-1)=AA l:=jV
    (repeat(first|rw[an qa]|rw[an (by simp only[qw];omega)]))
    rw[X,Y]
    refine(mg (P:=λr:Int×A7×Int×Int=>NextQ m ⟨fr::l,c⟩ (r.1,⟨r.2.1,r.2.2.1⟩,r.2.2.2)) (λk (x:Int)=>∃i:Nat,x=(i:Int)/\i+k=AA l/\∀j,j<i->∀e,EI m (fr::l) j e->(AF m.Xa e qt).Xo≠0)
     (λ_=>∀j,j<AA l->∀e,EI m (fr::l) j e->(AF m.Xa e qt).Xo≠0) (AA l) ⟨0,rfl,qa,λj O=>qa⟩ qa ?_ ?_).imp (λr h=>⟨h.1,K _ h.2⟩)
    ·rintro S x ⟨i,rfl,N,a⟩;by_cases F:i<AA l
     ·rw[ai qa];rw[qD];rw[show(fr::l).getD (1+i) qt=AF l i qt by rw[xE];rfl];obtain⟨e,n⟩:=EI.exists v A F;have D:=ES C v (x:=AF (fr::l) i qt) (y:=AF l i qt) n.1 (by have:=n.2.1;simpa using this) (by have:=n.2.2;simpa using this) I;rw[D,qG];have R:=n.1
      ((repeat rw[an qa]);rw[qD])
      by_cases f:(AF m.Xa e qt).Xo=0;{rw[bK f];exact .inr (.inr ⟨_,rfl,.inr ⟨i,e,by simp only[qw];omega,n,f,rfl,a⟩⟩)};rw[bB f,w64n qa];refine .inl ⟨_,S-1,rfl,qa,i+1,rfl,qa,λj O U s=>?_⟩;by_cases G:j=i;{subst G;rw[s.unique v n];exact f};exact a j qa U s
     rw[aj qa];exact .inr (.inl ⟨_,rfl,λj O=>a j qa⟩)
    intro _ h;exact⟨_,rfl,.inl ⟨rfl,λi N=>h i (by simp only[qw]at N;omega)⟩⟩
   rw[tf B];exact d (λh=>B h.2.2)
  rw[tf w,ah,c6 (by rfl)];exact d (λh=>w h.2.1)
theorem Fn(f:cX m)(c:WF m){x y:Int}{e:Nat}(d:e<AA m.Xa)(u:(AF m.Xa e qt).U=min x y)(t:(AF m.Xa e qt).V=max x y)(p:100000<=NN):(nL m x y).o=AB (e:Int):=by
 have n:=f.2;have g:∃r,(nL m x y).o=AB r/\r=(e:Int):=by
  simp only[OT,lY,qj];refine mg (λk (x:Int)=>∃i:Nat,x=(i:Int)/\i+k=AA m.Xa/\i<=e) (λ_=>False) (AA m.Xa) ⟨0,rfl,qa,qa⟩ qa ?_ (λ_ h=>h.elim);rintro k z ⟨i,rfl,s,l⟩;have a:i<AA m.Xa:=qa;rw[ai qa,an qa,qD];by_cases b:i=e;{grind[an,ah]};refine .inl ⟨((i+1:Nat):Int),k-1,?_,qa,i+1,rfl,qa,qa⟩;by_cases j:(AF m.Xa i qt).U=min x y;{rw[bK j,an qa,ah,bB (λq=>b (c.one a d qa qa)),w64n qa]};grind[ah,w64n]
 simp_all
theorem adN (m:aw)(fr t:Int)(u:cX m)(v:100000<=NN):∃r,(nU m fr t).o=AB r/\NextP m fr t r:=by
 simp only[abQ,D1,qj];obtain⟨b,L,D⟩:=Sw m fr t u v;rw[L,qG];cases b with
 |false=>
  exact⟨_,rfl,.inl ⟨λh=>jW,rfl⟩⟩
 |true=>
  have p:=D.1 rfl;have A:=p.1;rw[cT (by rfl)];obtain⟨z,J,I⟩:=adO m fr t 1 u p qa v;have q:=I.len u p;rw[J,qG];rcases I with⟨f,B,s⟩|⟨f,c,k,l,B,s,G⟩
  {rw[f,c6 (by rfl)];exact⟨_,rfl,.inr ⟨p,z,.inl ⟨f,B,s⟩,.inl ⟨f,rfl⟩⟩⟩};have H:∀r,NextQ m z.1 r->NextP m fr t r:=λr h=>.inr ⟨p,z,.inr ⟨f,c,k,l,B,s,G⟩,.inr ⟨f,h⟩⟩
  rw[f,cT (by rfl)];rw[G]at H q⊢;simp only[qw]at q
  refine(mg (P:=NextQ m ⟨fr::l,c⟩) (λk (x:Int)=>∃i:Nat,x=((i+1:Nat):Int)/\i+k=AA l/\∀j,j<i->∀e,EI m (fr::l) j e->(AF m.Xa e qt).Xo≠0)
   (λ_=>∀j,j<AA l->∀e,EI m (fr::l) j e->(AF m.Xa e qt).Xo≠0) (AA l) ⟨0,rfl,qa,λj F=>qa⟩ qa ?_ ?_).imp (λr h=>⟨h.1,H r h.2⟩)
  ·rintro M x ⟨i,rfl,E,a⟩;by_cases C:i<AA l
   ·have w:AG qs (((i+1:Nat):Int)-1)=(i:Int):=by grind[w64]
    rw[ai jW,w,an jX,an jX,qD,qD];obtain⟨e,g⟩:=EI.exists A s C;rw[Fn u A g.1 g.2.1 g.2.2 v,qG];have N:=g.1;rw[an qa,qD];by_cases d:(AF m.Xa e qt).Xo=0;{rw[bK d];exact .inr (.inr ⟨_,rfl,.inr ⟨i,e,by simp only[qw];omega,g,d,rfl,a⟩⟩)};rw[bB d,w64n qa];refine .inl ⟨_,M-1,rfl,qa,i+1,rfl,qa,λj F K n=>?_⟩;by_cases y:j=i;{subst y;rw[n.unique A g];exact d};exact a j qa K n
   rw[aj (by simp only[qw];omega)];exact .inr (.inl ⟨_,rfl,λj F=>a j qa⟩)
  intro _ h;exact⟨_,rfl,.inl ⟨rfl,λi E=>h i (by simp only[qw]at E;omega)⟩⟩
def ltE (a b:bD):Bool:=qu (a.U<b.U\/(a.U=b.U/\a.V<b.V))
theorem cmpI (a b:Int):(fO a b).o=AB (if a<b then -1 else if a>b then 1 else 0):=by
 have h:∀x,(uZ x).o=AB (x !=x):=λ_=>rfl
 show(pF a b).run NN=_;simp only[pF,qj,h,qG,bne_self_eq_false,qd];by_cases c:a<b;{rw[ai c,qc c]};rw[aj c,qb c];by_cases c2:a>b;{rw[ai c2,qc c2]};rw[aj c2,qb c2]
theorem Uj (a b:Int):(nS [a,b]).o=AB (if a≠0 then a else b):=by
 show(rT [a,b]).run NN=_;simp only[rT,qj];have hl:AA ([a,b]:A7)=2:=rfl;refine(aU (λj=>sw (AF ([a,b]:A7) j qt !=0) (AF ([a,b]:A7) j qt)) 2 jU (λj m=>?_) (by rw[aj jV])).trans ?_;{rw[ai (by rw[hl];omega),ab (by rw[hl];omega),wn qa,qD,<-co]};have e:AF ([a,b]:A7) 0 qt=a:=rfl;have f:AF ([a,b]:A7) 1 qt=b:=rfl;simp only[scan,e,f,sw];by_cases h1:a=0
 ·subst h1;by_cases c:b=0;{subst c;rfl};have k:(b !=0)=true:=by simpa using c
  rw[k];rfl
 have g:(a !=0)=true:=by simpa using h1
 rw[g,qc h1];rfl
def cmpI' (a b:Int):Int:=if a<b then -1 else if a>b then 1 else 0
theorem wprd {n:Nat}(h1:1<=n)(h:n<4294967296):AG qs ((n:Int)-1)=((n-1:Nat):Int):=by rw[w64 qa qa];omega
def RoB (r:ao):Prop:=1<=AA r.Xb/\(AA r.Xb)<=3/\∀j∈r.Xb,JB j
def LtD (d:Nat->Int)(i j:Nat):Prop:=d i<d j\/(d i=d j/\i<j)
abbrev cC (l:List Nat):A7:=l.map λ(i:Nat)=>(i:Int)
theorem RG {l:List Nat}{i:Nat}(h:i<AA l):AF (cC l) i qt=((AF l i qt:Nat):Int):=by simp_all
def ixs (a:Int)(n:Nat):List Nat:=(List.range n).filter λ(i:Nat)=> !((i:Int)==a)
theorem SZ (a:Int)(n:Nat):ixs a (n+1)=if((n:Int)==a)=AD then ixs a n else ixs a n++[n]:=by grind[ixs,List.range_succ]
theorem ajb {a:Int}{n i:Nat}(h:i∈ixs a n):i<n:=by grind[ixs]
def dQ (r:ao)(a:A8)(q:A7)(i:Nat):Int:=dstV r (AF a i qt) q
def OrdQ (d:Nat->Int)(a:Int)(n:Nat)(b:List Nat):Prop:=b.Perm (ixs a n)/\b.Pairwise (LtD d)
theorem Sz (r:ao)(d:A8)(q:A7)(m:Int)(hp:AA d<=1000)(X:∀c∈d,AA c<4294967296)(Y:AA q<4294967296):
 ∃l,(WB r d q m).o=AB l/\∃H,l=cC H/\OrdQ (dQ r d q) m (AA d) H:=by
 show ∃l,(J4 r d q m).run NN=AB l/\_;simp only[J4,qj];have G:∀ {j:Nat} {H:List Nat},OrdQ (dQ r d q) m j H->AA H<=j/\∀i∈H,i<j:=λh=>by
  have C:=h.1.length_eq;refine⟨?_,λi J=>ajb (h.1.mem_iff.1 J)⟩;grind[ixs]
 refine bS (P:=λl:A7=>∃H,l=cC H/\OrdQ (dQ r d q) m (AA d) H)
  (λk (y:A7×Int)=>∃j:Nat,y.2=(j:Int)/\j+k=AA d/\∃H,y.1=cC H/\OrdQ (dQ r d q) m j H)
  (λl:A7=>∃H,l=cC H/\OrdQ (dQ r d q) m (AA d) H) (AA d) ⟨0,rfl,qa,[],rfl,List.Perm.nil,List.Pairwise.nil⟩ qa ?_ (λz g=>⟨_,rfl,g⟩)
 rintro k ⟨l,y⟩ ⟨j,V,hjk,H,E,v⟩;simp only at V E⊢;subst V;subst E;cases k with
 |zero=>
  grind
 |succ k=>
  obtain⟨hl1,w⟩:=G v;rw[ai qa,wn qa];by_cases c:(j:Int)=m;{rw[bK c,ah];refine .inl ⟨_,k,rfl,wE k,j+1,rfl,qa,H,rfl,?_,v.2⟩;rw[SZ,qc jW];exact v.1};have l1:=X _ (aF (show j<AA d from qa));have D:AA (cC H)=AA H:=by simp
  rw[bB c,ab (by simp only[qw,qy,au,D];omega),ab qa,ab qa,qD,GH r _ _ l1 Y];simp only[qG];generalize hA:andK _ _=A;obtain⟨s,e,B,rfl,C⟩:∃s,A=AB s/\(∃B:A7,s=am.out B/\∃H,B=cC H/\OrdQ (dQ r d q) m (j+1) H):=by
   rw[<-hA]
   refine bS (λZ (y:A7×Int)=>∃a b,y.2=((AA a:Nat):Int)/\(AA a)<=Z/\H=a++b/\y.1=cC a++(j:Int)::cC b/\∀x∈b,dQ r d q j<dQ r d q x)
    (λB:A7=>∃H,B=cC H/\OrdQ (dQ r d q) m (j+1) H) (AA H) ⟨H,[],by simp only[D],we _,jV,rfl,λx n=>by cases n⟩ qa ?_ (λz g=>⟨_,rfl,z,rfl,g⟩)
   rintro Z ⟨l2,y2⟩ ⟨a,b,J,hik,f,u,U⟩;simp only at J u⊢;subst J;subst u;have S:AA H=AA a+AA b:=by rw[f,wV]
   have O:AA (cC a++(j:Int)::cC b)=AA a+1+AA b:=jZ;have t:(∀x∈a,dQ r d q x<=dQ r d q j)->∃I,cC a++(j:Int)::cC b=cC I/\OrdQ (dQ r d q) m (j+1) I:=λha=>by
    refine⟨a++j::b,jV,?_,?_⟩;{rw[SZ,qb (by simpa using c)];have C:=v.1;rw[f]at C;exact List.perm_middle.trans ((List.Perm.cons j C).trans (List.perm_append_singleton j _).symm)};have F:=v.2;rw[f]at F;obtain⟨p1,p2,p3⟩:=xF.1 F;refine xF.2 ⟨p1,xG.2 ⟨λx n=>.inl (U x n),p2⟩,λx n y Q=>?_⟩;rcases xH.1 Q with rfl|Q
    {have:=ha x n;have:=w x (by rw[f];exact List.mem_append_left _ n);unfold LtD;omega};exact p3 x n y Q
   by_cases h0:a=[];{subst h0;exact .inr (.inl ⟨_,rfl,t λx n=>by cases n⟩)};obtain⟨p,x,rfl⟩:∃p x,a=p++[x]:=⟨a.dropLast,a.getLast h0,(List.dropLast_concat_getLast h0).symm⟩;have M:AA (p++[x])=AA p+1:=by simp
   have n:=w x (by rw[f];simp);have R:=X _ (aF (show x<AA d from qa));have hg:AF (cC (p++[x])++(j:Int)::cC b) (AA p) qt=(x:Int):=by
    simp[qY]
   have N:AF (cC (p++[x])++(j:Int)::cC b) (AA p+1) qt=(j:Int):=by
    simp[qY]
   rw[M]at O⊢;rw[ai qa,wprd qa qa,Nat.add_sub_cancel,ab qa,qD,ab qa,hg,ab qa,qD,ab qa,GH r _ _ R Y];simp only[qG,ah];by_cases hd:dstV r (AF d j qt) q<dstV r (AF d x qt) q
   ·rw[ai hd,ab qa,ab qa,ab qa,qD,ab qa,ab qa,ab qa,ab (by rw[qZ];omega),ab (by rw[qZ];omega),N];refine .inl ⟨_,AA p,rfl,qa,p,x::b,rfl,we _,by rw[f];simp,?_,λz g=>?_⟩;{simp};rcases xH.1 g with rfl|g;{exact hd};exact U z g
   rw[aj hd];refine .inr (.inl ⟨_,rfl,t λz g=>?_⟩);rcases wC.1 g with g|g
   ·have F:=v.2;rw[f,wH]at F;have:=(xF.1 F).2.2 z g x jV;unfold LtD at this;unfold dQ at *
    omega
   simp at g;subst g;unfold dQ;omega
  rw[e,ah];exact .inl ⟨_,k,rfl,wE k,j+1,rfl,qa,C⟩
def newE (r:ao)(a:A8)(u v:Int):bD:=⟨u,v,dstV r (AF a u.toNat qt) (AF a v.toNat qt),0,⟨0,nl,⟨0,0,nl⟩,⟨0,nl,nl⟩⟩⟩
def hitE (u v:Int)(e:bD):Bool:=bif qu (e.U>u)then AD else bif e.U==u then qu (e.V>=v)else AE
def othE (u v:Int)(e:bD):Bool:=bif e.U !=u then AD else e.V !=v
def insF (n:bD):Ao->Ao
 |[]=>[n]
 |e::t=>bif hitE n.U n.V e then(bif othE n.U n.V e then n::e::t else e::t)else e::insF n t
theorem Gv (n:bD):∀l,AA (insF n l)<=AA l+1
 |[]=>we _
 |e::t=>by
  have:=Gv n t;unfold insF;cases hitE n.U n.V e<;>cases othE n.U n.V e<;>simp<;>omega
theorem agm (r:ao)(a:A8)(d:Ao)(u v:Int)(s:∀c∈a,AA c<4294967296)(H:AA d<=1000000)(I:0<=u/\u<(AA a:Int))(hv:0<=v/\v<(AA a:Int)):
 (OU r a d u v).o=AB (insF (newE r a (min u v) (max u v)) d):=by
 have F:=s _ (aF (show(min u v).toNat<AA a from qa));have E:=s _ (aF (show(max u v).toNat<AA a from qa));obtain⟨N,p⟩:∃N,N=newE r a (min u v) (max u v):=⟨_,rfl⟩;have n:(⟨min u v,max u v,dstV r (AF a (min u v).toNat qt) (AF a (max u v).toNat qt),0,⟨0,nl,⟨0,0,nl⟩,⟨0,nl,nl⟩⟩⟩:bD)=N:=p.symm;have t:N.U=min u v:=jX;have z:N.V=max u v:=jX;have B:=Gv N d;have f:∃x,(y7 r a d u v).run NN=AB x/\x=insF N d:=by
  simp only[y7,qj,GH r _ _ F E,qG,aS,ah,n]
  refine bS (λk (y:Ao×Bool×Int)=>∃j:Nat,y.2.2=(j:Int)/\j+k=AA d/\y.1++(if y.2.1=AD then d.drop j else insF N (d.drop j))=insF N d)
   (λy:Ao×Bool=>y.1++(if y.2=AD then []else [N])=insF N d) (AA d) ⟨0,rfl,qa,by rfl⟩ qa ?_ ?_
  ·rintro k ⟨l,i,y⟩ ⟨j,w,D,b⟩;simp only at w b⊢;subst w;have m:AA l<=1000001:=by
    grind
   cases k with
   |zero=>
    obtain rfl:j=AA d:=qa;refine .inr (.inl ⟨_,by rw[aj qa],?_⟩);rw[List.drop_length]at b;exact b
   |succ k=>
    have C:d.drop j=AF d j qt::d.drop (j+1):=by
     rw[xJ qa,qY,xa qa,Option.getD_some]
    rw[C]at b;rw[ai qa,ab qa,ab qa,qD,wn qa];generalize AF d j qt=e at b⊢;have A:(bif qu (e.U>min u v)then AD else bif e.U==min u v then qu (e.V>=max u v)else AE)=hitE N.U N.V e:=by rw[t,z];rfl
    have ho:(bif e.U !=min u v then AD else e.V !=max u v)=othE N.U N.V e:=by rw[t,z];rfl
    simp only[A,ho];cases i with
    |true=>
     simp only[qH,qd,ah];rw[ab (by simp only[qw,qy,au];omega)];refine .inl ⟨_,k,rfl,wE k,j+1,rfl,qa,?_⟩;simp only[if_true,wH]at b⊢;exact b
    |false=>
     simp only[wI,qe];simp only[insF]at b;cases h:hitE N.U N.V e with
     |false=>
      rw[h]at b;simp only[qd,ah];rw[ab (by simp only[qw,qy,au];omega)];refine .inl ⟨_,k,rfl,wE k,j+1,rfl,qa,?_⟩;simpa using b
     |true=>
      rw[h]at b;simp only[qe];cases g:othE N.U N.V e with
      |false=>
       rw[g]at b;simp only[qd,ah];rw[ab (by simp only[qw,qy,au];omega)];refine .inl ⟨_,k,rfl,wE k,j+1,rfl,qa,?_⟩;simpa using b
      |true=>
       rw[g]at b;simp only[qe]
       rw[ab qa,ab qa,ab qa,ab qa,ab (by simp only[qw,qy,au];omega),ah,
        ab (by simp only[wV,qw,qy,au];omega)]
       refine .inl ⟨_,k,rfl,wE k,j+1,rfl,qa,?_⟩;simpa using b
  rintro⟨l,i⟩ b;simp only at b⊢;have m:AA l<=1000001:=by
   have:=congrArg List.length b;rw[wV]at this;omega
  cases i with
  |true=>
   exact⟨_,rfl,by simpa using b⟩
  |false=>
   simp only[wI,qe];rw[ab qa,ab qa,ab qa,ab qa,ab (by simp only[qw,qy,au];omega),ah];exact⟨_,rfl,by simpa using b⟩
 obtain⟨x,h,g⟩:=f;rw[<-p,<-g];exact h
theorem h7 {a b:bD}:ltE a b=AD↔a.U<b.U\/(a.U=b.U/\a.V<b.V):=by grind[ltE]
theorem hitE_iff {n e:bD}:hitE n.U n.V e=AD↔¬ltE e n=true:=by grind[h7,hitE]
theorem othE_iff {n e:bD}:othE n.U n.V e=AD↔¬ (e.U=n.U/\e.V=n.V):=by grind[othE]
abbrev SoE (l:Ao):Prop:=l.Pairwise λa b=>ltE a b=AD
theorem Gw (n:bD):∀l,SoE l->∀e,e∈insF n l↔e∈l\/(e=n/\∀x∈l,¬ (x.U=n.U/\x.V=n.V))
 |[],_,e=>by simp[insF]
 |x::t,m,e=>by
  obtain⟨k,j⟩:=xG.1 m;have o:=Gw n t j e;unfold insF;cases d:hitE n.U n.V x with
  |false=>
   have g:ltE x n=true:=by
    refine xK λh=>?_
    rw[hitE_iff.2 h]at d;cases d
   simp only[qd,xH,o];rw[h7]at g;constructor
   ·rintro(h|h|⟨h,c⟩);{exact .inl (.inl h)};{exact .inl (.inr h)};refine .inr ⟨h,λy a=>?_⟩;rcases a with rfl|a
    {omega};exact c y a
   rintro((h|h)|⟨h,c⟩);{exact .inl h};{exact .inr (.inl h)};exact .inr (.inr ⟨h,λy a=>c y (.inr a)⟩)
  |true=>
   have g:=hitE_iff.1 d;cases f:othE n.U n.V x with
   |false=>
    have b:x.U=n.U/\x.V=n.V:=by
     refine xK λh=>?_
     rw[othE_iff.2 h]at f;cases f
    refine⟨λh=>.inl h,λh=>?_⟩;rcases h with h|⟨h,c⟩
    {exact h};exact absurd b (c x (List.mem_cons_self ..))
   |true=>
    have b:=othE_iff.1 f;simp only[qe,xH];constructor
    ·rintro(h|h|h)
     ·refine .inr ⟨h,λy a=>?_⟩;rcases a with rfl|a
      {exact b};have:=k y a;rw[h7]at this g;omega
     {exact .inl (.inl h)};exact .inl (.inr h)
    rintro((h|h)|⟨h,-⟩);{exact .inr (.inl h)};{exact .inr (.inr h)};exact .inl h
theorem TI (n:bD):∀l,SoE l->SoE (insF n l)
 |[],_=>List.pairwise_singleton ..
 |x::t,d=>by
  obtain⟨g,i⟩:=xG.1 d;have j:=TI n t i;have k:=Gw n t i;unfold insF;cases e:hitE n.U n.V x with
  |false=>
   have c:ltE x n=true:=by
    refine xK λh=>?_
    rw[hitE_iff.2 h]at e;cases e
   refine xG.2 ⟨λy a=>?_,j⟩;rcases(k y).1 a with a|⟨rfl,-⟩
   {exact g y a};exact c
  |true=>
   have c:=hitE_iff.1 e;cases o:othE n.U n.V x with
   |false=>exact d
   |true=>
    have m:=othE_iff.1 o;have b:ltE n x=true:=by rw[h7]at c⊢;omega
    refine xG.2 ⟨λy a=>?_,d⟩;rcases xH.1 a with rfl|a
    {exact b};have:=g y a;rw[h7]at this b⊢;omega
def MapE (r:ao)(P:A8)(S:Nat->Nat->Prop)(c:Ao):Prop:=SoE c/\∀e,e∈c↔∃a b:Nat,a<b/\b<AA P/\S a b/\e=newE r P a b
variable {r:ao}
theorem MapE.congr{P:A8}{S i:Nat->Nat->Prop}{j:Ao}(h:MapE r P S j)(k:∀a b,a<b->b<AA P->(S a b↔i a b)):MapE r P i j:=
 ⟨h.1,λe=>(h.2 e).trans ⟨λ⟨a,b,c,d,g,f⟩=>⟨a,b,c,d,(k a b c d).1 g,f⟩,λ⟨a,b,c,d,g,f⟩=>⟨a,b,c,d,(k a b c d).2 g,f⟩⟩⟩
theorem MapE.nil (r:ao)(P:A8):MapE r P (λ_ _=>False) []:=⟨List.Pairwise.nil,λe=>⟨λh=>(by cases h),λ⟨_,_,_,_,h,_⟩=>h.elim⟩⟩
theorem MapE.ins{P:A8}{S:Nat->Nat->Prop}{i:Ao}(h:MapE r P S i){x y:Nat}(q:x<y)(p:y<AA P):MapE r P (λa b=>S a b\/(a=x/\b=y)) (insF (newE r P x y) i):=by
 refine⟨TI _ _ h.1,λe=>(Gw _ _ h.1 e).trans ⟨?_,?_⟩⟩
 ·rintro(l|⟨rfl,-⟩)
  ·obtain⟨a,b,f,d,g,c⟩:=(h.2 e).1 l;grind
  grind
 rintro⟨a,b,f,d,g|⟨rfl,rfl⟩,c⟩;{exact .inl ((h.2 e).2 ⟨a,b,f,d,g,c⟩)};by_cases j:S a b;{exact .inl ((h.2 e).2 ⟨a,b,f,d,j,c⟩)};refine .inr ⟨c,λz k n=>?_⟩;obtain⟨u,o,m,s,t,rfl⟩:=(h.2 z).1 k;grind[newE]
def cntD (d:Nat->Int)(a:Int)(n v:Nat):Nat:=AA ((ixs a n).filter λw=>qu (d w<d v\/(d w=d v/\w<v)))
theorem mem_ixs {a:Int}{n v:Nat}:v∈ixs a n↔v<n/\(v:Int)≠a:=by unfold ixs;simp
theorem FH {d:Nat->Int}{c:Int}{n:Nat}{o:List Nat}(h:OrdQ d c n o){v:Nat}(e:v∈o):∃a b,o=a++v::b/\(AA a)=cntD d c n v/\¬v∈a:=by
 obtain⟨a,b,rfl⟩:=List.append_of_mem e;obtain⟨i,f⟩:=h;obtain⟨k,g,j⟩:=xF.1 f;have l:=(xG.1 g).1;refine⟨a,b,rfl,?_,λm=>?_⟩
 ·unfold cntD;rw[<-(i.filter _).length_eq,List.filter_append,List.filter_cons];grind[List.filter_eq_self,List.filter_eq_nil_iff,LtD]
 grind[LtD]
theorem Dz {d:Nat->Int}{e:Int}{n:Nat}{p:List Nat}(h:OrdQ d e n p){v i:Nat}:v∈p.take i↔v∈ixs e n/\cntD d e n v<i:=by
 constructor
 ·intro f;have c:=xL f;refine⟨h.1.mem_iff.1 c,?_⟩;grind[FH]
 rintro⟨g,k⟩;obtain⟨a,b,rfl,j,l⟩:=FH h (h.1.mem_iff.2 g);rw[List.take_append];obtain⟨m,o⟩:∃m,i-AA a=m+1:=⟨i-AA a-1,qa⟩;simp_all
theorem Uk {d:Nat->Int}{c:Int}{n:Nat}{k:List Nat}(h:OrdQ d c n k){v:Nat}(e:v∈ixs c n):cntD d c n v<AA k:=by obtain⟨a,b,rfl,f,g⟩:=FH h (h.1.mem_iff.2 e);simp_all
def cP (r:ao)(P:A8)(k:Int)(u v:Nat):Prop:=v∈ixs (u:Int) (AA P)/\(cntD (dQ r P (AF P u qt)) (u:Int) (AA P) v:Int)<k
def fH (r:ao)(P:A8)(k:Int)(a b:Nat):Prop:=cP r P k a b\/cP r P k b a
theorem af1 (l:A8)(c:A7)(a:AA l<4294967296)(b:∀x∈l,AA x<4294967296):∃z,(Mi l c).o=AB z/\qu (z<0)= !memB l c:=by obtain⟨z,e,d⟩:=af0 l c a b;grind
theorem tp (r:ao)(d:A8)(k:Int)(hp:AA d<=1000)(hn:∀c∈d,AA c<4294967296):
 ∃m,(lZ r d k).o=AB m/\(aQ r≠0->m=⟨[],[]⟩)/\(aQ r=0->m.Xc=disL r d (AA d)/\∃f,m.Xa=f.take 8192/\(AA f)<=AA m.Xc * AA m.Xc/\MapE r m.Xc (fH r m.Xc k) f):=by
 show ∃m,(y5 r d k).run NN=AB m/\_;have er:(⟨r.Xb,r.Xl⟩:ao)=r:=rfl;simp only[y5,qj,er,gO,nH,qG];by_cases C:aQ r≠0;{rw[bJ C];exact⟨_,rfl,λ_=>rfl,λh=>absurd h C⟩};have C:aQ r=0:=Classical.not_not.1 C;rw[aJ C]
 refine bS (x:=((nl:A8),(0:Int))) (P:=λm:aw=>(aQ r≠0->m=⟨[],[]⟩)/\(aQ r=0->m.Xc=disL r d (AA d)/\∃f,m.Xa=f.take 8192/\(AA f)<=AA m.Xc * AA m.Xc/\MapE r m.Xc (fH r m.Xc k) f))
  (λm (y:A8×Int)=>∃j:Nat,y.2=(j:Int)/\j+m=AA d/\y.1=disL r d j) (λz:A8=>z=disL r d (AA d)) (AA d) ⟨0,rfl,qa,rfl⟩ qa ?_ ?_
 ·rintro m ⟨l,y⟩ ⟨j,Y,hjm,hl⟩;simp only at Y hl⊢;subst Y;subst hl;have Z:=k0 r d j;cases m with
  |zero=>
   grind[ah]
  |succ m=>
   have S:=iW r d j;have hs:disL r d (j+1)=if aI r (AF d j qt)=AD/\¬AF d j qt∈disL r d j then disL r d j++[AF d j qt]else disL r d j:=rfl
   have O:=hn _ (aF (show j<AA d from qa));rw[ai qa,qg (p:=(AA (disL r d j):Int)<1024) qa,ah];simp only[qe];rw[ab qa,wn qa,qD];generalize AF d j qt=c at hs O⊢;cases A:aI r c with
   |false=>
    simp only[qd,ah];refine .inl ⟨_,m,rfl,wE m,j+1,rfl,qa,?_⟩;simp_all
   |true=>
    obtain⟨z,z1,z2⟩:=af1 (disL r d j) c qa (λx hx=>by have:=ec (S x hx);omega);simp only[qe];rw[ab qa,z1];simp only[qG,ah,z2];by_cases hm:c∈disL r d j
    ·have:memB (disL r d j) c=true:=qg hm;rw[this];simp only[qH,qd,ah];refine .inl ⟨_,m,rfl,wE m,j+1,rfl,qa,?_⟩;simp_all
    have:memB (disL r d j) c=false:=qh hm;rw[this];simp only[wI,qe];rw[ab qa,ab (by rw[au];omega),ab (by grind[au]),ah];refine .inl ⟨_,m,rfl,wE m,j+1,rfl,qa,?_⟩;simp_all
 rintro P N;have J:AA P<=1000:=by have:=k0 r d (AA d);rw[N];omega
 have H:∀c∈P,AA c<4294967296:=λc O=>by rw[N]at O;have:=ec (iW r d _ c O);omega
 refine bS (x:=((nl:Ao),(0:Int))) (P:=λm:aw=>(aQ r≠0->m=⟨[],[]⟩)/\(aQ r=0->m.Xc=disL r d (AA d)/\∃f,m.Xa=f.take 8192/\(AA f)<=AA m.Xc * AA m.Xc/\MapE r m.Xc (fH r m.Xc k) f))
  (λm (y:Ao×Int)=>∃u:Nat,y.2=(u:Int)/\u+m=AA P/\(AA y.1)<=AA P * u/\MapE r P (λa b=>(a<u/\cP r P k a b)\/(b<u/\cP r P k b a)) y.1)
  (λf:Ao=>AA f<=AA P * AA P/\MapE r P (fH r P k) f) (AA P) ⟨0,rfl,qa,by simp[nl],(MapE.nil r P).congr λa b _ _=>jV⟩ qa ?_ ?_
 ·rintro m ⟨f,y⟩ ⟨u,hu,hum,q,n⟩;simp only at hu q n⊢;subst hu;cases m with
  |zero=>
   obtain rfl:u=AA P:=qa;rw[aj qa];exact .inr (.inl ⟨_,rfl,q,n.congr λa b A I=>by unfold fH;constructor<;>rintro(h|h)<;>first|exact .inl h.2|exact .inr h.2|exact .inl ⟨qa,h⟩|exact .inr ⟨qa,h⟩⟩)
  |succ m=>
   rw[ai qa,ab qa,qD,ab qa,wn qa];obtain⟨l,e1,D,rfl,ho⟩:=Sz r P (AF P u qt) (u:Int) J H (H _ (aF qa));rw[e1];simp only[qG];have hnl:AA D<=AA P:=by
    rw[ho.1.length_eq];unfold ixs;exact xC (List.length_filter_le _ _) jV
   suffices Q:∃s,_=AB s/\(∃g:Ao,s=am.next (g,((u+1:Nat):Int))/\(AA g)<=AA P * (u+1)/\MapE r P (λa b=>(a<u+1/\cP r P k a b)\/(b<u+1/\cP r P k b a)) g) by
    obtain⟨s,e,g,rfl,k1,k2⟩:=Q;exact .inl ⟨_,m,e,wE m,u+1,rfl,qa,k1,k2⟩
   refine bS (λX (y:Ao×Int)=>∃i:Nat,y.2=(i:Int)/\i+X=AA D/\((i:Int)<=k\/i=0)/\(AA y.1)<=AA P * u+i/\MapE r P (λa b=>((a<u/\cP r P k a b)\/(b<u/\cP r P k b a))\/(a=u/\b∈D.take i)\/(b=u/\a∈D.take i)) y.1)
    (λg:Ao=>AA g<=AA P * (u+1)/\MapE r P (λa b=>(a<u+1/\cP r P k a b)\/(b<u+1/\cP r P k b a)) g) (AA D) ⟨0,rfl,qa,.inr rfl,j8,n.congr λa b _ _=>jV⟩ qa ?_ (λz hz=>⟨_,rfl,z,rfl,hz⟩)
   rintro X ⟨w,y2⟩ ⟨i,Q,him,hik,M,t⟩;simp only at Q M t⊢;subst Q;have hcl:AA (cC D)=AA D:=jV;have hsq:AA P * u<=1000 * 990+10000-1000:=by
    have A:AA P * u<=AA P * (AA P-1):=Nat.mul_le_mul_left _ qa;have I:AA P * (AA P-1)<=1000 * 999:=Nat.mul_le_mul J qa;omega
   have B:(i=AA D\/k<=(i:Int))->AA w<=AA P * (u+1)/\MapE r P (λa b=>(a<u+1/\cP r P k a b)\/(b<u+1/\cP r P k b a)) w:=λhs=>by
    have key:∀v,v∈D.take i↔cP r P k u v:=λv=>by
     rw[Dz ho];unfold cP;constructor;{rintro⟨A,I⟩;exact⟨A,qa⟩};rintro⟨A,I⟩;have:=Uk ho A;exact⟨A,qa⟩
    refine⟨by rw[Nat.mul_succ];omega,t.congr λa b A I=>?_⟩;rw[key,key];constructor
    ·rintro((h|h)|⟨rfl,h⟩|⟨rfl,h⟩);{exact .inl ⟨qa,h.2⟩};{exact .inr ⟨qa,h.2⟩};{exact .inl ⟨qa,h⟩};exact .inr ⟨qa,h⟩
    rintro(⟨h,h'⟩|⟨h,h'⟩)
    ·by_cases e:a=u;{subst e;exact .inr (.inl ⟨rfl,h'⟩)};exact .inl (.inl ⟨qa,h'⟩)
    by_cases e:b=u;{subst e;exact .inr (.inr ⟨rfl,h'⟩)};exact .inl (.inr ⟨qa,h'⟩)
   by_cases R:i<AA D
   ·by_cases c2:(i:Int)<k
    ·have hv:=aF R;have hvx:=mem_ixs.1 (ho.1.mem_iff.1 hv);have hg:=RG R;rw[ai qa,qg c2,ah];simp only[qe];rw[ab qa,qD,hg,agm r P w u _ H qa qa qa,wn qa];simp only[qG];have hil:=Gv (newE r P (min (u:Int) ((AF D i qt:Nat):Int)) (max (u:Int) ((AF D i qt:Nat):Int))) w;have ht:D.take (i+1)=D.take i++[AF D i qt]:=cS R;refine .inl ⟨_,X-1,rfl,qa,i+1,rfl,qa,.inl qa,j8,?_⟩;simp only;rw[ht];generalize AF D i qt=v at *
     have U:min (u:Int) (v:Int)=((min u v:Nat):Int):=qa;have V:max (u:Int) (v:Int)=((max u v:Nat):Int):=qa;rw[U,V];refine(t.ins (x:=min u v) (y:=max u v) qa qa).congr λa b A I=>?_
     simp only[wC,wD];constructor
     ·rintro((h|⟨rfl,h⟩|⟨rfl,h⟩)|h);{exact .inl h};{exact .inr (.inl ⟨rfl,.inl h⟩)};{exact .inr (.inr ⟨rfl,.inl h⟩)};by_cases huv:u<v;{exact .inr (.inl ⟨qa,.inr qa⟩)};exact .inr (.inr ⟨qa,.inr qa⟩)
     rintro(h|⟨rfl,h|h⟩|⟨rfl,h|h⟩);{exact .inl (.inl h)};{exact .inl (.inr (.inl ⟨rfl,h⟩))};{exact .inr qa};{exact .inl (.inr (.inr ⟨rfl,h⟩))};exact .inr qa
    rw[ai qa,qh c2,ah];exact .inr (.inl ⟨_,rfl,B (.inr qa)⟩)
   rw[aj qa,ah];exact .inr (.inl ⟨_,rfl,B (.inl qa)⟩)
 rintro f ⟨q,n⟩;by_cases h:((AA f:Nat):Int)>8192;{rw[ai h,ab qa,ah];exact⟨_,rfl,λh=>absurd C h,λ_=>⟨N,f,rfl,q,n⟩⟩};rw[aj h,ah];exact⟨_,rfl,λh=>absurd C h,λ_=>⟨N,f,(xM j8).symm,q,n⟩⟩
def PieB (x:aE):Prop:=AA x.Xf<4294967296
def ResM (x:bR):Prop:=(AA x.Xs<4294967296/\∀c∈x.Xs,PieB c)/\PieB x.At/\(AA x.Xq.Left)<4294967296/\(AA x.Xq.XL)<4294967296
theorem ajn (r:ao)(P:A8)(a b:Int):ResM (newE r P a b).XA:=
 ⟨⟨(by show(0:Nat)<4294967296;decide),λc e=>(by cases e)⟩,(by show(0:Nat)<4294967296;decide),(by show(0:Nat)<4294967296;decide),(by show(0:Nat)<4294967296;decide)⟩
theorem aee (l:A8)(h:AA l<4294967296):(uC l).o=AB l:=fe qa jU
theorem acn (l:Ao)(h:AA l<100000):(Vx l).o=AB l:=fe qa jU
theorem abi (l:Ar)(h:AA l<4294967296):(uA l).o=AB l:=fe qa jU
theorem QZ (l:List (Int×Int×Int))(h:AA l<4294967296):(np l).o=AB l:=fe qa jU
theorem s9 {α:Type}[Inhabited α](l:List α){i:Nat}(h:i<AA l):l.set i (AF l i qt)=l:=by
 refine mI jV λj a=>?_
 rw[qZ]at a;rw[ow h];split;{rename_i e;rw[e]};rfl
theorem Bh (x:bR)(h:ResM x):(pw x).o=AB x:=by obtain⟨⟨h1,b⟩,c,e,f⟩:=h;show(I9 x).run NN=_;simp only[I9,qj,abi _ h1,qG];refine(aO (λj=>(x.Xs,(j:Int))) x.Xs (AA x.Xs) rfl h1 (λj a=>?_) (by dsimp only;rw[aj qa])).trans ?_;{dsimp only;have g:=b _ (aF a);rw[ai qa,ab qa,ab qa,qD,QZ _ g];simp only[qG];rw[ab qa,ab qa,wn qa];have:(⟨(AF x.Xs j qt).Xg,(AF x.Xs j qt).Xj,(AF x.Xs j qt).Xf⟩:aE)=AF x.Xs j qt:=rfl;rw[this,s9 _ a]};rw[QZ _ c,oG _ e,oG _ f];rfl
theorem ahD (m:aw)(h1:AA m.Xc<4294967296)(b:∀c∈m.Xc,AA c<4294967296)(f:AA m.Xa<100000)(g:∀e∈m.Xa,ResM e.XA):(Og m).o=AB (m.Xc,m.Xa):=by show(Mr m).run NN=_;simp only[Mr,qj,aee _ h1,acn _ f,qG];refine(aO (λj=>(m.Xc,(j:Int))) m.Xc (AA m.Xc) rfl h1 (λj a=>?_) (by dsimp only;rw[aj qa])).trans ?_;{dsimp only;rw[ai qa,ab qa,ab qa,qD,oG _ (b _ (aF a))];simp only[qG];rw[ab qa,ab qa,wn qa,s9 _ a]};refine(aO (λj=>(m.Xa,(j:Int))) m.Xa (AA m.Xa) rfl (by show _<4294967296;omega) (λj a=>?_) (by dsimp only;rw[aj qa])).trans rfl;dsimp only;rw[ai qa,ab qa,ab qa,qD,Bh _ (g _ (aF a))];simp only[qG];rw[ab qa,ab qa,wn qa];have:(⟨(AF m.Xa j qt).U,(AF m.Xa j qt).V,(AF m.Xa j qt).Xh,(AF m.Xa j qt).Xo,(AF m.Xa j qt).XA⟩:bD)=AF m.Xa j qt:=rfl;rw[this,s9 _ a]
theorem adg (l:A8)(h:AA l<4294967296):(V5 l).o=AB l:=fe qa jU
theorem abh (E:Ao)(i n:Nat)(h0:0<AA E)(hl:AA E<100000)(a:i+n<=AA E):(Vv E i n).o=AB ((E.drop i).take n):=by show(H3 E i n).run NN=_;simp only[H3,qj];rw[ab h0,ab ⟨by simp only[qy];omega,by simp only[qy,au];omega,a⟩];rfl
theorem adp {E:Ao}{i:Nat}(h:i<AA E):(E.drop i).take 1=[AF E i qt]:=by rw[xJ h,List.take_succ_cons,List.take_zero,qY,xa h];rfl
theorem afF (P:A8)(E:Ao)(i:Nat)(h1:AA P<4294967296)(g:∀c∈P,AA c<4294967296)(f:i<AA E)(k:AA E<100000)(m:∀e∈E,ResM e.XA):
 (Nh P E i 1).o=AB (P,[AF E i qt]):=by
 show(KL P E i 1).run NN=_;simp only[KL,qj,adg _ h1,abh E i 1 qa k qa,qG,adp f];have b:ResM (AF E i qt).XA:=m _ (aF f);generalize AF E i qt=x at b⊢;refine(aO (λj=>(P,(j:Int))) P (AA P) rfl h1 (λj a=>?_) (by dsimp only;rw[aj qa])).trans ?_;{dsimp only;rw[ai qa,ab qa,ab qa,qD,oG _ (g _ (aF a))];simp only[qG];rw[ab qa,ab qa,wn qa,s9 _ a]};have hl:[x].length=1:=rfl;refine(aO (λj=>([x],(j:Int))) [x] [x].length rfl (by rw[hl];decide) (λj a=>?_) (by dsimp only;rw[aj qa])).trans rfl;dsimp only;obtain rfl:j=0:=by rw[hl]at a;omega
 have p:[x].getD 0 qt=x:=rfl;rw[ai qa,ab qa,ab qa,qD,p,Bh _ b];simp only[qG];rw[ab qa,ab qa,wn qa];rfl
def stV (k:Int):Int:=if k=1 then 1 else if k=2 then 2 else 3
def iq (x:bD)(r:bR):bD:=⟨x.U,x.V,x.Xh,stV r.Xk,r⟩
theorem aib (P:A8)(E:Ao)(i:Nat)(h1:AA P<4294967296)(H:∀c∈P,AA c<4294967296)(w:i<AA E)(I:AA E<100000)(J:∀e∈E,ResM e.XA)
 (z:(AF E i qt).Xo=0) {r:bR} (M:ResM r) (hk:r.Xk=0\/r.Xk=1\/r.Xk=2):
 (Lt P E i 1 0 r).o=AB (P,[iq (AF E i qt) r],AD):=by
 suffices h:∃y,(Lu P E i 1 0 r).run NN=AB y/\y=(P,[iq (AF E i qt) r],AD) by
  obtain⟨y,a,b⟩:=h;rw[<-b];exact a
 have D:(0:Int).toNat=0:=rfl;simp only[Lu,qj,afF P E i h1 H w I J,qG,D,xN];rw[aj qa,ah,qh qa];simp only[qd];have B:((AF E i qt).Xo==1)=false:=by rw[z];rfl
 have C:((AF E i qt).Xo==2)=false:=by rw[z];rfl
 rw[ab qa,ab w,B,C];simp only[qd,ah,Bh r M,qG];generalize AF E i qt=x;have N:(rz 1).o=AB 1:=rfl;have O:(rz 2).o=AB 2:=rfl;have Q:(rz 3).o=AB 0:=rfl;have hl:AA ([1,2,3]:A7)=3:=rfl;refine bS (P:=λy:A8×Ao×Bool=>y=(P,[iq x r],AD)) (λm (y:Int)=>∃t:Nat,y=(t:Int)/\t+m=3/\t<=2/\(1<=t->r.Xk≠1)/\(2<=t->r.Xk≠2)) (λ_=>False) 3 ⟨0,rfl,rfl,qa,qa,qa⟩ jU ?_ (λ_ h=>h.elim);rintro m y ⟨t,rfl,S,X,A,R⟩;rw[ai (by rw[hl];omega),ab (by rw[hl];omega),qD,ab (by rw[hl];omega),wn qa];have fin:∀s:Int,s=stV r.Xk->(P,([x].set 0 ⟨([x].getD 0 qt).U,([x].getD 0 qt).V,([x].getD 0 qt).Xh,s,([x].getD 0 qt).XA⟩).set 0 ⟨(AF ([x].set 0 ⟨([x].getD 0 qt).U,([x].getD 0 qt).V,([x].getD 0 qt).Xh,s,([x].getD 0 qt).XA⟩) 0 qt).U,(AF ([x].set 0 ⟨([x].getD 0 qt).U,([x].getD 0 qt).V,([x].getD 0 qt).Xh,s,([x].getD 0 qt).XA⟩) 0 qt).V,(AF ([x].set 0 ⟨([x].getD 0 qt).U,([x].getD 0 qt).V,([x].getD 0 qt).Xh,s,([x].getD 0 qt).XA⟩) 0 qt).Xh,(AF ([x].set 0 ⟨([x].getD 0 qt).U,([x].getD 0 qt).V,([x].getD 0 qt).Xh,s,([x].getD 0 qt).XA⟩) 0 qt).Xo,r⟩,AD)=(P,[iq x r],AD):=λs h=>by
  subst h;rfl
 have p:t=0\/t=1\/t=2:=qa;have k:[x].length=1:=rfl;rcases p with rfl|rfl|rfl
 ·have g:AF ([1,2,3]:A7) 0 qt=1:=rfl;rw[g,N];simp only[qG];by_cases f:r.Xk=1;{rw[bK f.symm,ab (by rw[k];omega),ab (by rw[k];omega),ab (by rw[qZ,k];omega),ab (by rw[qZ,k];omega)];exact .inr (.inr ⟨_,rfl,fin 1 (by rw[f];rfl)⟩)};rw[bB (Ne.symm f)];exact .inl ⟨_,m-1,rfl,qa,1,rfl,qa,qa,λ_=>f,λh=>qa⟩
 ·have g:AF ([1,2,3]:A7) 1 qt=2:=rfl;rw[g,O];simp only[qG];by_cases f:r.Xk=2;{rw[bK f.symm,ab (by rw[k];omega),ab (by rw[k];omega),ab (by rw[qZ,k];omega),ab (by rw[qZ,k];omega)];exact .inr (.inr ⟨_,rfl,fin 2 (by rw[f];rfl)⟩)};rw[bB (Ne.symm f)];exact .inl ⟨_,m-1,rfl,qa,2,rfl,qa,qa,λ_=>A qa,λ_=>f⟩
 have g:AF ([1,2,3]:A7) 2 qt=3:=rfl;have f:r.Xk=0:=by
  have:=A qa;have:=R qa;omega
 rw[g,Q];simp only[qG];rw[bK f.symm,ab (by rw[k];omega),ab (by rw[k];omega),ab (by rw[qZ,k];omega),ab (by rw[qZ,k];omega)];exact .inr (.inr ⟨_,rfl,fin 3 (by rw[f];rfl)⟩)
theorem Q9 (P:A8)(E:Ao)(i n:Nat){v:Int}(h0:0<=v)(h1:v<(AA P:Int)):(Ka P E i n v).o=AB true:=by show(Kb P E i n v).run NN=_;simp only[Kb,qj];rw[ai h0,qg h1]
theorem UH {s:ak}{p q:A7}{d:Int}{r:bR}(h:ProveOk s p q d r):ResM r:=by obtain⟨e,a⟩:=h.bd;obtain⟨f,g⟩:=h.lens;refine⟨⟨qa,λc b=>?_⟩,?_,qa,qa⟩;{have:=a c b;show AA c.Xf<4294967296;omega};show AA r.At.Xf<4294967296;rw[h.norm];decide
def pvR (s:ak)(p q:A7)(d:Int):bR:=match(l9 s p q d).o with|some r=>r|none=>qt
theorem uu (s:ak)(p q:A7)(b:AA p<4294967296)(c:AA q<4294967296){d:Int}(h0:0<=d)(h20:d<=20):(l9 s p q d).o=AB (pvR s p q d)/\ProveOk s p q d (pvR s p q d):=by
 obtain⟨r,h1,a⟩:=FN s p q b c h0 h20;have:pvR s p q d=r:=by unfold pvR;rw[h1]
 rw[this];exact⟨h1,a⟩
def tstE (s:ak)(P:A8)(d:Int)(x:bD):bD:=iq x (pvR s (AF P x.U.toNat qt) (AF P x.V.toNat qt) d)
theorem ajN (s:ak)(P:A8)(E:Ao)(i:Nat)(h1:AA P<4294967296)(a:∀c∈P,AA c<4294967296)(k:i<AA E)(A:AA E<100000)(B:∀e∈E,ResM e.XA)
 (g:(AF E i qt).Xo=0) (b:0<=(AF E i qt).U/\(AF E i qt).U<(AA P:Int)) (f:0<=(AF E i qt).V/\(AF E i qt).V<(AA P:Int)) {d:Int} (h0:0<=d) (h20:d<=20):
 (PI s P E i 1 0 d).o=AB (P,[tstE s P d (AF E i qt)],AD):=by
 show(CT s P E i 1 0 d).run NN=_;have z:(⟨s.Xe,s.Xd,s.Xi⟩:ak)=s:=rfl;have w:(0:Int).toNat=0:=rfl;simp only[CT,qj,z,w,xN,Q9 P E i 1 b.1 b.2,Q9 P E i 1 f.1 f.2,qG];rw[aj qa,ah,qh qa];simp only[qd,qH];have p:((AF E i qt).Xo==1)=false:=by rw[g];rfl
 have r:((AF E i qt).Xo==2)=false:=by rw[g];rfl
 obtain⟨C,m⟩:=uu s (AF P (AF E i qt).U.toNat qt) (AF P (AF E i qt).V.toNat qt) (a _ (aF qa)) (a _ (aF qa)) h0 h20;rw[ab qa,ab k,p,r];simp only[qd,ah];rw[ab b,ab qa,ab f,ab qa,C];simp only[qG];rw[aib P E i h1 a k A B g (UH m) m.kind];rfl
def nxV (P:A8)(x y:Int)(E:Ao):Int×A7×Int×Int:=match(nU ⟨P,E⟩ x y).o with|some r=>(r.1,r.2.1.Xp,r.2.1.Xh,r.2.2)|none=>qt
structure NxOk (P:A8) (E:Ao) (r:Int×A7×Int×Int):Prop where
 st:r.2.2.2=0\/r.2.2.2=1\/r.2.2.2=2\/r.2.2.2=3
 ed:r.2.2.2=3->0<=r.1/\r.1<(AA E:Int)/\(AF E r.1.toNat qt).Xo=0/\gy (AA P) (AF E r.1.toNat qt)
 len:AA r.2.1<=101
theorem nh {P:A8}(x y:Int){E:Ao}(j:cX ⟨P,E⟩):(nU ⟨P,E⟩ x y).o=AB ((nxV P x y E).1,⟨(nxV P x y E).2.1,(nxV P x y E).2.2.1⟩,(nxV P x y E).2.2.2)/\NxOk P E (nxV P x y E)/\NextP ⟨P,E⟩ x y ((nxV P x y E).1,⟨(nxV P x y E).2.1,(nxV P x y E).2.2.1⟩,(nxV P x y E).2.2.2):=by
 obtain⟨⟨e,⟨k,c⟩,q⟩,g,a⟩:=adN ⟨P,E⟩ x y j jU;have m:nxV P x y E=(e,k,c,q):=by unfold nxV;rw[g]
 have b:=a.len j;rw[m];refine⟨g,⟨?_,λh=>?_,b⟩,a⟩
 ·rcases a with⟨_,h⟩|⟨_,n,_,⟨_,h⟩|⟨_,h⟩⟩;{simp_all};{simp_all};rcases h with⟨h,_⟩|⟨_,_,_,_,_,h,_⟩<;>simp only[Prod.mk.injEq]at h
  all_goals simp_all
 subst h;rcases a with⟨_,h⟩|⟨p,n,_,⟨_,h⟩|⟨_,h⟩⟩
 {cases h};{cases h};rcases h with⟨h,_⟩|⟨i,f,r,l,d,h,_⟩<;>simp only[Prod.mk.injEq]at h
 {omega};obtain⟨rfl,-,-⟩:=h;have b:f<AA E:=l.1;refine⟨qa,qa,d,?_⟩;exact(p.1 f b).1
theorem agN {P:A8}(x y:Int){E:Ao}(a:cX ⟨P,E⟩):(rS ⟨P,E⟩ x y).o=AB (nxV P x y E):=by obtain⟨r,c,b⟩:=ahs ⟨P,E⟩ x y a jU;obtain⟨-,-,h⟩:=nh x y a;rw[c,b.unique h]
def stE (s:ak)(P:A8)(x y d:Int)(E:Ao):Ao:=
 E.set (nxV P x y E).1.toNat (tstE s P d (AF E (nxV P x y E).1.toNat qt))
def itE (s:ak)(P:A8)(x y d:Int)(E:Ao):Nat->Ao
 |0=>E
 |n+1=>stE s P x y d (itE s P x y d E n)
theorem TL (s:ak)(P:A8)(x y d:Int)(E:Ao)(a:Nat):∀b,itE s P x y d (itE s P x y d E a) b=itE s P x y d E (a+b)
 |0=>rfl
 |b+1=>by
  show stE s P x y d (itE s P x y d (itE s P x y d E a) b)=stE s P x y d (itE s P x y d E (a+b));rw[TL s P x y d E a b]
structure LzOk (P:A8) (n:Nat) (E:Ao):Prop where
 len:AA E=n
 n200:n<=200
 p100:AA P<=100
 pts:∀c∈P,AA c<4294967296
 prf:∀e∈E,ResM e.XA
theorem LzOk.small {P:A8}{n:Nat}{E:Ao}(h:LzOk P n E):cX ⟨P,E⟩:=⟨h.p100,by rw[h.len];exact h.n200⟩
def untE (E:Ao):Nat:=E.countP λe=>e.Xo==0
section
variable {s:ak} {P:A8} {x y d:Int} (h0:0<=d) (h20:d<=20)
include h0 h20
theorem HG {n:Nat}{E:Ao}(h:LzOk P n E)(i:(nxV P x y E).2.2.2=3):LzOk P n (stE s P x y d E)/\untE (stE s P x y d E)+1=untE E:=by
 obtain⟨-,c,-⟩:=nh x y h.small;obtain⟨j,l,k,a⟩:=c.ed i;have g:ProveOk s _ _ d _:=(uu s (AF P (AF E (nxV P x y E).1.toNat qt).U.toNat qt) (AF P (AF E (nxV P x y E).1.toNat qt).V.toNat qt) (h.pts _ (aF (by have:=a.1;have:=a.2.1;have:=a.2.2.1;omega))) (h.pts _ (aF (by have:=a.1;have:=a.2.1;have:=a.2.2.1;omega))) h0 h20).2;refine⟨⟨by unfold stE;rw[qZ,h.len],h.n200,h.p100,h.pts,λe b=>?_⟩,?_⟩
 ·rcases List.mem_or_eq_of_mem_set b with b|b;{exact h.prf e b};subst b;exact UH g
 grind[stE,untE,tstE,iq,stV]
theorem stops {n:Nat}:∀ (u:Nat) (E:Ao),LzOk P n E->untE E<=u->∃K,K<=u/\(∀i,i<K->(nxV P x y (itE s P x y d E i)).2.2.2=3)/\(nxV P x y (itE s P x y d E K)).2.2.2≠3:=by
 intro u;induction u with
 |zero=>
  intro E h j;refine⟨0,we _,λi e=>qa,λb=>?_⟩;have:=(HG (s:=s) h0 h20 h b).2;omega
 |succ u k=>
  intro E h j;by_cases b:(nxV P x y E).2.2.2=3
  ·obtain⟨f,m⟩:=HG (s:=s) h0 h20 h b;obtain⟨K,l,o,p⟩:=k _ f qa;have q:∀i,itE s P x y d (stE s P x y d E) i=itE s P x y d E (i+1):=λi=>by
    have:=TL s P x y d E 1 i;rw[xE 1 i]at this;exact this
   refine⟨K+1,qa,λi e=>?_,jW⟩;cases i with
   |zero=>exact b
   |succ i=>simp_all
  exact⟨0,qa,λi e=>qa,b⟩
theorem oT {n:Nat}{E:Ao}(h:LzOk P n E){K:Nat}(a:∀i,i<K->(nxV P x y (itE s P x y d E i)).2.2.2=3):∀i,i<=K->LzOk P n (itE s P x y d E i)
 |0,_=>h
 |i+1,c=>(HG h0 h20 (oT h a i qa) (a i qa)).1
end
def lzR (P:A8)(x y:Int)(E:Ao)(a:Int)(i:Nat):aw×bY×Int×Int:=(⟨P,E⟩,⟨(nxV P x y E).2.1,(nxV P x y E).2.2.1⟩,a,(i:Int))
theorem ad5 (m:aw)(g:AA m.Xc<4294967296)(f:∀c∈m.Xc,AA c<4294967296)(d:AA m.Xa<100000)(b:∀e∈m.Xa,ResM e.XA):(WJ m).o=AB (m.Xc,m.Xa):=by
 have a:(OZ m (-1) (⟨0,nl,(⟨0,0,nl⟩:aE),(⟨0,nl,nl⟩:cN)⟩:bR)).o=AB (m.Xc,m.Xa,AE):=by
  show(AN m (-1) _).run NN=_;simp_all[AN,qj,ahD,ah]
 show(Kc m).run NN=_;simp_all[Kc,qj]
def nmL (i:Nat):ByteArray:=(⟨#[97,98,99,100,101,102,103,104,105,106]⟩:ByteArray).extract i (i+1)
theorem ak6 (t:Nat)(h:t<8):0<=AF ([3,3,1,2,4,5,3,0]:A7) t 0/\AF ([3,3,1,2,4,5,3,0]:A7) t 0<=5:=by revert t;decide
def JV (i:Nat)(j:cq):Prop:=j.XO=nmL i/\(0<=j.Xk/\j.Xk<=6)/\(-1<=j.Xw/\j.Xw<(i:Int))/\cd j.XH 4194304=AD/\(-cM j.Xk<=j.Lo/\j.Lo<=j.Hi/\j.Hi<=cM j.Xk)/\lw j=AD
section
variable {l:A7} (hl:AA l<4294967296) {n:Int} (h0:0<=n) (h1:n<=(AA l:Int))
include hl h0 h1
theorem abw {i:Nat}(i1:i<=2):∃j z,(rX l n (i:Int)).o=AB (j,l,z)/\JV i j/\0<=z/\z<=(AA l:Int):=by
 have e0:(rX l n (i:Int)).o=(rY l n (i:Int)).run NN:=rfl;rw[e0];simp only[rY,qj];have el:(nO (i:Int)).o=AB (nmL i):=by
  have B:(nO (i:Int)).o=(rH (i:Int)).run NN:=rfl;rw[B];simp only[rH,qj];rw[wn qa,ab ⟨qa,qa,by rw[show((⟨#[97,98,99,100,101,102,103,104,105,106]⟩:ByteArray).size)=10 from rfl];omega⟩];rfl
 obtain⟨r1,n1,B,a1,b1,M,d1⟩:=bM hl h0 h1 (k:=4) jU jU;obtain⟨r2,n2,N,a2,b2,c2,d2⟩:=bM hl M d1 (k:=3) jU jU;obtain⟨r3,n3,e3,a3,b3,c3,d3⟩:=bM hl c2 d2 (k:=8) jU jU;obtain⟨r4,n4,e4,a4,b4,c4,d4⟩:=bM hl c3 d3 (k:=4) jU jU;rw[el,qG,B,qG,N,qG,e3,qG,ab ⟨j8,j8⟩,e4,qG];have hK6:=ak6 r3.toNat qa;generalize hK:AF ([3,3,1,2,4,5,3,0]:A7) r3.toNat 0=K at hK6;have rest:∀ (m X:Int),0<=m->m<=(AA l:Int)->(-1<=X/\X<(i:Int))->∃j z,(andC (bif qu ((i:Int)>0)then(ey l m 2).o.bind λO=>(ey O.2.1 O.2.2 1).o.bind λQ=>AB (.out (Q.2.1,Q.2.2,131072,AG qs (O.1 * 32768),AG qs (Q.1 * 32768)))else AB (.out (l,m,0,0,0)):Option (am Unit (A7×Int×Int×Int×Int) (cq×A7×Int))) λb=>
  andC (bif K==0 then AB (.out (b.1,b.2.1,0,0))else andC (bif K==4 then AB (.out (K==4))else AB (.out (K==5)):Option (am Unit Bool (am Unit (A7×Int×Int×Int) (cq×A7×Int)))) λR=>
   bif R then(aW b.1 b.2.1 3).o.bind λe=>(aW e.2.1 e.2.2 4).o.bind λf=>AB (.out (f.2.1,f.2.2,AG qs (AG qs (0-e.1) * 65536),AG qs (f.1 * 32768)))
   else(aW b.1 b.2.1 5).o.bind λg=>(aW g.2.1 g.2.2 4).o.bind λp=>(aW p.2.1 p.2.2 3).o.bind λr=>
    AB (.out (r.2.1,r.2.2,AG qs ((AG qs (AG qs (0-g.1) * 65536)).tdiv 8),AG qs (AG qs ((AG qs (AG qs (1+p.1) * 65536)).tdiv 8)+r.1))):Option (am Unit (A7×Int×Int×Int) (cq×A7×Int))) λc=>
  AB ((⟨nmL i,K,X,(b.2.2.1,b.2.2.2.1,b.2.2.2.2),c.2.2.1,c.2.2.2,AG qs (1+r1),65536,AG qs (65536+r2),327680⟩:cq),c.1,c.2.1))=AB (j,l,z)/\JV i j/\0<=z/\z<=(AA l:Int):=by
  intro m X U V hpr;have jv:∀ (D H I lo hi:Int),((-4194304<=D/\D<=4194304)/\(-4194304<=H/\H<=4194304)/\(-4194304<=I/\I<=4194304))->(-cM K<=lo/\lo<=hi/\hi<=cM K)->JV i ⟨nmL i,K,X,(D,H,I),lo,hi,AG qs (1+r1),65536,AG qs (65536+r2),327680⟩:=λD H I lo hi ho hr=>by
   have hrb:=mK K;have hr2:cM K<=524288\/(K=4\/K=5):=by unfold cM;split<;>(try split)<;>omega
   refine⟨rfl,j8,j8,?_,hr,?_⟩;{rw[nearV_iff];exact⟨ho.1,ho.2.1,ho.2.2⟩};rw[w64 (x:=1+r1) qa qa,w64 (x:=65536+r2) qa qa];unfold lw betV;simp only[ql,qf];omega
  have Z:∀ (m D H I:Int),0<=m->m<=(AA l:Int)->((-4194304<=D/\D<=4194304)/\(-4194304<=H/\H<=4194304)/\(-4194304<=I/\I<=4194304))->∃j z,(andC (bif K==0 then AB (.out (l,m,0,0))else andC (bif K==4 then AB (.out (K==4))else AB (.out (K==5)):Option (am Unit Bool (am Unit (A7×Int×Int×Int) (cq×A7×Int)))) λR=>
   bif R then(aW l m 3).o.bind λe=>(aW e.2.1 e.2.2 4).o.bind λf=>AB (.out (f.2.1,f.2.2,AG qs (AG qs (0-e.1) * 65536),AG qs (f.1 * 32768)))
   else(aW l m 5).o.bind λg=>(aW g.2.1 g.2.2 4).o.bind λp=>(aW p.2.1 p.2.2 3).o.bind λr=>
    AB (.out (r.2.1,r.2.2,AG qs ((AG qs (AG qs (0-g.1) * 65536)).tdiv 8),AG qs (AG qs ((AG qs (AG qs (1+p.1) * 65536)).tdiv 8)+r.1))):Option (am Unit (A7×Int×Int×Int) (cq×A7×Int))) λc=>
   AB ((⟨nmL i,K,X,(D,H,I),c.2.2.1,c.2.2.2,AG qs (1+r1),65536,AG qs (65536+r2),327680⟩:cq),c.1,c.2.1))=AB (j,l,z)/\JV i j/\0<=z/\z<=(AA l:Int):=by
   intro m D H I U V ho;cases C:K==0
   ·simp only[qd,aS,ah];simp only[beq_eq_false_iff_ne,ne_eq]at C;cases w:(bif K==4 then K==4 else K==5)
    ·obtain⟨A,n1,B,a1,b1,M,d1⟩:=bM hl U V (k:=5) jU jU;obtain⟨J,n2,N,a2,b2,c2,d2⟩:=bM hl M d1 (k:=4) jU jU;obtain⟨s3,n3,e3,a3,b3,c3,d3⟩:=bM hl c2 d2 (k:=3) jU jU;simp only[qd];rw[B,qG,N,qG,e3,qG,ah];have Y:cM K=524288:=by
      have:K≠4/\K≠5:=by
       by_cases S:K=4;{rw[S]at w;cases w};rw[bB S]at w;exact⟨S,by simpa using w⟩
      unfold cM;rw[qb C,qc qa]
     refine⟨_,_,rfl,jv _ _ _ _ _ ho ?_,c3,d3⟩;rw[Y];simp only
     rw[w64 (x:=0-A) qa qa,w64 (x:=(0-A) * 65536) qa qa,w64 (x:=1+J) qa qa,w64 (x:=(1+J) * 65536) qa qa,gv (a:=(1+J) * 65536) qa,
      show(0-A) * 65536= -(A * 65536) from qa,tc,gv qa,w64 (x:= -(A * 65536 / 8)) qa qa,w64 (x:=(1+J) * 65536 / 8) qa qa,w64 (x:=(1+J) * 65536 / 8+s3) qa qa]
     omega
    obtain⟨A,n1,B,a1,b1,M,d1⟩:=bM hl U V (k:=3) jU jU;obtain⟨J,n2,N,a2,b2,c2,d2⟩:=bM hl M d1 (k:=4) jU jU;simp only[qe];rw[B,qG,N,qG,ah];have Y:cM K=4194304:=by
     have:K=4\/K=5:=by
      by_cases S:K=4;{exact .inl S};rw[bB S]at w;exact .inr (by simpa using w)
     unfold cM;rw[qb C,qb qa]
    refine⟨_,_,rfl,jv _ _ _ _ _ ho ?_,c2,d2⟩;rw[Y];simp only;rw[w64 (x:=0-A) qa qa,w64 (x:=(0-A) * 65536) qa qa,w64 (x:=J * 32768) qa qa];omega
   have hk:K=0:=by simpa using C
   have Y:cM K=0:=by rw[hk];rfl
   exact⟨_,_,rfl,jv _ _ _ _ _ ho (by rw[Y];simp only;omega),U,V⟩
  cases qu ((i:Int)>0);{simp only[qd,ah];exact Z m 0 0 0 U V jU};obtain⟨A,n1,B,a1,b1,M,d1⟩:=eV hl U V (k:=2) jU jU;obtain⟨J,n2,N,a2,b2,c2,d2⟩:=eV hl M d1 (k:=1) jU jU;simp only[qe];rw[B,qG,N,qG,ah];rw[w64 (x:=A * 32768) qa qa,w64 (x:=J * 32768) qa qa];exact Z n2 _ _ _ c2 d2 j8
 cases r4==1;{simp only[qd];rw[w64 (x:=(i:Int)-1) qa qa];exact rest n4 _ c4 d4 j8};exact rest n4 _ c4 d4 j8
theorem aby:∃b:ao×A7×Int,(mc l n).o=AB b/\b.2.1=l/\((1<=AA b.1.Xb/\(AA b.1.Xb)<=3/\∀t,t<AA b.1.Xb->JV t (AF b.1.Xb t qt))/\(AA b.1.Xl)<=2/\∀x∈b.1.Xl,gG (AA b.1.Xb) x=AD)/\0<=b.2.2/\b.2.2<=(AA l:Int):=by
 have N:(mc l n).o=(rZ l n).run NN:=rfl;rw[N];simp only[rZ,qj];obtain⟨u,n1,O,a1,b1,J,d1⟩:=bM hl h0 h1 (k:=3) jU jU;rw[O,qG];simp only;rw[w64 (x:=1+u) qa qa];obtain⟨R,V⟩:∃R:Nat,1+u=(R:Int):=⟨(1+u).toNat,qa⟩;rw[V]
 refine g9 (g:=λb=>b) R qa (λj (y:A7×Int×A3×Int)=>y.1=l/\0<=y.2.1/\y.2.1<=(AA l:Int)/\(AA y.2.2.1)=j/\(∀t,t<j->JV t (AF y.2.2.1 t qt))/\y.2.2.2=(j:Int))
  (λ(z:A7×Int×A3)=>z.1=l/\0<=z.2.1/\z.2.1<=(AA l:Int)/\(AA z.2.2)=R/\∀t,t<R->JV t (AF z.2.2 t qt)) ⟨rfl,J,d1,rfl,λt ht=>qa,rfl⟩ (λj y X c=>?_) (λy c=>?_) (λz hz=>?_)
 ·obtain⟨p,f,e,B,m,S⟩:=c;obtain⟨jt,n',ej,Y,Z,hj3⟩:=abw hl f e (i:=j) qa;grind[ab,au,wn]
 ·obtain⟨p,f,e,B,m,S⟩:=c;simp_all
 obtain⟨p,f,e,B,m⟩:=hz;obtain⟨r2,n2,Q,a2,b2,c2,d2⟩:=bM hl f e (k:=3) jU jU;rw[p,Q,qG];obtain⟨M,U⟩:∃M:Nat,r2=(M:Int):=⟨r2.toNat,qa⟩;rw[U]
 refine g9 (g:=λb=>b) M qa (λj (y:A7×Int×Ab×Int)=>y.1=l/\0<=y.2.1/\y.2.1<=(AA l:Int)/\(AA y.2.2.1)=j/\y.2.2.2=(M:Int)- (j:Int)/\∀x∈y.2.2.1,gG R x=AD)
  (λ(w:A7×Int×Ab)=>w.1=l/\0<=w.2.1/\w.2.1<=(AA l:Int)/\(AA w.2.2)=M/\∀x∈w.2.2,gG R x=AD) ⟨rfl,c2,d2,rfl,jV,λx a=>by cases a⟩ (λj y X c=>?_) (λy c=>?_) (λw h=>?_)
 ·obtain⟨A,v,r,D,q,C⟩:=c;obtain⟨s1,m1,q1,u1,v1,w1,x1⟩:=bM hl v r (k:=(R:Int)) qa qa;obtain⟨s2,m2,q2,u2,v2,w2,x2⟩:=bM hl w1 x1 (k:=9000) jU jU;obtain⟨H,m3,q3,u3,v3,w3,x3⟩:=eV hl w2 x2 (k:=3) jU jU;obtain⟨I,m4,q4,u4,v4,w4,x4⟩:=eV hl w3 x3 (k:=2) jU jU;rw[q,A,ai qa,q1,qG,q2,qG,q3,qG,q4,qG];rw[ab ⟨jZ,by simp[au];omega⟩,w64 (x:=(M:Int)- (j:Int)-1) qa qa];refine⟨_,rfl,rfl,w4,x4,jZ,j8,λx a=>?_⟩;rcases wC.1 a with a|a;{exact C x a};rw[wD.1 a];unfold gG betV;rw[w64 (x:=1+s2) qa qa,w64 (x:=H * 32768) qa qa,w64 (x:=I * 32768) qa qa];have s:cd (H * 32768,0,I * 32768) 4194304=true:=by rw[nearV_iff];exact⟨qa,j8,j8⟩
  rw[s];simp only[wj,ql,qf];omega
 {obtain⟨A,v,r,D,q,C⟩:=c;rw[q,aj qa];exact⟨_,rfl,A,v,r,D,C⟩};exact⟨_,rfl,h.1,⟨⟨j8,j8,λt ht=>m t (by simp only at ht;omega)⟩,j8,by rw[B];exact h.2.2.2.2⟩,h.2.1,h.2.2.1⟩
end
theorem n01:(nmL 0==nmL 1)=false:=by rfl
theorem n02:(nmL 0==nmL 2)=false:=by rfl
theorem n12:(nmL 1==nmL 2)=false:=by rfl
theorem nv0:fM (nmL 0)=true:=by rfl
theorem nv1:fM (nmL 1)=true:=by rfl
theorem nv2:fM (nmL 2)=true:=by rfl
theorem aka (i:Nat)(a:i<=2):fM (nmL i)=AD/\∀t:Nat,t<i->(nmL t==nmL i)=false:=by grind[nv0,nv1,n01,nv2,n02,n12]
theorem adC{l:A7}(k:AA l<4294967296){z:A7}{g:Int}(e:(mc l 0).o=AB (r,z,g)):aQ r=0:=by
 obtain⟨⟨A,F,E⟩,m,q,⟨⟨j,v,b⟩,y,f⟩,-⟩:=aby k (n:=0) qa qa;simp only at q j v b y f;rw[m]at e;cases e;have u:∀t,t<AA r.Xb->fi r.Xb t=0:=λt a=>by
  obtain⟨d,B,D,p,C,x⟩:=b t a;obtain⟨i,g⟩:=aka t qa;unfold fi;have w:aA (fm r.Xb (AF r.Xb t qt).XO) t=true:=noneB_iff.2 λs c=>by
   unfold fm;rw[(b s qa).1,d];simp_all
  simp only
  rw[w,d,i,p,x,qh (show ¬ (AF r.Xb t qt).Xk<0 from qa),qh (show ¬ (AF r.Xb t qt).Xk>6 from qa),qh (show ¬ (AF r.Xb t qt).Xw< -1 from qa),qh (show ¬ (AF r.Xb t qt).Xw>=(t:Int) from qa),
   qh (show ¬ (AF r.Xb t qt).Lo>(AF r.Xb t qt).Hi from qa),qh (show ¬ (AF r.Xb t qt).Lo< -cM (AF r.Xb t qt).Xk from qa),qh (show ¬ (AF r.Xb t qt).Hi>cM (AF r.Xb t qt).Xk from qa)]
  rfl
 unfold aQ;rw[qb qa];have c:scan (errJ r.Xb) (AA r.Xb) 0=none:=(di _ _).2 λt _ a=>by
  unfold errJ;rw[u t qa];rfl
 rw[c];have h:aA (badM (AA r.Xb) r.Xl) (AA r.Xl)=true:=noneB_iff.2 λt a=>by
  unfold badM;rw[f _ (aF a)];rfl
 rw[qb (by rw[h];simp;omega)]
theorem vU (r:ao)(m:A7)(e:AA m<4294967296)(A:RoB r)(Q:aQ r=0):∃p,(nN r m).o=AB p/\aI r p=true:=by
 have v:(nV m).o=AB (m,0):=rfl;obtain⟨O,S,H⟩:=A;suffices L:∃p,(nN r m).o=AB p/\(AA p=AA r.Xb/\∀t,t<AA r.Xb->(AF r.Xb t qt).Lo<=AF p t qt/\AF p t qt<=(AF r.Xb t qt).Hi) by
  grind[aI,noneB_iff,outJ]
 show ∃p,(BH r m).run NN=AB p/\_;simp only[BH,qj,v,qG]
 refine bS (P:=λp:A7=>AA p=AA r.Xb/\∀t,t<AA r.Xb->(AF r.Xb t qt).Lo<=AF p t qt/\AF p t qt<=(AF r.Xb t qt).Hi) (λk (y:A7×Int×A7×Int)=>∃j:Nat,y.1=m/\(0<=y.2.1/\y.2.1<=(AA m:Int))/\y.2.2.2=(j:Int)/\j+k=AA r.Xb/\(AA y.2.2.1)=j/\∀t,t<j->(AF r.Xb t qt).Lo<=AF y.2.2.1 t qt/\AF y.2.2.1 t qt<=(AF r.Xb t qt).Hi)
  (λz:A7=>AA z=AA r.Xb/\∀t,t<AA r.Xb->(AF r.Xb t qt).Lo<=AF z t qt/\AF z t qt<=(AF r.Xb t qt).Hi) (AA r.Xb) ⟨0,rfl,⟨jV,jV⟩,rfl,qa,by rfl,λt C=>qa⟩ qa ?_ (λz s=>⟨_,rfl,s⟩)
 rintro k ⟨U,N,p,y⟩ ⟨j,h,⟨n,i⟩,g,Z,w,G⟩;simp only at h n i g w G⊢;subst h;subst g;cases k with
 |zero=>simp_all
 |succ k=>
  have F:=H _ (aF (show j<AA r.Xb from qa));unfold JB at F;have a:∀x,(AF r.Xb j qt).Lo<=x/\x<=(AF r.Xb j qt).Hi->∀t,t<j+1->(AF r.Xb t qt).Lo<=AF (p++[x]) t qt/\AF (p++[x]) t qt<=(AF r.Xb t qt).Hi:=λx M t C=>by
   grind
  rw[ai qa,ab qa,ab qa,qD,wn qa];obtain⟨l,X,I,W,Y,b,c⟩:=bM e n i (k:=6) jU jU;rw[I];simp only[qG];by_cases f:l=0;{rw[bK f,ab (by simp only[qw,qy,au];omega),ah];exact .inl ⟨_,k,rfl,wE k,j+1,rfl,⟨b,c⟩,rfl,qa,by simp only[wV,qw,qy];omega,a _ qa⟩};rw[bB f];by_cases q:l=1;{rw[bK q,ab (by simp only[qw,qy,au];omega),ah];exact .inl ⟨_,k,rfl,wE k,j+1,rfl,⟨b,c⟩,rfl,qa,by simp only[wV,qw,qy];omega,a _ qa⟩};rw[bB q];have E:AG qs ((AF r.Xb j qt).Hi- (AF r.Xb j qt).Lo)=(AF r.Xb j qt).Hi- (AF r.Xb j qt).Lo:=w64 qa qa;simp only[E];have d:AG qs ((AF r.Xb j qt).Hi- (AF r.Xb j qt).Lo+1)=(AF r.Xb j qt).Hi- (AF r.Xb j qt).Lo+1:=w64 qa qa;simp only[d];obtain⟨u,R,B,V,K,J,D⟩:=bM e b c (k:=(AF r.Xb j qt).Hi- (AF r.Xb j qt).Lo+1) qa qa;rw[B];simp only[qG];rw[w64 (x:=(AF r.Xb j qt).Lo+u) qa qa,ab (by simp only[qw,qy,au];omega),ah];exact .inl ⟨_,k,rfl,wE k,j+1,rfl,⟨J,D⟩,rfl,qa,by simp only[wV,qw,qy];omega,a _ qa⟩
theorem Ua (E:Ao):untE E<=AA E:=List.countP_le_length
theorem ain {P:A8}(x y:Int){E:Ao}(a:cX ⟨P,E⟩):(nU ⟨P,E⟩ x y).o=AB ((nxV P x y E).1,⟨(nxV P x y E).2.1,(nxV P x y E).2.2.1⟩,(nxV P x y E).2.2.2):=(nh x y a).1
theorem ajg (s:ak)(m:aw)(x y:Int){d:Int}(H:0<=d)(k:d<=20){n:Nat}(h:LzOk m.Xc n m.Xa)(R:(fw s).o=AB 0){K:Nat}
 (I:∀i,i<K->(nxV m.Xc x y (itE s m.Xc x y d m.Xa i)).2.2.2=3) (M:(nxV m.Xc x y (itE s m.Xc x y d m.Xa K)).2.2.2≠3) (V:K<=200) (t:Int):
 (PH s m x y d t).o=AB (if K<=t.toNat then lzR m.Xc x y (itE s m.Xc x y d m.Xa K) (nxV m.Xc x y (itE s m.Xc x y d m.Xa K)).2.2.2 K else lzR m.Xc x y (itE s m.Xc x y d m.Xa t.toNat) 4 t.toNat):=by
 have O:(⟨m.Xc,m.Xa⟩:aw)=m:=rfl;have U:(⟨s.Xe,s.Xd,s.Xi⟩:ak)=s:=rfl;have Y:=h.p100;suffices N:∃r,(CR s m x y d t).run NN=AB r/\r=(if K<=t.toNat then lzR m.Xc x y (itE s m.Xc x y d m.Xa K) (nxV m.Xc x y (itE s m.Xc x y d m.Xa K)).2.2.2 K else lzR m.Xc x y (itE s m.Xc x y d m.Xa t.toNat) 4 t.toNat) by
  obtain⟨r,a,b⟩:=N;rw[<-b];exact a
 simp only[CR,qj,O,U,ad5 m qa h.pts (by rw[h.len];have:=h.n200;omega) h.prf,R,qG];refine bS (λG (z:Ao×Int)=>∃i:Nat,i<=K/\i<=t.toNat/\G+i=K/\z=(itE s m.Xc x y d m.Xa i,(i:Int))) (λ_=>False) K ⟨0,qa,qa,qa,rfl⟩ qa ?_ (λ_ h=>h.elim);rintro G z ⟨i,L,X,Z,rfl⟩;have g:=oT H k h I i L;obtain⟨-,D,-⟩:=nh x y g.small;have C:=agN x y g.small;have e:(Ol m.Xc (itE s m.Xc x y d m.Xa i) x y).o=AB (nxV m.Xc x y (itE s m.Xc x y d m.Xa i)):=C;simp only[e,qG];by_cases v:i=K;{subst v;rw[bJ M];refine .inr (.inr ⟨_,rfl,?_⟩);rw[qc X];rfl};have u:=I i qa;rw[aJ u];by_cases w:i=t.toNat;{subst w;rw[ai qa];refine .inr (.inr ⟨_,rfl,?_⟩);rw[qb qa];rfl};rw[aj qa];obtain⟨A,B,l,P⟩:=D.ed u;have W:=g.len;have hn:=h.n200;obtain⟨f,q,p,-,-⟩:=P;have c:itE s m.Xc x y d m.Xa (i+1)=stE s m.Xc x y d (itE s m.Xc x y d m.Xa i):=rfl;unfold stE at c;generalize itE s m.Xc x y d m.Xa i=E at g C e D u A B l f q p W c⊢;generalize nxV m.Xc x y E=r at C e D u A B l f q p c⊢;obtain⟨j,Q⟩:∃j:Nat,r.1=(j:Int):=⟨r.1.toNat,qa⟩;rw[Q]at A B l f q p c⊢;simp only[qD]at l f q p c⊢;have J:AG qs ((j:Int)+1)=((j+1:Nat):Int):=wn qa;rw[J,ab qa];have F:((j+1:Nat):Int).toNat-j=1:=qa;rw[F,ajN s m.Xc E j qa h.pts qa qa g.prf l ⟨f,qa⟩ ⟨qa,p⟩ H k];simp only[qG,qe];have S:[tstE s m.Xc d (AF E j qt)].length=1:=rfl;rw[ab qa,ab (by rw[S];decide),ab qa,ab qa,ah,wn qa];refine .inl ⟨_,G-1,rfl,qa,i+1,qa,qa,qa,?_⟩;rw[c];rfl
theorem af8 (m:aw)(i:Int)(r:bR):(DZ m i r).o=(D0 m i r).run NN:=rfl
theorem af7 (m:aw)(i:Nat)(c:i<AA m.Xa)(b:AA m.Xa<100000)(a:(AF m.Xa i qt).Xo=0)(r:bR)(d:r.Xk=0\/r.Xk=1\/r.Xk=2):
 (DZ m (i:Int) r).o=AB (⟨m.Xc,m.Xa.set i (iq (AF m.Xa i qt) r)⟩,AD):=by
 rw[af8];simp only[D0,qj,qD];grind[ab,ah,maxLen,List.set_set,iq,stV]
theorem af9 (s:ak)(P:A8)(E:Ao)(i:Nat)(a:∀c∈P,AA c<4294967296)(u:i<AA E)(q:AA E<100000)
 (k:(AF E i qt).Xo=0) (n:0<=(AF E i qt).U/\(AF E i qt).U<(AA P:Int)) (g:0<=(AF E i qt).V/\(AF E i qt).V<(AA P:Int)) {d:Int} (j:0<=d) (b:d<=20):
 (Qi s ⟨P,E⟩ (i:Int) d).o=AB (⟨P,E.set i (tstE s P d (AF E i qt))⟩,AD):=by
 show(D2 s ⟨P,E⟩ (i:Int) d).run NN=_;have m:(⟨s.Xe,s.Xd,s.Xi⟩:ak)=s:=rfl;have l:(PA ⟨P,E⟩ (AF E i qt)).o=AB true:=by
  show(CG ⟨P,E⟩ (AF E i qt)).run NN=_;grind[CG,qj]
 have h:((AF E i qt).Xo==1)=false:=jW;have p:((AF E i qt).Xo==2)=false:=jW;obtain⟨w,e⟩:=uu s (AF P (AF E i qt).U.toNat qt) (AF P (AF E i qt).V.toNat qt) (a _ (aF qa)) (a _ (aF qa)) j b;obtain⟨r,v,t,-,-⟩:=QW s (AF P (AF E i qt).U.toNat qt) (AF P (AF E i qt).V.toNat qt) d (a _ (aF qa)) (a _ (aF qa));have f:r=pvR s (AF P (AF E i qt).U.toNat qt) (AF P (AF E i qt).V.toNat qt) d:=jW;subst f;simp only[D2,qj,m,qD];rw[aj qa,aj qa,ab qa,l];simp only[qG,qH,qd];rw[ab qa,h];simp only[qd];rw[ab qa,p,ah];rw[ab qa,ab n,ab qa,ab g,t];simp only[qG];rw[af7 ⟨P,E⟩ i u q k _ e.kind];rfl
def rlR (P:A8)(x y:Int)(E:Ao)(a:Int)(n:Nat):aw×bY×Int×Int:=(⟨P,E⟩,⟨(nxV P x y E).2.1,(nxV P x y E).2.2.1⟩,a,(n:Int))
theorem Sl (s:ak)(m:aw)(x y:Int){d:Int}(D:0<=d)(f:d<=20){n:Nat}(h:LzOk m.Xc n m.Xa)(M:aM s=0){K:Nat}
 (F:∀i,i<K->(nxV m.Xc x y (itE s m.Xc x y d m.Xa i)).2.2.2=3) (N:(nxV m.Xc x y (itE s m.Xc x y d m.Xa K)).2.2.2≠3) (O:K<=200) (t:Int):
 (Qh s m x y d t).o=AB (if K<=t.toNat then rlR m.Xc x y (itE s m.Xc x y d m.Xa K) (nxV m.Xc x y (itE s m.Xc x y d m.Xa K)).2.2.2 K else rlR m.Xc x y (itE s m.Xc x y d m.Xa t.toNat) 4 t.toNat):=by
 have P:(⟨s.Xe,s.Xd,s.Xi⟩:ak)=s:=rfl;suffices L:∃r,(DY s m x y d t).run NN=AB r/\r=(if K<=t.toNat then rlR m.Xc x y (itE s m.Xc x y d m.Xa K) (nxV m.Xc x y (itE s m.Xc x y d m.Xa K)).2.2.2 K else rlR m.Xc x y (itE s m.Xc x y d m.Xa t.toNat) 4 t.toNat) by
  obtain⟨r,a,b⟩:=L;rw[<-b];exact a
 simp only[DY,qj,P,gP,qG];rw[aJ M];refine bS (λA (z:A8×Ao×Int)=>∃i:Nat,i<=K/\i<=t.toNat/\A+i=K/\z=(m.Xc,itE s m.Xc x y d m.Xa i,(i:Int))) (λ_=>False) K ⟨0,qa,qa,qa,rfl⟩ qa ?_ (λ_ h=>h.elim);rintro A z ⟨i,I,H,R,rfl⟩;have p:=oT D f h F i I;obtain⟨-,C,-⟩:=nh x y p.small;simp only[ain x y p.small,qG];by_cases v:i=K;{subst v;rw[bJ N];refine .inr (.inr ⟨_,rfl,?_⟩);rw[qc H];rfl};have q:=F i qa;rw[aJ q];by_cases w:i=t.toNat;{subst w;rw[ai qa];refine .inr (.inr ⟨_,rfl,?_⟩);rw[qb qa];rfl};rw[aj qa];obtain⟨B,u,g,J⟩:=C.ed q;have Q:=p.len;have S:=h.n200;obtain⟨e,l,k,-,-⟩:=J;have c:itE s m.Xc x y d m.Xa (i+1)=stE s m.Xc x y d (itE s m.Xc x y d m.Xa i):=rfl;unfold stE at c;generalize itE s m.Xc x y d m.Xa i=E at p C q B u g e l k Q c⊢;generalize nxV m.Xc x y E=r at C q B u g e l k c⊢;obtain⟨j,G⟩:∃j:Nat,r.1=(j:Int):=⟨r.1.toNat,qa⟩;rw[G]at B u g e l k c⊢;simp only[qD]at g e l k c⊢;rw[af9 s m.Xc E j h.pts qa qa g ⟨e,qa⟩ ⟨qa,k⟩ D f];rw[wn qa];refine .inl ⟨_,A-1,rfl,qa,i+1,qa,qa,qa,?_⟩;rw[c]
theorem GS {a β R:Type}[Inhabited a]{g:a->β}{f:List β×Int->Option (am (List β×Int) (List β) R)}{k:List β->Option R}(l:List a)(e:AA l<4294967296)
 (d:∀ (X:List β) (i:Nat),AA X<AA l->i<AA l->f (X,(i:Int))=AB (.next (X++[g (AF l i qt)],AG qs ((i:Int)-1))))
 (b:∀ (X:List β) (i:Int),¬i>=0->f (X,i)=AB (.out X)):andK (iter f NN (nl,AG qs (((AA l:Nat):Int)-1))) k=k (l.reverse.map g):=by
 rw[w64 qa qa];refine aO (λj=>((l.reverse.take j).map g,((AA l:Nat):Int)-1- (j:Int))) _ (AA l) (by simp[nl]) (show AA l<4294967296 from qa) (λj c=>?_) ?_;all_goals grind[w64,rI,xM]
theorem wu64 {x:Int}(h:0<=x/\x<=20):IntKind.u64.wrap x=x:=by have:IntKind.u64.wrap x=x % 18446744073709551616:=rfl;omega
theorem abV (x:aH)(h:PaF x):(N8 x).o=AB (revP x):=by
 obtain⟨q,s,r,k⟩:=h;show(Md x).run NN=_;simp only[Md,qj];rw[GS (g:=λc=>c) x.Xc qa (λX i f b=>by
  grind[ab,au]) (λX i b=>jX)]
 rw[GS (g:=revK) x.Xa qa (λX i f b=>?_) (λX i b=>jX)];{grind[List.map_id',revP]};obtain⟨w,p,m⟩:=k _ (aF b);rw[ai qa,qD];rw[ab qa,ab qa];rw[GS (g:=revU) (AF x.Xa i qt).XI qa (λY j t n=>?_) (λX i b=>jX)];{rw[ab ⟨jX,by grind[au]⟩];rfl};rw[ai qa,qD];rw[ab qa,ab qa];generalize (AF x.Xa i qt).XI.getD j qt=u;have a:∀v:ez,revU u=v->AA Y+1<=4194304->grd ((AA Y+AA ([v]:Az)) * 40<=140737488355328/\(AA Y+AA ([v]:Az))<=maxLen) (AB (am.next (σ:=Az×Int) (τ:=Az) (R:=am (B0×Int) B0 aH) (Y++[v],AG qs ((j:Int)-1))))=AB (am.next (Y++[revU u],AG qs ((j:Int)-1))):=by
  intro v l y;rw[ab ⟨by simp only[qw,qy];omega,by simp only[qw,qy,au];omega⟩,l]
 by_cases c:0<=u.Xg/\u.Xg<=20;{rw[qg c.1,qg c.2];simp only[qe,ah,wu64 c];rw[ab c.1,Vk c,ah];exact a _ (qc c) qa};have e:revU u=⟨u.Xg,u.Xj,u.XD⟩:=qb c;by_cases d:u.Xg>=0;{rw[qg d,qh (show ¬u.Xg<=20 from qa)];exact a _ e qa};rw[qh d];exact a _ e qa
theorem adc(n:cX m){u v:Int}(q:∀e,e<AA m.Xa->¬ ((AF m.Xa e qt).U=u/\(AF m.Xa e qt).V=v)):
 ∃r,(pt m.Xa (u,v)).o=AB r/\r.2=false:=by
 have A:100000<=NN:=jU;have t:=n.2;simp only[Vu,uy,qj];refine bS (P:=λr:Int×Bool=>r.2=AE) (λk (x:Int×Int)=>∃a b:Nat,x=((a:Int),(b:Int))/\a+k=b/\b<=AA m.Xa) (λy=>∃a:Nat,y=(a:Int)/\a<=AA m.Xa) (AA m.Xa) ⟨0,AA m.Xa,rfl,qa,qa⟩ qa ?_ ?_
 ·rintro k x ⟨a,b,rfl,s,p⟩;by_cases d:a<b
  ·left
   (rw[ai qa];rw[U1 qa qa])
   obtain⟨h,l⟩:∃h:Nat,((a:Int)+(b:Int)) / 2=(h:Int):=⟨(a+b) / 2,qa⟩
   (rw[l];(repeat rw[an qa]);rw[qD])
   obtain⟨c,j,i,f⟩:=rc qa (AF m.Xa h qt) u v;rw[j,qG];by_cases g:c<0;{rw[ai g,w64n qa];exact⟨_,b- (h+1),rfl,qa,h+1,b,rfl,qa,p⟩};rw[aj g];exact⟨_,h-a,rfl,qa,a,h,rfl,qa,qa⟩
  right;left;rw[aj qa];exact⟨_,rfl,a,rfl,qa⟩
 rintro y ⟨a,rfl,z⟩;by_cases d:a<AA m.Xa
 ·(rw[ai qa];(repeat rw[an qa]);rw[qD])
  obtain⟨c,j,i,f⟩:=rc qa (AF m.Xa a qt) u v;rw[j,qG];refine⟨_,rfl,?_⟩;cases w:(c==0)with
  |false=>rfl
  |true=>exact absurd (f.1 (by simpa using w)) (q a d)
 rw[aj qa];exact⟨_,rfl,rfl⟩
theorem adb(a:cX m){x y:Int}(b:∀e,e<AA m.Xa->¬ ((AF m.Xa e qt).U=min x y/\(AF m.Xa e qt).V=max x y)):∃r,(pS m x y).o=AB r/\r.2=false:=by obtain⟨r,d,c⟩:=adc a b;grind[NM,uV,qj]
theorem aej(f:cX m){x y:Int}(c:∀e,e<AA m.Xa->¬ ((AF m.Xa e qt).U=min x y/\(AF m.Xa e qt).V=max x y)):(nL m x y).o=AB (-1):=by
 have h:=f.2;simp only[OT,lY,qj];have d:∃r:Int,(lY m x y).run NN=AB r/\r= -1:=by
  simp only[lY,qj];refine bS (P:=λr:Int=>r= -1) (λk (x:Int)=>∃i:Nat,x=(i:Int)/\i+k=AA m.Xa) (λ_=>True) (AA m.Xa) ⟨0,rfl,qa⟩ qa ?_ (λ_ _=>⟨_,rfl,rfl⟩);rintro k z ⟨i,rfl,j⟩;by_cases a:i<AA m.Xa
  ·left;rw[ai qa,an qa,qD];by_cases b:(AF m.Xa i qt).U=min x y;{rw[bK b,an qa,ah,bB (λg=>c i a ⟨b,g⟩),w64n qa];exact⟨_,k-1,rfl,qa,i+1,rfl,qa⟩};rw[bB b,ah,cT (by rfl),w64n qa];exact⟨_,k-1,rfl,qa,i+1,rfl,qa⟩
  grind
 simp_all[lY,qj]
def MapF (m:aw):Prop:=(∀c∈m.Xc,AA c<=4194304)/\∀e∈m.Xa,AA e.XA.Xs<=4194304/\dg e.XA.Xs<=4194304
theorem G9 {l:Ar}(g:AA l<=4194304)(c:dg l<=4194304):PkF (f9 l):=by obtain⟨h,e⟩:=FI l;obtain⟨-,d⟩:=S9 (l:=l) (T:=(bG l).1) (List.prefix_refl _);refine⟨by show(bG l).1.length<=_;omega,by show(bG l).2.length<=_;omega,λu a=>?_⟩;have b:=List.mem_map_of_mem (f:=unU (bG l).1) (show u∈(bG l).2 from a);have:=aeN b;grind[unU]
def prfE (e:bD)(u:Int):cl:=if u=e.U then f9 e.XA.Xs else revK (f9 e.XA.Xs)
theorem ajw(b:MapF m){e:Nat}(a:e<AA m.Xa)(u:Int):PkF (prfE (AF m.Xa e qt) u):=by obtain⟨d,c⟩:=b.2 _ (aF a);grind[prfE,G9,ajy]
theorem TW {l:Ar}(a:AA l<=4194304)(b:dg l<=4194304):(lU l).o=AB (f9 l)/\(nT l).o=AB (f9 l):=
 ⟨TV l (by show _<4294967296;omega) (by show _<4294967296;omega) qa qa,Tn l (by show _<4294967296;omega) (by show _<4294967296;omega) qa qa⟩
theorem WF.ends(b:WF m){e:Nat}(a:e<AA m.Xa):(0<=(AF m.Xa e qt).U/\(AF m.Xa e qt).U<(AA m.Xc:Int))/\(0<=(AF m.Xa e qt).V/\(AF m.Xa e qt).V<(AA m.Xc:Int))/\(AF m.Xa e qt).U<(AF m.Xa e qt).V:=by have:=(b e a).1;grind[gy]
theorem Vn(e:MapF m){a b:Nat}(f:a<AA m.Xc)(g:b<AA m.Xc){y:cl}(h:PkF y):PaF ⟨[AF m.Xc a qt,AF m.Xc b qt],[y]⟩:=by
 refine⟨jV,λc d=>?_,jV,λz i=>jW⟩;simp at d;rcases d with rfl|rfl
 {exact e.1 _ (aF f)};exact e.1 _ (aF g)
theorem aik(f:MapF m)(c:WF m){e:Nat}(a:e<AA m.Xa)(u:Int):(O2 m (e:Int) u).o=AB (prfE (AF m.Xa e qt) u):=by obtain⟨b,d⟩:=f.2 _ (aF a);obtain⟨h,i,g⟩:=c.ends a;show(AS m (e:Int) u).run NN=_;simp only[AS,qj,qD,(TW b d).1,qG];grind[ab,prfE,ae6,Vn,G9,revP]
def edX (m:aw)(u v:Int):Option Nat:=by
 classical
 exact if h:∃e,e<AA m.Xa/\(AF m.Xa e qt).U=min u v/\(AF m.Xa e qt).V=max u v/\(AF m.Xa e qt).Xo=1 then AB h.choose else none
theorem F8{u v:Int}{e:Nat}(h:edX m u v=AB e):e<AA m.Xa/\(AF m.Xa e qt).U=min u v/\(AF m.Xa e qt).V=max u v/\(AF m.Xa e qt).Xo=1:=by unfold edX at h;split at h;all_goals grind
theorem SD{u v:Int}(h:edX m u v=none)(e:Nat)(b:e<AA m.Xa)(c:(AF m.Xa e qt).U=min u v)(a:(AF m.Xa e qt).V=max u v):(AF m.Xa e qt).Xo≠1:=by simp_all[edX]
abbrev ptE (m:aw)(v:Int):A7:=AF m.Xc v.toNat qt
abbrev atE (t:A7)(i:Nat):Int:=AF t i qt
def stpE (m:aw)(t:A7)(i:Nat):cl:=prfE (AF m.Xa ((edX m (atE t i) (atE t (i+1))).getD 0) qt) (atE t i)
def lA (m:aw)(t:A7):Prop:=WF m/\1<=AA t/\(AA t)<=256/\∀i,i<AA t->0<=atE t i/\atE t i<(AA m.Xc:Int)
def dp (s:ak)(m:aw)(t:A7):aH×Bool:=by
 classical
 exact if lA m t then(if AA t=1 then((bldV s 0 [ptE m (atE t 0),ptE m (atE t 0)]).1,(bldV s 0 [ptE m (atE t 0),ptE m (atE t 0)]).2.2==0)
  else if ∀i,i+1<AA t->(edX m (atE t i) (atE t (i+1))).isSome=AD then(⟨t.map (ptE m),tab (stpE m t) (AA t-1)⟩,AD)else(⟨nl,nl⟩,AE))else(⟨nl,nl⟩,AE)
theorem mu {s:ak}{m:aw}{t:A7}(h:¬lA m t):dp s m t=(⟨nl,nl⟩,AE):=by grind[dp]
theorem FM{s:ak}{t:A7}(h:lA m t)(a:AA t=1):dp s m t=((bldV s 0 [ptE m (atE t 0),ptE m (atE t 0)]).1,(bldV s 0 [ptE m (atE t 0),ptE m (atE t 0)]).2.2==0):=by grind[dp]
theorem FK{s:ak}{t:A7}(h:lA m t)(a:AA t≠1)(b:∀i,i+1<AA t->(edX m (atE t i) (atE t (i+1))).isSome=AD):dp s m t=(⟨t.map (ptE m),tab (stpE m t) (AA t-1)⟩,AD):=by grind[dp]
theorem FL{s:ak}{t:A7}(a:AA t≠1){i:Nat}(c:i+1<AA t)(b:edX m (atE t i) (atE t (i+1))=none):dp s m t=(⟨nl,nl⟩,AE):=by grind[dp]
theorem nn5:100000<=NN:=jU
theorem aiM (s:ak)(m:aw)(r:bY)(B:cX m)(I:MapF m):(x7 s m r).o=AB (dp s m r.Xp):=by
 obtain⟨t,b⟩:=r;have e0:(x7 s m ⟨t,b⟩).o=(x8 s m ⟨t,b⟩).run NN:=rfl;obtain⟨wb,H,z⟩:=PQ m B (by have:=nn5;omega);suffices hh:∃y,(x8 s m ⟨t,b⟩).run NN=AB y/\y=dp s m t by
  simp_all
 have N:(⟨s.Xe,s.Xd,s.Xi⟩:ak)=s:=rfl;have M:(⟨m.Xc,m.Xa⟩:aw)=m:=rfl;have S:=B.1;simp only[x8,qj,N,M,H,qG,mf];by_cases d:1<=AA t/\(AA t)<=256
 ·rw[aj qa,aj qa,ah];cases wb with
  |false=>exact⟨_,rfl,(mu λh=>by have:=z.2 h.1;grind).symm⟩
  |true=>
   have E:=z.1 rfl;simp only[qH,qd]
   refine bS (P:=λy=>y=dp s m t) (λk (x:A8×Int)=>∃j:Nat,x=((t.take j).map (ptE m),(j:Int))/\j+k=AA t/\∀i,i<j->0<=atE t i/\atE t i<(AA m.Xc:Int))
    (λy=>y=t.map (ptE m)/\lA m t) (AA t) ⟨0,by rfl,qa,λi w=>qa⟩ qa ?_ ?_
   ·rintro k x ⟨j,rfl,Q,c⟩;by_cases g:j<AA t
    ·rw[ai qa,ab qa,qD];by_cases n:0<=AF t j qt/\AF t j qt<(AA m.Xc:Int)
     ·left;have hc:=I.1 _ (aF (l:=m.Xc) (i:=(AF t j qt).toNat) qa);simp only[qg n,qH,qd];rw[ab n,oG _ qa,qG,ab ⟨jZ,by simp[au];omega⟩,wn qa];refine⟨_,k-1,rfl,qa,j+1,?_,qa,λi w=>?_⟩;{rw[rI g]};by_cases e:i=j;{subst e;exact n};exact c i qa
     right;right;simp only[qh n,wI,qe];exact⟨_,rfl,(mu λh=>n (h.2.2.2 j g)).symm⟩
    right;left;have:j=AA t:=qa;subst this;rw[aj qa];exact⟨_,rfl,by rw[xM (we _)],E,d.1,d.2,c⟩
   rintro y ⟨rfl,J⟩;have R:AA (t.map (ptE m))=AA t:=by simp
   have z0:(0:Int).toNat=0:=rfl;by_cases f:AA t=1;{have hz:AF (t.map (ptE m)) 0 qt=ptE m (atE t 0):=RY qa;rw[show(((AA t:Nat):Int)==1)=AD by rw[f];rfl,qe,z0,ab qa,ab qa,ab qa,ab qa,hz,abC s jU jU];exact⟨_,rfl,(FM J f).symm⟩};have z1:(1:Int).toNat=1:=rfl;have tl:((t.drop 1).take (AA t-1)).length=AA t-1:=by simp
   have Z:∀i,i+1<AA t->AF ((t.drop 1).take (AA t-1)) i qt=atE t (i+1):=λi w=>by
    simp only[qY];rw[List.getElem?_take_of_lt qa,List.getElem?_drop,xE 1 i]
   rw[show(((AA t:Nat):Int)==1)=AE by simp;omega,qd];simp only[z1,qD,tl];rw[ab qa]
   refine bS (P:=λy=>y=dp s m t) (λk (x:B0×Int)=>∃j:Nat,x=(tab (stpE m t) j,(j:Int))/\j+k=AA t-1/\∀i,i<j->(edX m (atE t i) (atE t (i+1))).isSome=AD)
    (λy=>y=tab (stpE m t) (AA t-1)/\∀i,i+1<AA t->(edX m (atE t i) (atE t (i+1))).isSome=AD) (AA t-1) ⟨0,rfl,qa,λi w=>qa⟩ qa ?_ ?_
   ·rintro k x ⟨j,rfl,Q,c⟩;by_cases g:j<AA t-1
    ·rw[ai qa,ab qa,ab qa,qD,Z j qa];cases p:edX m (atE t j) (atE t (j+1))with
     |some e=>
      obtain⟨u,D,F,C⟩:=F8 p;left;rw[ES B E u D F nn5];simp only[qG,qH,qd,qD];rw[ab qa,ah,aJ C,aik I E u,qG,ab ⟨by simp[aZ];omega,by simp[aZ,au];omega⟩,wn qa];refine⟨_,k-1,rfl,qa,j+1,?_,qa,λi w=>?_⟩;{rw[dM];unfold stpE;rw[p];rfl};by_cases e:i=j;{subst e;rw[p];rfl};exact c i qa
     |none=>
      right;right;have a:=(FL (s:=s) f (show j+1<AA t from qa) p).symm;by_cases v:∃e,e<AA m.Xa/\(AF m.Xa e qt).U=min (atE t j) (atE t (j+1))/\(AF m.Xa e qt).V=max (atE t j) (atE t (j+1));{obtain⟨e,u,D,F⟩:=v;have C:=SD p e u D F;rw[ES B E u D F nn5];simp only[qG,qH,qd,qD];rw[ab qa,ah,bJ C];exact⟨_,rfl,a⟩};obtain⟨q,X,Y⟩:=adb B (x:=atE t j) (y:=atE t (j+1)) (λe O h=>v ⟨e,O,h⟩);rw[X];simp only[qG,Y,wI,qe,ah];exact⟨_,rfl,a⟩
    right;left;rw[aj qa];have:j=AA t-1:=qa;subst this;exact⟨_,rfl,rfl,λi w=>c i qa⟩
   rintro y ⟨rfl,A⟩;exact⟨_,rfl,(FK J f A).symm⟩
 have a:=(mu (s:=s) (m:=m) (t:=t) λh=>d ⟨h.2.1,h.2.2.1⟩).symm;by_cases f:((AA t:Nat):Int)<1;{rw[ai f,ah];exact⟨_,rfl,a⟩};rw[aj f,ai qa,ah];exact⟨_,rfl,a⟩
theorem Ss (s:ak)(m:aw)(r:bY)(I:cX m)(Y:MapF m):(y6 s m r).o=AB (dp s m r.Xp):=by
 obtain⟨t,b⟩:=r;have e0:(y6 s m ⟨t,b⟩).o=(vL s m ⟨t,b⟩).run NN:=rfl;obtain⟨wb,R,J⟩:=RU m I (by have:=nn5;omega);suffices hh:∃y,(vL s m ⟨t,b⟩).run NN=AB y/\y=dp s m t by
  simp_all
 have es:(⟨s.Xe,s.Xd,s.Xi⟩:ak)=s:=rfl;have em:(⟨m.Xc,m.Xa⟩:aw)=m:=rfl;have hs1:=I.1;simp only[vL,qj,em,R,qG];cases wb with
 |false=>exact⟨_,rfl,(mu λh=>by have:=J.2 h.1;grind).symm⟩
 |true=>
  have N:=J.1 rfl;simp only[qH,qd];by_cases c:1<=AA t/\(AA t)<=256
  ·rw[aj qa,ah,aj qa]
   refine bS (P:=λy=>y=dp s m t) (λk (x:A8×B0×Int)=>∃j:Nat,x=((t.take j).map (ptE m),tab (stpE m t) (j-1),(j:Int))/\j+k=AA t/\(∀i,i<j->0<=atE t i/\atE t i<(AA m.Xc:Int))/\∀i,i+1<j->(edX m (atE t i) (atE t (i+1))).isSome=AD)
    (λy=>y=(t.map (ptE m),tab (stpE m t) (AA t-1))/\lA m t/\∀i,i+1<AA t->(edX m (atE t i) (atE t (i+1))).isSome=AD) (AA t) ⟨0,by rfl,qa,λi n=>qa,λi n=>qa⟩ qa ?_ ?_
   ·rintro k x ⟨j,rfl,hj,f,u⟩;by_cases g:j<AA t
    ·simp only;rw[ai qa,ab qa,qD];by_cases w:0<=AF t j qt/\AF t j qt<(AA m.Xc:Int)
     ·rw[aj qa,ah,aj qa,ab w,ab ⟨jZ,by simp[au];omega⟩];by_cases hz:j=0
      ·subst hz;left;rw[bK (by rfl),ah,wn qa];refine⟨_,k-1,rfl,qa,1,?_,qa,λi n=>?_,λi n=>qa⟩;{rw[rI g]};obtain rfl:i=0:=qa;exact w
      obtain⟨q,rfl⟩:∃q,j=q+1:=⟨j-1,qa⟩;have w1:AG qs (((q+1:Nat):Int)-1)=(q:Int):=by rw[w64 qa qa];omega
      rw[bB qa];simp only[w1,qD];rw[ab qa];have v:=f q qa;cases A:edX m (atE t q) (atE t (q+1))with
      |some e=>
       obtain⟨B,z,M,O⟩:=F8 A;obtain⟨S,X⟩:=Y.2 _ (aF B);obtain⟨v1,v2,v3⟩:=N.ends B;left;rw[Fn I N B z M nn5];simp only[qG,qD];rw[aj qa,ab qa,ah,aJ O,ab qa,(TW S X).2,qG];have l:stpE m t q=prfE (AF m.Xa e qt) (atE t q):=by unfold stpE;rw[A];rfl
       by_cases H:AF t q qt>AF t (q+1) qt
       ·have Q:¬atE t q=(AF m.Xa e qt).U:=by rw[z];show ¬AF t q qt=min (AF t q qt) (AF t (q+1) qt);omega
        have d:(AF t (q+1) qt).toNat<AA m.Xc:=qa;have h2:(AF t q qt).toNat<AA m.Xc:=by have:=v.2;have:=v.1;show(atE t q).toNat<_;omega
        rw[ai H,ab w,ab v,abV _ (Vn Y d h2 (G9 S X))];simp only[qG];rw[ab (by simp[revP]),ah];have p:revK (f9 (AF m.Xa e qt).XA.Xs)=stpE m t q:=by rw[l];unfold prfE;rw[qb Q]
        rw[ab ⟨by simp[aZ];omega,by simp[aZ,au];omega⟩,ah,wn qa];refine⟨_,k-1,rfl,qa,q+2,?_,qa,λi n=>?_,λi n=>?_⟩;{rw[rI g,show q+1-1=q from qa,show q+2-1=q+1 from qa,dM,<-p];rfl}
        ·by_cases e:i=q+1;{subst e;exact w};exact f i qa
        by_cases e:i=q;{subst e;rw[A];rfl};exact u i qa
       have Q:atE t q=(AF m.Xa e qt).U:=by
        rw[z];show AF t q qt=min (AF t q qt) (AF t (q+1) qt);omega
       rw[aj H,ah];have p:f9 (AF m.Xa e qt).XA.Xs=stpE m t q:=by rw[l];unfold prfE;rw[qc Q]
       rw[ab ⟨by simp[aZ];omega,by simp[aZ,au];omega⟩,ah,wn qa];refine⟨_,k-1,rfl,qa,q+2,?_,qa,λi n=>?_,λi n=>?_⟩;{rw[rI g,show q+1-1=q from qa,show q+2-1=q+1 from qa,dM,<-p]}
       ·by_cases e:i=q+1;{subst e;exact w};exact f i qa
       by_cases e:i=q;{subst e;rw[A];rfl};exact u i qa
      |none=>
       right;right;have a:((⟨nl,nl⟩:aH),AE)=dp s m t:=(FL (s:=s) qa (show q+1<AA t from qa) A).symm;by_cases D:∃e,e<AA m.Xa/\(AF m.Xa e qt).U=min (atE t q) (atE t (q+1))/\(AF m.Xa e qt).V=max (atE t q) (atE t (q+1));{obtain⟨e,B,z,M⟩:=D;have O:=SD A e B z M;rw[Fn I N B z M nn5];simp only[qG,qD];rw[aj qa,ab qa,ah,bJ O,afz];exact⟨_,rfl,a⟩};rw[aej I (x:=atE t q) (y:=atE t (q+1)) (λe he h=>D ⟨e,he,h⟩)];exact⟨_,rfl,a⟩
     right;right;refine⟨((⟨nl,nl⟩:aH),AE),?_,(mu λh=>w (h.2.2.2 j g)).symm⟩;by_cases d:AF t j qt<0;{rw[ai d];rfl};rw[aj d,ah,ai (show AF t j qt>=((AA m.Xc:Nat):Int) from qa)];rfl
    right;left;have:j=AA t:=qa;subst this;simp only;rw[aj qa];exact⟨_,rfl,by rw[xM (we _)],⟨N,c.1,c.2,f⟩,u⟩
   rintro y ⟨rfl,Z,C⟩;have hlm:AA (t.map (ptE m))=AA t:=by simp
   have z0:(0:Int).toNat=0:=rfl;simp only;by_cases d:AA t=1;{have hz:AF (t.map (ptE m)) 0 qt=ptE m (atE t 0):=RY qa;rw[bK qa,z0,ab qa,ab qa,ab qa,ab qa,hz,ab2 s jU jU];exact⟨_,rfl,(FM Z d).symm⟩};rw[bB qa];exact⟨_,rfl,(FK Z d C).symm⟩
  have a:=(mu (s:=s) (m:=m) (t:=t) λh=>c ⟨h.2.1,h.2.2.1⟩).symm;refine⟨_,?_,a⟩;by_cases d:((AA t:Nat):Int)<1;{rw[ai d];rfl};rw[aj d,ah,qg (show((AA t:Nat):Int)>256 from qa)];rfl
theorem afw (s:ak)(P:A8)(d:Int)(x:bD):(tstE s P d x).Xo≠0:=by unfold tstE iq stV;simp only;split;{decide};split<;>decide
section
variable {s:ak} {P:A8} {x y d:Int} (h0:0<=d) (h20:d<=20) {n:Nat} {E:Ao} (h:LzOk P n E) {K:Nat} (hk:∀i,i<K->(nxV P x y (itE s P x y d E i)).2.2.2=3)
include h0 h20 h hk
end
def NB (m:Int)(v:V3):Prop:= -m<=v.1/\v.1<=m/\ -m<=v.2.1/\v.2.1<=m/\ -m<=v.2.2/\v.2.2<=m
theorem NB.mono {a b:Int}{v:V3}(h:NB a v)(c:a<=b):NB b v:=by obtain⟨e,f,g,k,m,o⟩:=h;exact⟨qa,qa,qa,qa,qa,qa⟩
def ShOk (n:Nat)(x:bW):Prop:=fG n x=0
theorem Vj {n:Nat}{k t:Int}{a:List V3}(hk: -1<=k)(o:k<(n:Int))(h0:0<=t)(h1:t<4)(p:1<=AA a/\(AA a)<=4/\∀v∈a,NB 393216 v):
 ShOk n (⟨k,AG qs ((AG qs (AG qs (1+t) * 65536)).tdiv 8),a⟩:bW):=by
 have b:AG qs (1+t)=1+t:=w64 qa qa;have c:AG qs ((1+t) * 65536)=(1+t) * 65536:=w64 qa qa;have e:((1+t) * 65536).tdiv 8=(1+t) * 8192:=by
  rw[Int.tdiv_eq_ediv_of_nonneg qa];omega
 have f:AG qs ((1+t) * 8192)=(1+t) * 8192:=w64 qa qa;rw[b,c,e,f];obtain⟨H,I,r⟩:=p;unfold ShOk fG;have g:aA (farP a) (AA a)=true:=noneB_iff.2 λi m=>by
  obtain⟨w,z,A,B,C,D⟩:=r _ (aF m);unfold farP;rw[nearV_iff.2 ⟨⟨qa,qa⟩,⟨qa,qa⟩,qa,qa⟩];rfl
 have hl:(de n k&&betV ((1+t) * 8192) 1 1048576)=true:=by
  simp only[de,betV,ql,qf];omega
 dsimp only;rw[hl,g,qb (by rintro(h|h|h)<;>first|cases h|omega)];rfl
theorem Tt{e:A5}{f:Ag}(w:aQ r=0)(h1:AA e<=6)(m:∀x∈e,ShOk (AA r.Xb) x)(C:AA f<=1)
 (o:∀x∈f,(-1<=x.A/\x.A<(AA r.Xb:Int)/\ -1<=x.B/\x.B<(AA r.Xb:Int))):aM (⟨⟨r.Xb,r.Xl⟩,e,f⟩:ak)=0:=by
 have k:(⟨r.Xb,r.Xl⟩:ao)=r:=rfl;unfold aM;simp only[k];have z:scan (errS (AA r.Xb) e) (AA e) 0=none:=(di _ _).2 λj _ D=>by
  have g:=m _ (aF (l:=e) (i:=j) qa);unfold ShOk at g;unfold errS;rw[g];rfl
 have hk:aA (badK (AA r.Xb) f) (AA f)=true:=noneB_iff.2 λi p=>by
  obtain⟨a,b,c,d⟩:=o _ (aF p);unfold badK de;simp only[qg a,qg b,qg c,qg d];rfl
 rw[qb (by rw[w];simp),qb qa,z];simp only;rw[qb qa,hk];rfl
section
variable {l:A7} (hl:AA l<4294967296) {n:Int} (h0:0<=n) (h1:n<=(AA l:Int))
include hl h0 h1
theorem Pd {c:V3}(B:NB 294912 c):∃b:List V3×A7×Int,(vW l n c).o=AB b/\(b.2.1=l/\0<=b.2.2/\b.2.2<=(AA l:Int))/\(1<=AA b.1/\(AA b.1)<=4/\∀v∈b.1,NB 393216 v):=by
 have N:(vW l n c).o=(BI l n c).run NN:=rfl;rw[N];simp only[BI,qj];obtain⟨C,n1,e,a1,b1,J,d1⟩:=bM hl h0 h1 (k:=4) jU jU;rw[e,qG];simp only;obtain⟨M,S⟩:∃M:Nat,C=(M:Int):=⟨C.toNat,qa⟩;rw[S]
 refine g9 (g:=λb=>b) M qa (λj (y:A7×Int×List V3×Int)=>y.1=l/\0<=y.2.1/\y.2.1<=(AA l:Int)/\(AA y.2.2.1=j+1/\∀v∈y.2.2.1,NB 393216 v)/\y.2.2.2=(M:Int)- (j:Int))
  (λ(w:A7×Int×List V3)=>w.1=l/\0<=w.2.1/\w.2.1<=(AA l:Int)/\(1<=AA w.2.2/\(AA w.2.2)<=4/\∀v∈w.2.2,NB 393216 v)) ⟨rfl,J,d1,⟨rfl,λv hv=>by rw[wD.1 hv];exact B.mono jU⟩,jV⟩ (λj y hj A=>?_) (λy A=>?_) (λw a=>⟨_,rfl,⟨a.1,a.2.1,a.2.2.1⟩,a.2.2.2⟩)
 ·obtain⟨f,m,p,⟨R,z⟩,r⟩:=A;obtain⟨D,m1,U,u1,v1,w1,x1⟩:=eV hl m p (k:=3) jU jU;obtain⟨H,m2,V,u2,v2,Y,x2⟩:=eV hl w1 x1 (k:=2) jU jU;obtain⟨I,m3,X,u3,v3,Z,x3⟩:=eV hl Y x2 (k:=2) jU jU;rw[r,f,ai qa,U,qG,V,qG,X,qG];simp only;rw[ab ⟨jZ,by simp[au];omega⟩,w64 (x:=(M:Int)- (j:Int)-1) qa qa];refine⟨_,rfl,rfl,Z,x3,⟨jZ,λv hv=>?_⟩,j8⟩;rcases wC.1 hv with hv|hv;{exact z v hv};rw[wD.1 hv];obtain⟨k1,k2,k3,k4,k5,k6⟩:=B;have e:AG qs (D * 32768)=D * 32768:=w64 qa qa;have O:AG qs (H * 32768)=H * 32768:=w64 qa qa;have Q:AG qs (I * 32768)=I * 32768:=w64 qa qa;rw[e,O,Q,w64 (x:=c.1+_) qa qa,w64 (x:=c.2.1+_) qa qa,w64 (x:=c.2.2+_) qa qa];refine⟨?_,?_,?_,?_,?_,?_⟩<;>(dsimp only;omega)
 obtain⟨f,m,p,⟨R,z⟩,r⟩:=A;rw[r,aj qa];exact⟨_,rfl,f,m,p,j8,j8,z⟩
end
theorem abv (l:A7)(hl:AA l<4294967296):∃s:ak,(Du l).o=AB s/\(1<=AA s.Xe.Xb/\(AA s.Xe.Xb)<=3/\∀j∈s.Xe.Xb,JB j)/\aQ s.Xe=0/\aM s=0:=by
 have e0:(Du l).o=(Dv l).run NN:=rfl;rw[e0];simp only[Dv,qj];have ef:(nV l).o=AB (l,0):=rfl;rw[ef,qG];obtain⟨r,n0,er,A,m0,m1⟩:=abz hl (n:=0) qa qa;have A:(1<=AA r.Xb/\(AA r.Xb)<=3/\∀j∈r.Xb,JB j)/\aQ r=0:=⟨A,adC hl er⟩;rw[er,qG];simp only
 refine g9 (g:=λb=>b) (AA r.Xb) qa (λj (y:A7×Int×A5×Int)=>y.1=l/\0<=y.2.1/\y.2.1<=(AA l:Int)/\(AA y.2.2.1<=j/\∀x∈y.2.2.1,ShOk (AA r.Xb) x)/\y.2.2.2=(j:Int))
  (λ(w:A7×Int×A5)=>w.1=l/\0<=w.2.1/\w.2.1<=(AA l:Int)/\(AA w.2.2)<=3/\∀x∈w.2.2,ShOk (AA r.Xb) x) ⟨rfl,m0,m1,⟨by simp[nl],λx a=>by cases a⟩,rfl⟩ (λj y hj H=>?_) (λy H=>?_) (λz hz=>?_)
 ·obtain⟨f,m,p,⟨C,e⟩,D⟩:=H;obtain⟨J,R,I,u1,v1,w1,B⟩:=bM hl m p (k:=5) jU jU;obtain⟨s2,p2,N,u2,v2,O,Q⟩:=bM hl w1 B (k:=3) jU jU;obtain⟨V,p3,S,u3,v3,w3,x3⟩:=bM hl O Q (k:=4) jU jU;have e9:AG qs (V * 32768)=V * 32768:=w64 qa qa;obtain⟨⟨ps,l4,p4⟩,U,⟨t4,w4,x4⟩,b4⟩:=Pd hl w3 x3 (c:=(AG qs (V * 32768),0,0)) (by rw[e9];refine⟨?_,?_,?_,?_,?_,?_⟩<;>(dsimp only;omega));simp only at t4;subst t4;rw[D,f,ai qa,I,qG,wn qa];cases qu (J<4);{exact⟨_,rfl,rfl,w1,B,⟨j8,e⟩,rfl⟩};simp only[qe];rw[N,qG,S,qG,U,qG];simp only;rw[ab ⟨jZ,by simp[au];omega⟩,ah];refine⟨_,rfl,rfl,w4,x4,⟨jZ,λx a=>?_⟩,rfl⟩;rcases wC.1 a with a|a
  {exact e x a};rw[wD.1 a];exact Vj qa qa u2 qa b4
 {obtain⟨f,m,p,⟨C,e⟩,D⟩:=H;rw[D,aj qa];exact⟨_,rfl,f,m,p,j8,e⟩};obtain⟨f,m,p,C,e⟩:=hz;obtain⟨J,R,I,u1,v1,w1,B⟩:=bM hl m p (k:=3) jU jU;rw[f,I,qG];simp only;rw[w64 (x:=1+J) qa qa];obtain⟨M,hM⟩:∃M:Nat,1+J=(M:Int):=⟨(1+J).toNat,qa⟩;rw[hM]
 refine g9 (g:=λb=>b) M qa (λj (y:A7×Int×A5×Int)=>y.1=l/\0<=y.2.1/\y.2.1<=(AA l:Int)/\(AA y.2.2.1<=3+j/\∀x∈y.2.2.1,ShOk (AA r.Xb) x)/\y.2.2.2=(M:Int)- (j:Int))
  (λ(w:A7×Int×A5)=>w.1=l/\0<=w.2.1/\w.2.1<=(AA l:Int)/\(AA w.2.2)<=6/\∀x∈w.2.2,ShOk (AA r.Xb) x) ⟨rfl,w1,B,⟨j8,e⟩,jV⟩ (λj y hj H=>?_) (λy H=>?_) (λw hw=>?_)
 ·obtain⟨f,m,p,⟨C,e⟩,D⟩:=H;obtain⟨X,R,I,u1,v1,w1,B⟩:=eV hl m p (k:=9) jU jU;obtain⟨Y,p2,N,u2,v2,O,Q⟩:=eV hl w1 B (k:=9) jU jU;obtain⟨Z,p3,S,u3,v3,w3,x3⟩:=eV hl O Q (k:=2) jU jU;obtain⟨t4,p4,U,u4,v4,w4,x4⟩:=bM hl w3 x3 (k:=4) jU jU;have e1:AG qs (X * 32768)=X * 32768:=w64 qa qa;have e2:AG qs (Y * 32768)=Y * 32768:=w64 qa qa;have e3:AG qs (Z * 32768)=Z * 32768:=w64 qa qa;obtain⟨⟨ps,l5,p5⟩,q5,⟨t5,w5,x5⟩,b5⟩:=Pd hl w4 x4 (c:=(AG qs (X * 32768),AG qs (Y * 32768),AG qs (Z * 32768))) (by rw[e1,e2,e3];refine⟨?_,?_,?_,?_,?_,?_⟩<;>(dsimp only;omega));simp only at t5;subst t5;rw[D,f,ai qa,I,qG,N,qG,S,qG,U,qG,q5,qG];simp only;rw[ab ⟨jZ,by simp[au];omega⟩,w64 (x:=(M:Int)- (j:Int)-1) qa qa];refine⟨_,rfl,rfl,w5,x5,⟨jZ,λx a=>?_⟩,j8⟩;rcases wC.1 a with a|a;{exact e x a};rw[wD.1 a];exact Vj qa qa u4 qa b5
 {obtain⟨f,m,p,⟨C,e⟩,D⟩:=H;rw[D,aj qa];exact⟨_,rfl,f,m,p,j8,e⟩};obtain⟨f,m,p,C,e⟩:=hw;obtain⟨J,R,I,u1,v1,w1,B⟩:=bM hl m p (k:=5) jU jU;obtain⟨s2,p2,N,u2,v2,O,Q⟩:=bM hl w1 B (k:=(AA r.Xb:Int)) qa qa;rw[f,I,qG];cases J==1;{exact⟨_,rfl,A.1,A.2,Tt A.2 C e (by simp[nl]) (λx a=>by cases a)⟩};simp only[qe];rw[N,qG];simp only;rw[ab ⟨jV,by simp[au]⟩];refine⟨_,rfl,A.1,A.2,Tt A.2 C e jV (λx a=>?_)⟩;rw[wD.1 a];refine⟨?_,?_,?_,?_⟩<;>(dsimp only;omega)
theorem akm {W a b s:Int}{n:Nat}(o:n<=10)(m:1<=W)(d:W<=1024)(f: -4194304<=a/\a<=4194304)(h: -4194304<=b/\b<=4194304)(g:0<=s)(l:s<=(n:Int) * 8589934592):
 0<=AG qs (s+AG qs (W * max (AG qs (b-a)) (AG qs (a-b))))/\AG qs (s+AG qs (W * max (AG qs (b-a)) (AG qs (a-b))))<=((n+1:Nat):Int) * 8589934592:=by
 obtain⟨M,i,c,e⟩:∃M:Int,max (b-a) (a-b)=M/\0<=M/\M<=8388608:=⟨_,rfl,qa,qa⟩;have j:0<=W * M:=Int.mul_nonneg qa c;have k:W * M<=1024 * 8388608:=Int.mul_le_mul d e c jU;grind[w64]
theorem Vs{p:A7}(c:aQ r=0)(a:aI r p=AD){i:Nat}(d:i<AA r.Xb): -4194304<=AF p i qt/\AF p i qt<=4194304:=by have f:=(ec a).1;unfold aI at a;simp only[ql,noneB_iff]at a;have b:=a.2.2 i qa;unfold outJ at b;simp only[qo,qi]at b;have g:=(gV c d).lim;have e:=mK (AF r.Xb i qt).Xk;omega
theorem aiY{p q:A7}(d:aQ r=0)(g:aI r p=AD)(h:aI r q=AD):0<=dstV r p q/\dstV r p q<=1099511627776:=by
 unfold dstV;cases badD r p q
 ·have j:=(dA d).2.1;have e:∀n,n<=AA r.Xb->0<=sumD r p q n/\sumD r p q n<=(n:Int) * 8589934592:=by
   intro n;induction n with
   |zero=>intro _;exact⟨wM _,by show(0:Int)<=_;omega⟩
   |succ n f=>
    intro k;obtain⟨a,b⟩:=f qa;have c:=(gV d (i:=n) qa).cost;unfold lw betV at c;simp only[ql,qf]at c;exact akm qa c.1.1 c.1.2 (Vs d g qa) (Vs d h qa) a b
  grind
 simp_all
theorem aia{P:A8}{S:Nat->Nat->Prop}{f E:Ao}(i:aQ r=0)(p:∀c∈P,aI r c=AD)(e:E=f.take 8192)(g:MapE r P S f):WF ⟨P,E⟩:=by
 intro j h;refine⟨?_,λk=>?_⟩
 ·have:=aF h;rw[e]at this;obtain⟨a,b,o,m,-,n⟩:=(g.2 _).1 (xL this);grind[gy,aiY,newE]
 have l:SoE E:=by rw[e];exact g.1.sublist (List.take_sublist _ _)
 grind[xc,eLt,ltE]
theorem U5 {s:ak}{P:A8}{x y d:Int}(f:0<=d)(a:d<=20){n:Nat}{E:Ao}(h:LzOk P n E){K:Nat}(e:∀i,i<K->(nxV P x y (itE s P x y d E i)).2.2.2=3):
 ∀i,i<=K->∀j,j<AA E->(AF (itE s P x y d E i) j qt=AF E j qt\/AF (itE s P x y d E i) j qt=tstE s P d (AF E j qt))
 |0,_,j,_=>.inl rfl
 |i+1,t,j,l=>by
  have g:=U5 f a h e i qa;have m:=oT f a h e i qa;have b:itE s P x y d E (i+1)=stE s P x y d (itE s P x y d E i):=rfl;obtain⟨-,o,-⟩:=nh x y m.small;obtain⟨r,u,k,p⟩:=o.ed (e i qa);rw[b];unfold stE;rw[li qa];split
  ·rename_i c;subst c;rcases g _ l with q|q
   {right;rw[q]};rw[q]at k;exact absurd k (afw s P d _)
  exact g j l
theorem aih{s:ak}{t:A7}(w:MapF m):PaF (dp s m t).1:=by
 have g:PaF ⟨nl,nl⟩:=⟨by simp[nl],λc p=>(by cases p),by simp[nl],λe b=>(by cases b)⟩;by_cases k:lA m t
 ·by_cases h1:AA t=1;{rw[FM k h1];exact(ahy s jU jU _).f};by_cases o:∀i,i+1<AA t->(edX m (atE t i) (atE t (i+1))).isSome=AD
  ·rw[FK k h1 o];have r:=k.2.2.1;refine⟨jZ,λc p=>?_,by simp[aZ];omega,λy C=>?_⟩
   ·obtain⟨v,hv,rfl⟩:=xO.1 p;obtain⟨i,a,rfl⟩:=List.getElem_of_mem hv;have B:=k.2.2.2 i a;have e:atE t i=t[i]:=by show AF t i qt=_;simp[qY,xa a]
    rw[e]at B;exact w.1 _ (aF (l:=m.Xc) (i:=t[i].toNat) qa)
   obtain⟨i,a,rfl⟩:=xO.1 C;have a:=List.mem_range.1 a;have z:=o i qa;unfold stpE;cases b:edX m (atE t i) (atE t (i+1))with
   |none=>rw[b]at z;cases z
   |some e=>exact ajw w (F8 b).1 _
  have:∃i,i+1<AA t/\edX m (atE t i) (atE t (i+1))=none:=by
   refine xK λA=>o λi a=>?_
   cases b:edX m (atE t i) (atE t (i+1))with
   |none=>exact absurd ⟨i,a,b⟩ A
   |some e=>rfl
  obtain⟨i,a,b⟩:=this;rw[FL h1 a b];exact g
 rw[mu k];exact g
section
variable {s:ak} {P:A8} {d:Int} {E G F:Ao} (hz:∀j,j<AA E->(AF E j qt).Xo=0) (hG:AA G=AA E) (hF:AA F=AA E)
 (ho:∀j,j<AA E->(AF G j qt=AF E j qt\/AF G j qt=tstE s P d (AF E j qt))) (ht:∀j,j<AA E->AF F j qt=tstE s P d (AF E j qt))
include hz hG hF ho ht
end
theorem akj (s:ak){P:A8}{x:bD}{d:Int}(b:0<=d)(a:d<=20)(f:∀c∈P,AA c<=10)(j:x.U.toNat<AA P)(k:x.V.toNat<AA P):((tstE s P d x).XA.Xs.length<=4194304/\dg (tstE s P d x).XA.Xs<=4194304)/\
 ((tstE s P d x).Xo=1->(dH s (AF P x.U.toNat qt) (AF P x.V.toNat qt) (tstE s P d x).XA.Xs).2=0):=by
 have o:=f _ (aF j);have m:=f _ (aF k);obtain⟨-,h⟩:=uu s (AF P x.U.toNat qt) (AF P x.V.toNat qt) qa qa b a;have g:=h.bd;have l:=Si g;have n:=g.1;have e:(tstE s P d x).XA=pvR s (AF P x.U.toNat qt) (AF P x.V.toNat qt) d:=rfl;rw[e];refine⟨⟨qa,qa⟩,λi=>QF b a h ?_⟩;have i:stV (pvR s (AF P x.U.toNat qt) (AF P x.V.toNat qt) d).Xk=1:=i;grind[stV]
end Go.Abs
