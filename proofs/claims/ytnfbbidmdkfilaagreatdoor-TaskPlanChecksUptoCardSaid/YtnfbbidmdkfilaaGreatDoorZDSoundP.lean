import Derived.Test.YtnfbbidmdkfilaaGreatDoorZDSoundJ
import Derived.MapKept
open Array renaming toList_modify->zS
open Bool renaming and_eq_true->qm,not_eq_true'->qX
open Go renaming TypeId->qq,Value->qr,run_underlying->zd
open Go.Op renaming operands->za
open Go.Result renaming andThen_ok->xT
open Go.Sem renaming run_bind->xU,run_pure->xV
open List renaming modify_succ_cons->zR,mem_iff_getElem?->zT
namespace Go.Abs
variable {P:Program} {o:Oper} {env:Operand->AVal} {m:Mem} {id:Nat} {F:Cells} {w:World} {ρ:Env}
theorem az8f {p:PVal}{v:qr}(h:Nzz p v=true):PRel F w p v:=by
 cases p<;>cases v<;>simp[Nzz]at h
 ·subst h;exact .bool
 ·obtain⟨rfl,rfl⟩:=h;exact .int
theorem Rz3:∀ {ps:List PVal} {vs:List qr},gze ps vs=true->ps.length=vs.length/\∀ (j:Nat) (p:PVal) (v:qr),ps[j]?=some p->vs[j]?=some v->PRel F w p v
 |[],[],_=>⟨rfl,jq⟩
 |[],_::_,h=>by simp[gze]at h
 |_::_,[],h=>by simp[gze]at h
 |p::ps,v::vs,h=>by
  simp only[gze,qm]at h;obtain⟨a,b⟩:=Rz3 h.2
  grind[az8f]
theorem Tzd:∀ {b ps:List PVal} {vs:List qr},czm b ps=true->ps.length=vs.length->(∀ (j:Nat) (p:PVal) (v:qr),ps[j]?=some p->vs[j]?=some v->PRel F w p v)->gze ps vs=true
 |[],[],[],_,_,_=>rfl
 |[],[],_::_,_,h,_=>jt
 |[],_::_,_,h,_,_=>by simp[czm]at h
 |_::_,[],_,h,_,_=>by simp[czm]at h
 |_::_,_::_,[],_,h,_=>jt
 |t::b,p::ps,v::vs,h,d,a=>by
  simp only[czm,qm]at h;have c:=a 0 p v jq jq;have e:=Tzd h.2 (by simpa using d) (λj q u f g=>a (j+1) q u jr jr);simp only[gze,e,Bool.and_true];cases c<;>cases t<;>simp[Qzt]at h<;>simp[Nzz]
theorem Xz3:∀ {f p q:List PVal},czm f p=true->czm f q=true->∃r,ez1 p q=some r/\∀l,gze q l=true->gze p l=r
 |[],[],[],_,_=>⟨true,rfl,λl h=>qa⟩
 |[],_::_,_,h,_=>by simp[czm]at h
 |[],_,_::_,_,h=>by simp[czm]at h
 |_::_,[],_,h,_=>by simp[czm]at h
 |_::_,_,[],_,h=>by simp[czm]at h
 |t::f,a::p,b::q,d,e=>by
  simp only[czm,qm]at d e;obtain⟨r,g,i⟩:=Xz3 d.2 e.2;cases t<;>cases a<;>simp[Qzt]at d<;>cases b<;>simp[Qzt]at e
  ·rename_i x y;refine⟨(x==y)&&r,by simp[ez1,g],λl c=>?_⟩;cases l with
   |nil=>simp[gze]at c
   |cons v l=>
    simp only[gze,qm]at c⊢;rw[i l c.2];cases v<;>simp[Nzz]at c⊢
    rw[c.1]
  ·rename_i o n m k s j;obtain⟨rfl,d⟩:=d;obtain⟨rfl,e⟩:=e;refine⟨(k==j)&&r,by simp[ez1,g],λl c=>?_⟩;cases l with
   |nil=>simp[gze]at c
   |cons v l=>
    simp only[gze,qm]at c⊢;rw[i l c.2];cases v<;>simp[Nzz]at c⊢
    obtain⟨⟨rfl,rfl⟩,_⟩:=c;simp
theorem az08 {a p q:List PVal}(e:czm a p=true)(c:czm a q=true){v:qr}(b:iz1 q v=true):ez1 p q=some (iz1 p v):=by
 obtain⟨r,d,f⟩:=Xz3 e c;cases v<;>simp[iz1]at b
 rw[d,iz1,f _ b]
theorem xzp:∀ {b:List Nat} {a ps:List PVal},czm a ps=true->fits b a=true->fits b ps=true
 |[],[],[],_,_=>rfl
 |_,[],_::_,h,_=>by simp[czm]at h
 |_,_::_,[],h,_=>by simp[czm]at h
 |[],_::_,_::_,_,h=>by simp[fits]at h
 |_::_,[],[],_,h=>qa
 |k::b,t::a,p::ps,h,c=>by
  simp only[czm,fits,qm]at h c⊢;refine⟨?_,xzp h.2 c.2⟩;have e:=h.1;have d:=c.1;cases t<;>cases p<;>simp[Qzt]at e<;>revert d<;>unfold Oz7<;>split<;>simp_all
theorem Rz4 {e:qq}{D:Nat}{em:Bool}{a:List Nat}(b:Qzp P e a)(d:bzi P e=some a.length)
 (l:∀x ps,IsCells P F w e x ps->fits a ps=true->(Instr.checkKey em D e x).run P w=.ok () w) {xs:Array qr} {ps:List PVal} (n:ps.length=xs.size)
 (h:∀ (j:Nat) (p:PVal) (v:qr),ps[j]?=some p->xs[j]?=some v->PRel F w p v) {off:Nat} {c:List Nat} (f:fits (a++c) (ps.drop off)=true):
 ∃x,(part e xs off).run P w=.ok x w/\(Instr.checkKey em D e x).run P w=.ok () w/\fits c (ps.drop (off+a.length))=true:=by
 obtain⟨q,g,i⟩:=zzb f;rw[List.drop_drop]at g;simp only[List.length_drop]at i;by_cases m:off+a.length<=ps.length
 ·obtain⟨x,r,o⟩:=IsCells.part (P:=P) (F:=F) (w:=w) off d n h qa b
  grind
 ·rcases b with b|⟨b,f⟩
  ·have k:a.length=0:=qa
   refine⟨_,qzw (.inl ⟨b,a.length,d,rfl⟩),l _ [] (.inl ⟨b,_,rfl,jt,jq⟩) ?_,g⟩
   simp_all
  omega
theorem zz2 (em:Bool):∀ (d:Nat) (t:qq) (g:List Nat),tzw P d t=some g->∀ (D:Nat) (x:qr) (ps:List PVal),IsCells P F w t x ps->fits g ps=true->
 (Instr.checkKey em (D+d) t x).run P w=.ok () w
 |0,_,_,h,_,_,_,_,_=>by simp[tzw]at h
 |d+1,t,g,h,D,x,ps,R,N=>by
  rw[show D+(d+1)=(D+d)+1 from rfl];have C:ezn P t=some true->∃vs:Array qr,x=.agg vs/\ps.length=vs.size/\∀ (j:Nat) (p:PVal) (v:qr),ps[j]?=some p->vs[j]?=some v->PRel F w p v:=by
   rcases R with⟨_,s⟩|⟨s,_⟩;all_goals simp_all
  simp only[tzw]at h;split at h<;>rename_i r
  ·simp[Instr.checkKey,zd r]
  ·simp[Instr.checkKey,zd r]
  ·simp[Instr.checkKey,zd r]
  ·rename_i n e;split at h
   ·rename_i A J;split at h
    ·rename_i u;simp only[qm,qf,qX]at u;obtain⟨xs,rfl,E,m⟩:=C (by simp[ezn,r]);rw[Instr.checkKey];simp only[xU,zd r,xT]
     have z:∀ (k i:Nat),fits (List.replicate k A).flatten (ps.drop (i * A.length))=true->
      (forIn (List.range' i k) PUnit.unit λi _=>(do
       let a<-sizeOf e;let b<-part e xs (i * a)
       Instr.checkKey em (D+d) e b
       pure (ForInStep.yield PUnit.unit):Sem (ForInStep PUnit))).run P w=.ok PUnit.unit w:=by
      intro k;induction k with
      |zero=>simp_all
      |succ k I=>
       intro i q;obtain⟨y,H,K,M⟩:=Rz4 (em:=em) (D:=D+d) (Qzg J) u.1 (λx ps s G=>zz2 em d e A J D x ps s G) E m q
       simp_all[Nat.add_mul,List.range'_succ,bzx]
     simp_all
    grind
   grind
  ·rename_i O;split at h
   ·cases h
   ·obtain⟨xs,rfl,E,m⟩:=C (by simp[ezn,r]);rw[Instr.checkKey];simp only[xU,zd r,xT]
    have z:∀ (l:List Field) (off:Nat) (g:List Nat),Jzy P (tzw P d) l off=some g->fits g (ps.drop off)=true->
     (forIn l PUnit.unit λf _=>(if f.name≠ "_" then(do
      let b<-part f.type xs f.offset
      Instr.checkKey em (D+d) f.type b
      pure (ForInStep.yield PUnit.unit))else pure (ForInStep.yield PUnit.unit):Sem (ForInStep PUnit))).run P w=.ok PUnit.unit w:=by
     intro l;induction l with
     |nil=>simp
     |cons f l I=>
      intro off g c q;simp only[Jzy]at c;split at c
      ·rename_i L;simp only[qm,qf,bne_iff_ne,ne_eq]at L;obtain⟨rfl,o⟩:=L;split at c
       ·rename_i A s;split at c
        ·rename_i u;simp only[qm,qf,qX]at u;split at c
         ·rename_i T G;simp at c;subst c;obtain⟨y,H,K,M⟩:=Rz4 (em:=em) (D:=D+d) (Qzg s) u.1 (λx ps Q S=>zz2 em d f.type A s D x ps Q S) E m q;simp only[List.forIn_cons,ne_eq,o,not_false_eq_true,if_true,xU,H,K,xT,xV];exact I _ _ G M
         ·cases c
        ·cases c
       ·cases c
      ·cases c
    have:=z O.toList 0 g h (by simpa using N);simp at this;simp[this]
  ·cases h
theorem zz9 (p:List PVal):∀ (l:List MapEntry) (i:Nat),(iz0 p l i).map (·.2)=ezr p l
 |[],_=>rfl
 |e::l,i=>by
  simp only[iz0,ezr];split
  ·rfl
  ·exact zz9 p l (i+1)
theorem uzb {p:List PVal}:∀ {l:List MapEntry} {i n:Nat} {v:qr},iz0 p l i=some (n,v)->∃j e,n=i+j/\l[j]?=some e/\iz1 p e.key=true/\e.val=v
 |[],i,n,v,h=>by simp[iz0]at h
 |e::l,i,n,v,h=>by
  simp only[iz0]at h;split at h
  ·rename_i a;simp at h;exact⟨0,e,qa,jq,a,h.2⟩
  ·obtain⟨j,f,g,d,c,b⟩:=uzb h;exact⟨j+1,f,qa,by simpa using d,c,b⟩
theorem zzr {t:qq}(b:ezn P t=some true){q:List PVal}{v:qr}(h:iz1 q v=true):IsCells P F w t v q:=by
 cases v<;>simp[iz1]at h
 rename_i vs;obtain⟨e,a⟩:=Rz3 (F:=F) (w:=w) h;exact .inl ⟨b,vs,rfl,qa,λj p v c d=>a j p v c jr⟩
theorem az7z {k:qq}{j:List Nat}{m c:List PVal}{a:qr}(p:tzw P 20 k=some j)(n:ezn P k=some true)(f:fits j m=true)(d:czm m c=true)(b:iz1 c a=true):
 ∀ (l:List MapEntry) (i:Nat),(∀e∈l,∃q,czm m q=true/\iz1 q e.key=true)->(Instr.findAsking k a l i).run P w=.ok (iz0 c l i) w
 |[],i,_=>by rfl
 |e::l,i,o=>by
  obtain⟨q,r,s⟩:=o e jq;have g:=Qze (P:=P) (F:=λ_ _=>False) (w:=w) 20 k j p 9980 a e.key c q (iz1 c e.key) (zzr n b) (zzr n s) (xzp d f) (xzp r f) (az08 d r s);have h:(Op.equal k a e.key).run P w=.ok (iz1 c e.key) w:=g;simp only[Instr.findAsking,iz0,xU,h,xT];cases t:iz1 c e.key with
  |true=>simp
  |false=>
   exact az7z p n f d b l (i+1) (λe g=>o e (by simp[g]))
theorem run_findKey' {k:qq}{g:List Nat}{c f:List PVal}{a:qr}(o:tzw P 20 k=some g)(n:ezn P k=some true)(m:fits g c=true)(i:czm c f=true)(b:iz1 f a=true)
 (l:List MapEntry) (p:∀e∈l,∃q,czm c q=true/\iz1 q e.key=true):(Instr.findKey k a l).run P w=.ok (iz0 f l 0) w:=by
 obtain⟨d,j⟩:∃d,P.underlying k=some d:=by
  grind[ezn]
 simp only[Instr.findKey,xU,zd j,xT];have h:∃vs,a=.agg vs:=by cases a<;>simp[iz1]at b;simp_all
 cases l with
 |nil=>rfl
 |cons e l=>
  grind[Instr.sameNow,Instr.findNow,az7z]
theorem Oz3 (p:List PVal)(e:MapEntry):∀ (l:List MapEntry),ezr p (l++[e])=(ezr p l).or (if iz1 p e.key then some e.val else none)
 |[]=>by rfl
 |x::l=>by
  simp only[List.cons_append,ezr];split
  ·rfl
  ·exact Oz3 p e l
theorem Dzf {p:List PVal}{a v:qr}(d:iz1 p a=true):∀ (l:List MapEntry) (i n:Nat) (b:qr),iz0 p l i=some (i+n,b)->
 ezr p (l.modify n (λe=>{e with key:=a,val:=v}))=some v
 |[],i,n,b,h=>by simp[iz0]at h
 |e::l,i,n,b,h=>by
  simp only[iz0]at h;split at h
  ·simp at h;obtain⟨rfl,_⟩:=h;simp[ezr,d]
  ·rename_i c;obtain⟨j,g,k,_⟩:=uzb h;obtain⟨n,rfl⟩:∃f,n=f+1:=⟨n-1,qa⟩;rw[show i+(n+1)=i+1+n from qa]at h;simp only[zR,ezr,c,Bool.false_eq_true,if_false];exact Dzf d l (i+1) n b h
theorem zza {p q:List PVal}{a v:qr}(d:iz1 p a=true)(c:∀u,iz1 p u=true->iz1 q u=false):∀ (l:List MapEntry) (i n:Nat) (b:qr),iz0 p l i=some (i+n,b)->
 ezr q (l.modify n (λe=>{e with key:=a,val:=v}))=ezr q l
 |[],i,n,b,h=>jr
 |e::l,i,n,b,h=>by
  simp only[iz0]at h;split at h
  ·grind[ezr]
  ·obtain⟨j,k,g,_⟩:=uzb h;obtain⟨n,rfl⟩:∃f,n=f+1:=⟨n-1,qa⟩;rw[show i+(n+1)=i+1+n from qa]at h;simp only[zR,ezr];rw[zza d c l (i+1) n b h]
theorem Mz6:∀ {f p q:List PVal},czm f p=true->czm f q=true->ez1 p q=some true->p=q
 |[],[],[],_,_,_=>rfl
 |[],_::_,_,h,_,_=>by simp[czm]at h
 |[],_,_::_,_,h,_=>by simp[czm]at h
 |_::_,[],_,h,_,_=>by simp[czm]at h
 |_::_,_,[],_,h,_=>by simp[czm]at h
 |t::f,a::p,b::q,c,d,h=>by
  simp only[czm,qm]at c d;obtain⟨r,e,_⟩:=Xz3 c.2 d.2;cases t<;>cases a<;>simp[Qzt]at c<;>cases b<;>simp[Qzt]at d
  ·simp[ez1,e]at h;obtain⟨rfl,rfl⟩:=h;rw[Mz6 c d e]
  ·obtain⟨rfl,c⟩:=c;obtain⟨rfl,d⟩:=d;simp[ez1,e]at h;obtain⟨rfl,rfl⟩:=h;rw[Mz6 c d e]
theorem Izb {a p q:List PVal}(c:czm a p=true)(b:czm a q=true):(Czj q p=true/\q=p)\/(Czj q p=false/\∀u,iz1 p u=true->iz1 q u=false):=by
 grind[Czj,Mz6,az08]
theorem az3d {p:List PVal}{a b:qr}(h:iz1 p a=true)(i:iz1 p b=true):a=b/\Instr.sameBits 10000 a b=true:=by
 cases a<;>simp[iz1]at h
 cases b<;>simp[iz1]at i
 rename_i xs d;have g:∀ (p:List PVal) (xs d:List qr),gze p xs=true->gze p d=true->xs=d/\((xs.zip d).all λ(x,y)=>Instr.sameBits 9999 x y)=true:=by
  intro p;induction p with
  |nil=>intro xs d f e;cases xs<;>cases d<;>simp_all [gze]
  |cons c p n=>
   intro xs d f e;cases xs with
   |nil=>simp[gze]at f
   |cons x xs=>
    cases d with
    |nil=>simp[gze]at e
    |cons y d=>
     simp only[gze,qm]at f e;have k:=f.1;have j:=e.1;have:x=y/\Instr.sameBits 9999 x y=true:=by
      cases c<;>cases x<;>simp[Nzz]at k<;>cases y<;>simp[Nzz]at j
      all_goals grind[Instr.sameBits]
     grind[List.zip_cons_cons]
 obtain⟨m,l⟩:=g p xs.toList d.toList h i
 simp_all[Instr.sameBits]
theorem azcn {Mine:Nat->Prop}{M:Mem}{d:List PVal}{b:List PVal->Bool}{c:List PVal->PVal}{j:Nat}(g:MemOk F w ρ Mine M)(h:M.get j=some (.map d b c)):
 ∃f a,w.heap[ρ.blk j]?=some (.map f a)/\(∀o,¬F (ρ.blk j) o)/\(∀e∈f.toList,∃q,czm d q=true/\iz1 q e.key=true)/\
  (∀p,czm d p=true->ezr p f.toList=none->b p=false)/\(∀p v,czm d p=true->ezr p f.toList=some v->b p=true/\PRel F w (c p) v):=g.ok j _ h
theorem azf8 {e:qq}{z:PVal}(h:azj6 P e=some z):∃v,(zeroValue e).run P w=.ok v w/\PRel F w z v:=by
 unfold azj6 at h;split at h
 ·split at h
  ·rename_i k g;split at h
   ·rename_i ps c;cases h;obtain⟨m,f⟩:=kzo c;refine⟨.agg k,by simp_all[zeroValue,typeInfo],.agg jr (λj p v l i=>?_)⟩;obtain⟨a,b,d⟩:=f j p l;simp[i]at b;subst b;exact(gzy (F:=F) (w:=w) (ρ:=⟨λ_=>0,λ_=>none⟩) v).toP d
   grind
  ·rename_i v _ g;exact⟨v,by simp_all[zeroValue,typeInfo],(gzy (F:=F) (w:=w) (ρ:=⟨λ_=>0,λ_=>none⟩) v).toP h⟩
  grind
 grind
theorem azjp {i a:List PVal}{b:AVal}{v:qr}(e:b.toP=some (.agg a))(f:ARel F w ρ b v)(d:czm i a=true):iz1 a v=true:=by
 have:=f.toP e;cases this with
 |agg k h=>exact Tzd d qa (λj p v g l=>h j p v g jr)
theorem azid {t:qq}{x ix:Operand}{ok:Bool}{out:Out}(ho:o.op=.lookup t x ix ok)(h:Xzp P t (env x) (env ix) ok m=some out)(hob:holds out.obl):Sound1 P o env m id out:=by
 unfold Xzp at h;split at h
 ·rename_i k e j hu hx;split at h
  ·rename_i tm dom val cs hmj hix;split at h
   ·rename_i ks z hf hz;split at h
    ·rename_i hc;simp only[qm,qf]at hc;obtain⟨⟨hag,hft⟩,hal⟩:=hc;cases h;intro F w ρ Mine M a hm g fr hrd hfe ha;have hM:=hrd j jq;obtain⟨es,clock,hb,hF,hkeys,hn,hs⟩:=azcn hm (hM.trans hmj);have hxv:a.eval x=.map (some (ρ.blk j)):=by
      have:=hx▸ha x (by simp[ho,za]);generalize a.eval x=v at this;cases this;rfl
     have hkey:iz1 cs (a.eval ix)=true:=azjp hix (ha ix (by simp[ho,za])) hal;have hck:∀em,(Instr.checkKey em 10000 k (a.eval ix)).run P w=.ok () w:=λem=>zz2 (F:=λ_ _=>False) em 20 k ks hf 9980 _ cs (zzr hag hkey) (xzp hal hft)
     have hfk:=run_findKey' (w:=w) hf hag hft hal hkey es.toList hkeys;obtain⟨zv,hzv,hzr⟩:=azf8 (P:=P) (F:=F) (w:=w) hz;obtain⟨v,b,hv,hdb,hrun⟩:∃v b,PRel F w (val cs) v/\dom cs=b/\(Instr.lookup t (.map (some (ρ.blk j))) (a.eval ix) ok).run P w=.ok (if ok then .tuple #[v,.bool b]else v) w:=by
      cases hp:iz0 cs es.toList 0 with
      |none=>
       have hfv:ezr cs es.toList=none:=by rw[<-zz9 cs _ 0,hp];rfl
       have hd:=hn cs hal hfv;refine⟨zv,false,(hob hd).rel _ _ _ hzr,hd,?_⟩;rw[hp]at hfk;simp[Instr.lookup,zd hu,MapKept.run_getObj_map hb,hck,hfk,hzv]
      |some r=>
       obtain⟨n,v⟩:=r;have hfv:ezr cs es.toList=some v:=by rw[<-zz9 cs _ 0,hp];rfl
       obtain⟨hd,hr⟩:=hs cs v hal hfv;refine⟨v,true,hr,hd,?_⟩;rw[hp]at hfk;simp[Instr.lookup,zd hu,MapKept.run_getObj_map hb,hck,hfk]
     refine⟨if ok then .tuple #[v,.bool b]else v,w,F,ρ,.inl (by simp only[execOp,ho,xU,hxv,hrun,xT,xV]),Step.refl g,λ_ _=>⟨rfl,rfl⟩,?_,hm⟩;cases ok
     ·exact .pure hv
     ·simp only[if_true];refine .tup jq (λi a' v' h1 h2=>?_)
      match i with
      |0=>simp at h1 h2;subst h1;subst h2;exact .pure hv
      |1=>simp at h1 h2;subst h1;subst h2;rw[hdb];exact .pure .bool
      |n+2=>simp at h1
    ·cases h
   ·cases h
  ·cases h
 ·cases h
theorem azhf {Mine:Nat->Prop}{M:Mem}{j:Nat}{s:List PVal}{z c:List PVal->Bool}{u d:List PVal->PVal}{O a:Array MapEntry}{n clock':Nat}(t:MemOk F w ρ Mine M)(g:Good F w Mine)
 (A:M.get j=some (.map s z u)) (P:w.heap[ρ.blk j]?=some (.map O n)) (H:∀o,¬F (ρ.blk j) o)
 (E:∀e∈a.toList,∃q,czm s q=true/\iz1 q e.key=true) (K:∀p,czm s p=true->ezr p a.toList=none->c p=false)
 (C:∀p v,czm s p=true->ezr p a.toList=some v->c p=true/\PRel F w (d p) v):
 Step Mine F w F {w with heap:=w.heap.setIfInBounds (ρ.blk j) (.map a clock')}/\MemOk F {w with heap:=w.heap.setIfInBounds (ρ.blk j) (.map a clock')} ρ Mine ([(j,.map s c d)]++M):=by
 obtain⟨N,L⟩:=MapKept.heap_set (o':=.map a clock') P;have m:=t.mine j _ _ A (.inl rfl);have f:∀b o,F b o->({w with heap:=w.heap.setIfInBounds (ρ.blk j) (.map a clock')}:World).cell? ⟨b,o,none⟩=w.cell? ⟨b,o,none⟩:=by
  grind[World.cell?]
 have B:Step Mine F w F {w with heap:=w.heap.setIfInBounds (ρ.blk j) (.map a clock')}:=by
  refine⟨λ_ _ h=>h,f,λ_ _ h=>.inl h,λb o h=>by simpa using g.lt b o h,⟨rfl,rfl,rfl,jq,λk _ E=>?_⟩⟩
  grind
 refine⟨B,t.step B (λ_=>True) (λ_ _=>⟨rfl,rfl⟩) [(j,.map s c d)] (λi r hi R=>⟨trivial,λ_ h=>absurd trivial h,λb l=>⟨?_,λ_ h=>h⟩⟩) (λi r hi=>?_) (λi S r Q b hi I _ _=>?_)⟩
 ·refine L b (λe=>?_);have:=t.disj i j _ _ b hi A l (by rw[e];exact .inl rfl)
  grind[Mem.get]
 ·simp only[Mem.get]at hi;split at hi
  ·rename_i e;subst e;cases hi;refine⟨⟨a,clock',N,H,E,K,λp v G D=>⟨(C p v G D).1,(C p v G D).2.mono (λ_ _ h=>h) f⟩⟩,λb l=>?_⟩;simp only[Owns,mzh,or_false,bz8,Option.some.injEq]at l;subst l;refine⟨m.1,jr,λk Q x J y=>?_⟩;have:=t.disj k j _ _ _ x A y (.inl rfl)
   grind[Mem.get]
  simp_all
 grind[Mem.get]
theorem Tzo {t:qq}{x f y:Operand}{out:Out}(ho:o.op=.mapUpdate t x f y\/o.op=.insert t x f y)(h:zz8 P t (env x) (env f) (env y) m=some out):Sound1 P o env m id out:=by
 unfold zz8 at h;split at h
 ·rename_i k e j hu hx;split at h
  ·rename_i S O Z C p I X hy;split at h
   ·rename_i ks hf;split at h
    ·rename_i hc;simp only[qm,qf]at hc;obtain⟨⟨N,Q⟩,u⟩:=hc;cases h;intro F w ρ Mine M a hm g fr hrd hfe U;have hM:=hrd j jq;obtain⟨D,d,E,hF,l,hn,hs⟩:=azcn hm (hM.trans I);have z:x∈o.op.operands/\f∈o.op.operands/\y∈o.op.operands:=by grind[za]
     have hxv:a.eval x=.map (some (ρ.blk j)):=by
      have:=hx▸U x z.1;generalize a.eval x=v at this;cases this;rfl
     have b:iz1 C (a.eval f)=true:=azjp X (U f z.2.1) u;have hv:=(U y z.2.2).toP hy;have J:∀em,(Instr.checkKey em 10000 k (a.eval f)).run P w=.ok () w:=λem=>zz2 (F:=λ_ _=>False) em 20 k ks hf 9980 _ C (zzr N b) (xzp u Q)
     have A:=run_findKey' (w:=w) hf N Q u b D.toList l
     obtain⟨s,clock',hrun,T,hn',V⟩:∃s clock',(Instr.mapUpdate t (.map (some (ρ.blk j))) (a.eval f) (a.eval y)).run P w=.ok () {w with heap:=w.heap.setIfInBounds (ρ.blk j) (.map s clock')}/\
      (∀e∈s.toList,∃q,czm S q=true/\iz1 q e.key=true)/\(∀q,czm S q=true->ezr q s.toList=none->(Czj q C||O q)=false)/\
      (∀q v,czm S q=true->ezr q s.toList=some v->(Czj q C||O q)=true/\PRel F w (if Czj q C then p else Z q) v):=by
      cases R:iz0 C D.toList 0 with
      |none=>
       have hfv:ezr C D.toList=none:=by grind[zz9]
       rw[R]at A;refine⟨D.push {key:=a.eval f,val:=a.eval y,born:=d},d+1,?_,λe he=>?_,λq L c=>?_,λq v L c=>?_⟩
       ·simp[Instr.mapUpdate,zd hu,MapKept.run_getObj_map E,J,A,MapKept.run_setObj_map _ E]
       all_goals grind[Oz3,Izb]
      |some r=>
       obtain⟨n,H⟩:=r;obtain⟨j',e0,hj',hej,hke,_⟩:=uzb R;obtain⟨hee,hsb⟩:=az3d hke b;rw[R]at A;have B:iz0 C D.toList 0=some (0+n,H):=jr
       have Y:D[n]?=some e0:=jr
       have G:(Instr.keyThatStays e0.key (a.eval f)).run P w=.ok (a.eval f) w:=by
        simp_all[Instr.keyThatStays]
       refine⟨D.modify n (λe=>{e with key:=a.eval f,val:=a.eval y}),d,?_,λe he=>?_,λq L c=>?_,λq v L c=>?_⟩
       ·simp[Instr.mapUpdate,zd hu,MapKept.run_getObj_map E,J,A,Y,G,MapKept.run_setObj_map _ E]
       ·rw[zS]at he;obtain⟨i,hi⟩:=zT.1 he;rw[List.getElem?_modify]at hi;split at hi
        ·grind
        ·exact l e (zT.2 ⟨i,jr⟩)
       ·rw[zS]at c;rcases Izb u L with⟨W,rfl⟩|⟨W,h2⟩
        ·rw[Dzf b _ 0 n H B]at c;grind
        ·rw[zza b h2 _ 0 n H B]at c
         simp_all
       ·rw[zS]at c;rcases Izb u L with⟨W,rfl⟩|⟨W,h2⟩
        ·rw[Dzf b _ 0 n H B]at c
         simp_all
        ·rw[zza b h2 _ 0 n H B]at c
         simp_all
     obtain⟨st,hm'⟩:=azhf (clock':=clock') hm g (hM.trans I) E hF T hn' V;refine⟨undef,_,F,ρ,.inr ⟨?_,rfl⟩,st,λ_ _=>⟨rfl,rfl⟩,.any,hm'⟩
     grind[execOp,xU,xT,xV]
    grind
   grind
  grind
 grind
theorem azeo {t:qq}{out:Out}(f:o.op=.makeMap t none)(h:Rzn P t id=some out):Sound1 P o env m id out:=by
 unfold Rzn at h;split at h
 ·split at h
  ·rename_i D z E H;cases h;intro F w ρ Mine M a l g y _ C J;have n:Step Mine F w F (w.alloc (.map #[] 0)):=by
    have s:=Step.alloc g (.map #[] 0) (λ_=>False)
    simp_all
   let ρ':=ρ.setBlk id w.heap.size;have u:ρ'.blk id=w.heap.size:=qc rfl;have A:dz4 id ρ ρ':=λi hi=>⟨qb (λh=>hi ⟨qa,qa⟩),rfl⟩
   refine⟨.map (some w.heap.size),w.alloc (.map #[] 0),F,ρ',.inl ?_,n,A,?_,?_⟩
   ·simp[execOp,f,Instr.makeMap]
   ·rw[<-u];exact .map
   ·refine l.step n (λi=>¬Own id i) A [(id,.map D (λ_=>false) (λ_=>z))] (λj r d _=>⟨λf=>?_,λi hi=>y.has i j r (Classical.not_not.1 hi) d,λb c=>⟨heap_alloc_old w _ (l.mine j r b d c).2,λ_ h=>h⟩⟩) (λj r d=>?_) (λj I r x b d G _ _=>?_)
    ·have:=y.none j f;simp_all
    ·simp only[Mem.get]at d;split at d
     ·rename_i e;subst e;cases d;refine⟨⟨#[],0,by grind[heap_alloc_new],λo f=>by exact absurd (g.lt _ _ f) qa,jq,λ_ _ _=>rfl,λp v _ h=>by simp[ezr]at h⟩,λb c=>?_⟩;simp only[Owns,mzh,or_false,bz8,u,Option.some.injEq]at c;subst c;exact⟨g.mine _ (Nat.le_refl _),jq,λq x B _ k=>absurd (l.mine q x _ B k).2 qa⟩
     simp_all
    grind[Mem.get]
  grind
 grind
end Go.Abs
