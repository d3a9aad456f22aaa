import Derived.Test.YtnfbbidmdkfilaaGreatDoorZESoundJ
import Derived.MapKept
open Array renaming toList_modify->zV
open Bool renaming and_eq_true->qm,not_eq_true'->qX
open Go renaming TypeId->qq,Value->qr,run_underlying->zf
open Go.Op renaming operands->zb
open Go.Result renaming andThen_ok->xU
open Go.Sem renaming run_bind->xV,run_pure->xW
open List renaming modify_succ_cons->zU,mem_iff_getElem?->zW
namespace Go.Abs
variable {P:Program} {o:Oper} {env:Operand->AVal} {m:Mem} {id:Nat} {F:Cells} {w:World} {ρ:Env}
theorem az6i {p:PVal}{v:qr}(h:Mzx p v=true):PRel F w p v:=by
 cases p<;>cases v<;>simp[Mzx]at h
 ·subst h;exact .bool
 ·obtain⟨rfl,rfl⟩:=h;exact .int
theorem Pzw:∀ {ps:List PVal} {vs:List qr},gz3 ps vs=true->ps.length=vs.length/\∀ (j:Nat) (p:PVal) (v:qr),ps[j]?=some p->vs[j]?=some v->PRel F w p v
 |[],[],_=>⟨rfl,jt⟩
 |[],_::_,h=>by simp[gz3]at h
 |_::_,[],h=>by simp[gz3]at h
 |p::ps,v::vs,h=>by
  simp only[gz3,qm]at h;obtain⟨a,b⟩:=Pzw h.2
  grind[az6i]
theorem Sz8:∀ {b ps:List PVal} {vs:List qr},czg b ps=true->ps.length=vs.length->(∀ (j:Nat) (p:PVal) (v:qr),ps[j]?=some p->vs[j]?=some v->PRel F w p v)->gz3 ps vs=true
 |[],[],[],_,_,_=>rfl
 |[],[],_::_,_,h,_=>jv
 |[],_::_,_,h,_,_=>by simp[czg]at h
 |_::_,[],_,h,_,_=>by simp[czg]at h
 |_::_,_::_,[],_,h,_=>jv
 |t::b,p::ps,v::vs,h,d,a=>by
  simp only[czg,qm]at h;have c:=a 0 p v jt jt;have e:=Sz8 h.2 (by simpa using d) (λj q u f g=>a (j+1) q u ju ju);simp only[gz3,e,Bool.and_true];cases c<;>cases t<;>simp[Pzl]at h<;>simp[Mzx]
theorem Vzr:∀ {f p q:List PVal},czg f p=true->czg f q=true->∃r,dzv p q=some r/\∀l,gz3 q l=true->gz3 p l=r
 |[],[],[],_,_=>⟨true,rfl,λl h=>qa⟩
 |[],_::_,_,h,_=>by simp[czg]at h
 |[],_,_::_,_,h=>by simp[czg]at h
 |_::_,[],_,h,_=>by simp[czg]at h
 |_::_,_,[],_,h=>by simp[czg]at h
 |t::f,a::p,b::q,d,e=>by
  simp only[czg,qm]at d e;obtain⟨r,g,i⟩:=Vzr d.2 e.2;cases t<;>cases a<;>simp[Pzl]at d<;>cases b<;>simp[Pzl]at e
  ·rename_i x y;refine⟨(x==y)&&r,by simp[dzv,g],λl c=>?_⟩;cases l with
   |nil=>simp[gz3]at c
   |cons v l=>
    simp only[gz3,qm]at c⊢;rw[i l c.2];cases v<;>simp[Mzx]at c⊢
    rw[c.1]
  ·rename_i o n m k s j;obtain⟨rfl,d⟩:=d;obtain⟨rfl,e⟩:=e;refine⟨(k==j)&&r,by simp[dzv,g],λl c=>?_⟩;cases l with
   |nil=>simp[gz3]at c
   |cons v l=>
    simp only[gz3,qm]at c⊢;rw[i l c.2];cases v<;>simp[Mzx]at c⊢
    obtain⟨⟨rfl,rfl⟩,_⟩:=c;simp
theorem Yzu {a p q:List PVal}(e:czg a p=true)(c:czg a q=true){v:qr}(b:hzn q v=true):dzv p q=some (hzn p v):=by
 obtain⟨r,d,f⟩:=Vzr e c;cases v<;>simp[hzn]at b
 rw[d,hzn,f _ b]
theorem wzv:∀ {b:List Nat} {a ps:List PVal},czg a ps=true->fits b a=true->fits b ps=true
 |[],[],[],_,_=>rfl
 |_,[],_::_,h,_=>by simp[czg]at h
 |_,_::_,[],h,_=>by simp[czg]at h
 |[],_::_,_::_,_,h=>by simp[fits]at h
 |_::_,[],[],_,h=>qa
 |k::b,t::a,p::ps,h,c=>by
  simp only[czg,fits,qm]at h c⊢;refine⟨?_,wzv h.2 c.2⟩;have e:=h.1;have d:=c.1;cases t<;>cases p<;>simp[Pzl]at e<;>revert d<;>unfold Nz4<;>split<;>simp_all
theorem Pzy {e:qq}{D:Nat}{em:Bool}{a:List Nat}(b:Pzj P e a)(d:bzi P e=some a.length)
 (l:∀x ps,IsCells P F w e x ps->fits a ps=true->(Instr.checkKey em D e x).run P w=.ok () w) {xs:Array qr} {ps:List PVal} (n:ps.length=xs.size)
 (h:∀ (j:Nat) (p:PVal) (v:qr),ps[j]?=some p->xs[j]?=some v->PRel F w p v) {off:Nat} {c:List Nat} (f:fits (a++c) (ps.drop off)=true):
 ∃x,(part e xs off).run P w=.ok x w/\(Instr.checkKey em D e x).run P w=.ok () w/\fits c (ps.drop (off+a.length))=true:=by
 obtain⟨q,g,i⟩:=yzf f;rw[List.drop_drop]at g;simp only[List.length_drop]at i;by_cases m:off+a.length<=ps.length
 ·obtain⟨x,r,o⟩:=IsCells.part (P:=P) (F:=F) (w:=w) off d n h qa b
  grind
 ·rcases b with b|⟨b,f⟩
  ·have k:a.length=0:=qa
   refine⟨_,qz9 (.inl ⟨b,a.length,d,rfl⟩),l _ [] (.inl ⟨b,_,rfl,jv,jt⟩) ?_,g⟩
   simp_all
  omega
theorem yz6 (em:Bool):∀ (d:Nat) (t:qq) (g:List Nat),tz3 P d t=some g->∀ (D:Nat) (x:qr) (ps:List PVal),IsCells P F w t x ps->fits g ps=true->
 (Instr.checkKey em (D+d) t x).run P w=.ok () w
 |0,_,_,h,_,_,_,_,_=>by simp[tz3]at h
 |d+1,t,g,h,D,x,ps,R,N=>by
  rw[show D+(d+1)=(D+d)+1 from rfl];have C:ezh P t=some true->∃vs:Array qr,x=.agg vs/\ps.length=vs.size/\∀ (j:Nat) (p:PVal) (v:qr),ps[j]?=some p->vs[j]?=some v->PRel F w p v:=by
   rcases R with⟨_,s⟩|⟨s,_⟩;all_goals simp_all
  simp only[tz3]at h;split at h<;>rename_i r
  ·simp[Instr.checkKey,zf r]
  ·simp[Instr.checkKey,zf r]
  ·simp[Instr.checkKey,zf r]
  ·rename_i n e;split at h
   ·rename_i A J;split at h
    ·rename_i u;simp only[qm,qf,qX]at u;obtain⟨xs,rfl,E,m⟩:=C (by simp[ezh,r]);rw[Instr.checkKey];simp only[xV,zf r,xU]
     have z:∀ (k i:Nat),fits (List.replicate k A).flatten (ps.drop (i * A.length))=true->
      (forIn (List.range' i k) PUnit.unit λi _=>(do
       let a<-sizeOf e;let b<-part e xs (i * a)
       Instr.checkKey em (D+d) e b
       pure (ForInStep.yield PUnit.unit):Sem (ForInStep PUnit))).run P w=.ok PUnit.unit w:=by
      intro k;induction k with
      |zero=>simp_all
      |succ k I=>
       intro i q;obtain⟨y,H,K,M⟩:=Pzy (em:=em) (D:=D+d) (Pzb J) u.1 (λx ps s G=>yz6 em d e A J D x ps s G) E m q
       simp_all[Nat.add_mul,List.range'_succ,bzx]
     simp_all
    grind
   grind
  ·rename_i O;split at h
   ·cases h
   ·obtain⟨xs,rfl,E,m⟩:=C (by simp[ezh,r]);rw[Instr.checkKey];simp only[xV,zf r,xU]
    have z:∀ (l:List Field) (off:Nat) (g:List Nat),Izu P (tz3 P d) l off=some g->fits g (ps.drop off)=true->
     (forIn l PUnit.unit λf _=>(if f.name≠ "_" then(do
      let b<-part f.type xs f.offset
      Instr.checkKey em (D+d) f.type b
      pure (ForInStep.yield PUnit.unit))else pure (ForInStep.yield PUnit.unit):Sem (ForInStep PUnit))).run P w=.ok PUnit.unit w:=by
     intro l;induction l with
     |nil=>simp
     |cons f l I=>
      intro off g c q;simp only[Izu]at c;split at c
      ·rename_i L;simp only[qm,qf,bne_iff_ne,ne_eq]at L;obtain⟨rfl,o⟩:=L;split at c
       ·rename_i A s;split at c
        ·rename_i u;simp only[qm,qf,qX]at u;split at c
         ·rename_i T G;simp at c;subst c;obtain⟨y,H,K,M⟩:=Pzy (em:=em) (D:=D+d) (Pzb s) u.1 (λx ps Q S=>yz6 em d f.type A s D x ps Q S) E m q;simp only[List.forIn_cons,ne_eq,o,not_false_eq_true,if_true,xV,H,K,xU,xW];exact I _ _ G M
         ·cases c
        ·cases c
       ·cases c
      ·cases c
    have:=z O.toList 0 g h (by simpa using N);simp at this;simp[this]
  ·cases h
theorem yzd (p:List PVal):∀ (l:List MapEntry) (i:Nat),(hzm p l i).map (·.2)=ezm p l
 |[],_=>rfl
 |e::l,i=>by
  simp only[hzm,ezm];split
  ·rfl
  ·exact yzd p l (i+1)
theorem tzh {p:List PVal}:∀ {l:List MapEntry} {i n:Nat} {v:qr},hzm p l i=some (n,v)->∃j e,n=i+j/\l[j]?=some e/\hzn p e.key=true/\e.val=v
 |[],i,n,v,h=>by simp[hzm]at h
 |e::l,i,n,v,h=>by
  simp only[hzm]at h;split at h
  ·rename_i a;simp at h;exact⟨0,e,qa,jt,a,h.2⟩
  ·obtain⟨j,f,g,d,c,b⟩:=tzh h;exact⟨j+1,f,qa,by simpa using d,c,b⟩
theorem yzv {t:qq}(b:ezh P t=some true){q:List PVal}{v:qr}(h:hzn q v=true):IsCells P F w t v q:=by
 cases v<;>simp[hzn]at h
 rename_i vs;obtain⟨e,a⟩:=Pzw (F:=F) (w:=w) h;exact .inl ⟨b,vs,rfl,qa,λj p v c d=>a j p v c ju⟩
theorem az5z {k:qq}{j:List Nat}{m c:List PVal}{a:qr}(p:tz3 P 20 k=some j)(n:ezh P k=some true)(f:fits j m=true)(d:czg m c=true)(b:hzn c a=true):
 ∀ (l:List MapEntry) (i:Nat),(∀e∈l,∃q,czg m q=true/\hzn q e.key=true)->(Instr.findAsking k a l i).run P w=.ok (hzm c l i) w
 |[],i,_=>by rfl
 |e::l,i,o=>by
  obtain⟨q,r,s⟩:=o e jt;have g:=Pz9 (P:=P) (F:=λ_ _=>False) (w:=w) 20 k j p 9980 a e.key c q (hzn c e.key) (yzv n b) (yzv n s) (wzv d f) (wzv r f) (Yzu d r s);have h:(Op.equal k a e.key).run P w=.ok (hzn c e.key) w:=g;simp only[Instr.findAsking,hzm,xV,h,xU];cases t:hzn c e.key with
  |true=>simp
  |false=>
   exact az5z p n f d b l (i+1) (λe g=>o e (by simp[g]))
theorem run_findKey' {k:qq}{g:List Nat}{c f:List PVal}{a:qr}(o:tz3 P 20 k=some g)(n:ezh P k=some true)(m:fits g c=true)(i:czg c f=true)(b:hzn f a=true)
 (l:List MapEntry) (p:∀e∈l,∃q,czg c q=true/\hzn q e.key=true):(Instr.findKey k a l).run P w=.ok (hzm f l 0) w:=by
 obtain⟨d,j⟩:∃d,P.underlying k=some d:=by
  grind[ezh]
 simp only[Instr.findKey,xV,zf j,xU];have h:∃vs,a=.agg vs:=by cases a<;>simp[hzn]at b;simp_all
 cases l with
 |nil=>rfl
 |cons e l=>
  grind[Instr.sameNow,Instr.findNow,az5z]
theorem Nz1 (p:List PVal)(e:MapEntry):∀ (l:List MapEntry),ezm p (l++[e])=(ezm p l).or (if hzn p e.key then some e.val else none)
 |[]=>by rfl
 |x::l=>by
  simp only[List.cons_append,ezm];split
  ·rfl
  ·exact Nz1 p e l
theorem Czg {p:List PVal}{a v:qr}(d:hzn p a=true):∀ (l:List MapEntry) (i n:Nat) (b:qr),hzm p l i=some (i+n,b)->
 ezm p (l.modify n (λe=>{e with key:=a,val:=v}))=some v
 |[],i,n,b,h=>by simp[hzm]at h
 |e::l,i,n,b,h=>by
  simp only[hzm]at h;split at h
  ·simp at h;obtain⟨rfl,_⟩:=h;simp[ezm,d]
  ·rename_i c;obtain⟨j,g,k,_⟩:=tzh h;obtain⟨n,rfl⟩:∃f,n=f+1:=⟨n-1,qa⟩;rw[show i+(n+1)=i+1+n from qa]at h;simp only[zU,ezm,c,Bool.false_eq_true,if_false];exact Czg d l (i+1) n b h
theorem yze {p q:List PVal}{a v:qr}(d:hzn p a=true)(c:∀u,hzn p u=true->hzn q u=false):∀ (l:List MapEntry) (i n:Nat) (b:qr),hzm p l i=some (i+n,b)->
 ezm q (l.modify n (λe=>{e with key:=a,val:=v}))=ezm q l
 |[],i,n,b,h=>ju
 |e::l,i,n,b,h=>by
  simp only[hzm]at h;split at h
  ·grind[ezm]
  ·obtain⟨j,k,g,_⟩:=tzh h;obtain⟨n,rfl⟩:∃f,n=f+1:=⟨n-1,qa⟩;rw[show i+(n+1)=i+1+n from qa]at h;simp only[zU,ezm];rw[yze d c l (i+1) n b h]
theorem Lz1:∀ {f p q:List PVal},czg f p=true->czg f q=true->dzv p q=some true->p=q
 |[],[],[],_,_,_=>rfl
 |[],_::_,_,h,_,_=>by simp[czg]at h
 |[],_,_::_,_,h,_=>by simp[czg]at h
 |_::_,[],_,h,_,_=>by simp[czg]at h
 |_::_,_,[],_,h,_=>by simp[czg]at h
 |t::f,a::p,b::q,c,d,h=>by
  simp only[czg,qm]at c d;obtain⟨r,e,_⟩:=Vzr c.2 d.2;cases t<;>cases a<;>simp[Pzl]at c<;>cases b<;>simp[Pzl]at d
  ·simp[dzv,e]at h;obtain⟨rfl,rfl⟩:=h;rw[Lz1 c d e]
  ·obtain⟨rfl,c⟩:=c;obtain⟨rfl,d⟩:=d;simp[dzv,e]at h;obtain⟨rfl,rfl⟩:=h;rw[Lz1 c d e]
theorem Hzi {a p q:List PVal}(c:czg a p=true)(b:czg a q=true):(Bzi q p=true/\q=p)\/(Bzi q p=false/\∀u,hzn p u=true->hzn q u=false):=by
 grind[Bzi,Lz1,Yzu]
theorem az1j {p:List PVal}{a b:qr}(h:hzn p a=true)(i:hzn p b=true):a=b/\Instr.sameBits 10000 a b=true:=by
 cases a<;>simp[hzn]at h
 cases b<;>simp[hzn]at i
 rename_i xs d;have g:∀ (p:List PVal) (xs d:List qr),gz3 p xs=true->gz3 p d=true->xs=d/\((xs.zip d).all λ(x,y)=>Instr.sameBits 9999 x y)=true:=by
  intro p;induction p with
  |nil=>intro xs d f e;cases xs<;>cases d<;>simp_all [gz3]
  |cons c p n=>
   intro xs d f e;cases xs with
   |nil=>simp[gz3]at f
   |cons x xs=>
    cases d with
    |nil=>simp[gz3]at e
    |cons y d=>
     simp only[gz3,qm]at f e;have k:=f.1;have j:=e.1;have:x=y/\Instr.sameBits 9999 x y=true:=by
      cases c<;>cases x<;>simp[Mzx]at k<;>cases y<;>simp[Mzx]at j
      all_goals grind[Instr.sameBits]
     grind[List.zip_cons_cons]
 obtain⟨m,l⟩:=g p xs.toList d.toList h i
 simp_all[Instr.sameBits]
theorem azab {Mine:Nat->Prop}{M:Mem}{d:List PVal}{b:List PVal->Bool}{c:List PVal->PVal}{j:Nat}(g:MemOk F w ρ Mine M)(h:M.get j=some (.map d b c)):
 ∃f a,w.heap[ρ.blk j]?=some (.map f a)/\(∀o,¬F (ρ.blk j) o)/\(∀e∈f.toList,∃q,czg d q=true/\hzn q e.key=true)/\
  (∀p,czg d p=true->ezm p f.toList=none->b p=false)/\(∀p v,czg d p=true->ezm p f.toList=some v->b p=true/\PRel F w (c p) v):=g.ok j _ h
theorem azcp {e:qq}{z:PVal}(h:azgd P e=some z):∃v,(zeroValue e).run P w=.ok v w/\PRel F w z v:=by
 unfold azgd at h;split at h
 ·split at h
  ·rename_i k g;split at h
   ·rename_i ps c;cases h;obtain⟨m,f⟩:=kza c;refine⟨.agg k,by simp_all[zeroValue,typeInfo],.agg ju (λj p v l i=>?_)⟩;obtain⟨a,b,d⟩:=f j p l;simp[i]at b;subst b;exact(gzn (F:=F) (w:=w) (ρ:=⟨λ_=>0,λ_=>none⟩) v).toP d
   grind
  ·rename_i v _ g;exact⟨v,by simp_all[zeroValue,typeInfo],(gzn (F:=F) (w:=w) (ρ:=⟨λ_=>0,λ_=>none⟩) v).toP h⟩
  grind
 grind
theorem azgw {i a:List PVal}{b:AVal}{v:qr}(e:b.toP=some (.agg a))(f:ARel F w ρ b v)(d:czg i a=true):hzn a v=true:=by
 have:=f.toP e;cases this with
 |agg k h=>exact Sz8 d qa (λj p v g l=>h j p v g ju)
theorem azfj {t:qq}{x ix:Operand}{ok:Bool}{out:Out}(ho:o.op=.lookup t x ix ok)(h:Wza P t (env x) (env ix) ok m=some out)(hob:holds out.obl):Sound1 P o env m id out:=by
 unfold Wza at h;split at h
 ·rename_i k e j hu hx;split at h
  ·rename_i tm dom val cs hmj hix;split at h
   ·rename_i ks z hf hz;split at h
    ·rename_i hc;simp only[qm,qf]at hc;obtain⟨⟨hag,hft⟩,hal⟩:=hc;cases h;intro F w ρ Mine M a hm g fr hrd hfe ha;have hM:=hrd j jt;obtain⟨es,clock,hb,hF,hkeys,hn,hs⟩:=azab hm (hM.trans hmj);have hxv:a.eval x=.map (some (ρ.blk j)):=by
      have:=hx▸ha x (by simp[ho,zb]);generalize a.eval x=v at this;cases this;rfl
     have hkey:hzn cs (a.eval ix)=true:=azgw hix (ha ix (by simp[ho,zb])) hal;have hck:∀em,(Instr.checkKey em 10000 k (a.eval ix)).run P w=.ok () w:=λem=>yz6 (F:=λ_ _=>False) em 20 k ks hf 9980 _ cs (yzv hag hkey) (wzv hal hft)
     have hfk:=run_findKey' (w:=w) hf hag hft hal hkey es.toList hkeys;obtain⟨zv,hzv,hzr⟩:=azcp (P:=P) (F:=F) (w:=w) hz;obtain⟨v,b,hv,hdb,hrun⟩:∃v b,PRel F w (val cs) v/\dom cs=b/\(Instr.lookup t (.map (some (ρ.blk j))) (a.eval ix) ok).run P w=.ok (if ok then .tuple #[v,.bool b]else v) w:=by
      cases hp:hzm cs es.toList 0 with
      |none=>
       have hfv:ezm cs es.toList=none:=by rw[<-yzd cs _ 0,hp];rfl
       have hd:=hn cs hal hfv;refine⟨zv,false,(hob hd).rel _ _ _ hzr,hd,?_⟩;rw[hp]at hfk;simp[Instr.lookup,zf hu,MapKept.run_getObj_map hb,hck,hfk,hzv]
      |some r=>
       obtain⟨n,v⟩:=r;have hfv:ezm cs es.toList=some v:=by rw[<-yzd cs _ 0,hp];rfl
       obtain⟨hd,hr⟩:=hs cs v hal hfv;refine⟨v,true,hr,hd,?_⟩;rw[hp]at hfk;simp[Instr.lookup,zf hu,MapKept.run_getObj_map hb,hck,hfk]
     refine⟨if ok then .tuple #[v,.bool b]else v,w,F,ρ,.inl (by simp only[execOp,ho,xV,hxv,hrun,xU,xW]),Step.refl g,λ_ _=>⟨rfl,rfl⟩,?_,hm⟩;cases ok
     ·exact .pure hv
     ·simp only[if_true];refine .tup jt (λi a' v' h1 h2=>?_)
      match i with
      |0=>simp at h1 h2;subst h1;subst h2;exact .pure hv
      |1=>simp at h1 h2;subst h1;subst h2;rw[hdb];exact .pure .bool
      |n+2=>simp at h1
    ·cases h
   ·cases h
  ·cases h
 ·cases h
theorem azev {Mine:Nat->Prop}{M:Mem}{j:Nat}{s:List PVal}{z c:List PVal->Bool}{u d:List PVal->PVal}{O a:Array MapEntry}{n clock':Nat}(t:MemOk F w ρ Mine M)(g:Good F w Mine)
 (A:M.get j=some (.map s z u)) (P:w.heap[ρ.blk j]?=some (.map O n)) (H:∀o,¬F (ρ.blk j) o)
 (E:∀e∈a.toList,∃q,czg s q=true/\hzn q e.key=true) (K:∀p,czg s p=true->ezm p a.toList=none->c p=false)
 (C:∀p v,czg s p=true->ezm p a.toList=some v->c p=true/\PRel F w (d p) v):
 Step Mine F w F {w with heap:=w.heap.setIfInBounds (ρ.blk j) (.map a clock')}/\MemOk F {w with heap:=w.heap.setIfInBounds (ρ.blk j) (.map a clock')} ρ Mine ([(j,.map s c d)]++M):=by
 obtain⟨N,L⟩:=MapKept.heap_set (o':=.map a clock') P;have m:=t.mine j _ _ A (.inl rfl);have f:∀b o,F b o->({w with heap:=w.heap.setIfInBounds (ρ.blk j) (.map a clock')}:World).cell? ⟨b,o,none⟩=w.cell? ⟨b,o,none⟩:=by
  grind[World.cell?]
 have B:Step Mine F w F {w with heap:=w.heap.setIfInBounds (ρ.blk j) (.map a clock')}:=by
  refine⟨λ_ _ h=>h,f,λ_ _ h=>.inl h,λb o h=>by simpa using g.lt b o h,⟨rfl,rfl,rfl,jt,λk _ E=>?_⟩⟩
  grind
 refine⟨B,t.step B (λ_=>True) (λ_ _=>⟨rfl,rfl⟩) [(j,.map s c d)] (λi r hi R=>⟨trivial,λ_ h=>absurd trivial h,λb l=>⟨?_,λ_ h=>h⟩⟩) (λi r hi=>?_) (λi S r Q b hi I _ _=>?_)⟩
 ·refine L b (λe=>?_);have:=t.disj i j _ _ b hi A l (by rw[e];exact .inl rfl)
  grind[Mem.get]
 ·simp only[Mem.get]at hi;split at hi
  ·rename_i e;subst e;cases hi;refine⟨⟨a,clock',N,H,E,K,λp v G D=>⟨(C p v G D).1,(C p v G D).2.mono (λ_ _ h=>h) f⟩⟩,λb l=>?_⟩;simp only[Owns,lzz,or_false,bz6,Option.some.injEq]at l;subst l;refine⟨m.1,ju,λk Q x J y=>?_⟩;have:=t.disj k j _ _ _ x A y (.inl rfl)
   grind[Mem.get]
  simp_all
 grind[Mem.get]
theorem Szk {t:qq}{x f y:Operand}{out:Out}(ho:o.op=.mapUpdate t x f y\/o.op=.insert t x f y)(h:yzc P t (env x) (env f) (env y) m=some out):Sound1 P o env m id out:=by
 unfold yzc at h;split at h
 ·rename_i k e j hu hx;split at h
  ·rename_i S O Z C p I X hy;split at h
   ·rename_i ks hf;split at h
    ·rename_i hc;simp only[qm,qf]at hc;obtain⟨⟨N,Q⟩,u⟩:=hc;cases h;intro F w ρ Mine M a hm g fr hrd hfe U;have hM:=hrd j jt;obtain⟨D,d,E,hF,l,hn,hs⟩:=azab hm (hM.trans I);have z:x∈o.op.operands/\f∈o.op.operands/\y∈o.op.operands:=by grind[zb]
     have hxv:a.eval x=.map (some (ρ.blk j)):=by
      have:=hx▸U x z.1;generalize a.eval x=v at this;cases this;rfl
     have b:hzn C (a.eval f)=true:=azgw X (U f z.2.1) u;have hv:=(U y z.2.2).toP hy;have J:∀em,(Instr.checkKey em 10000 k (a.eval f)).run P w=.ok () w:=λem=>yz6 (F:=λ_ _=>False) em 20 k ks hf 9980 _ C (yzv N b) (wzv u Q)
     have A:=run_findKey' (w:=w) hf N Q u b D.toList l
     obtain⟨s,clock',hrun,T,hn',V⟩:∃s clock',(Instr.mapUpdate t (.map (some (ρ.blk j))) (a.eval f) (a.eval y)).run P w=.ok () {w with heap:=w.heap.setIfInBounds (ρ.blk j) (.map s clock')}/\
      (∀e∈s.toList,∃q,czg S q=true/\hzn q e.key=true)/\(∀q,czg S q=true->ezm q s.toList=none->(Bzi q C||O q)=false)/\
      (∀q v,czg S q=true->ezm q s.toList=some v->(Bzi q C||O q)=true/\PRel F w (if Bzi q C then p else Z q) v):=by
      cases R:hzm C D.toList 0 with
      |none=>
       have hfv:ezm C D.toList=none:=by grind[yzd]
       rw[R]at A;refine⟨D.push {key:=a.eval f,val:=a.eval y,born:=d},d+1,?_,λe he=>?_,λq L c=>?_,λq v L c=>?_⟩
       ·simp[Instr.mapUpdate,zf hu,MapKept.run_getObj_map E,J,A,MapKept.run_setObj_map _ E]
       all_goals grind[Nz1,Hzi]
      |some r=>
       obtain⟨n,H⟩:=r;obtain⟨j',e0,hj',hej,hke,_⟩:=tzh R;obtain⟨hee,hsb⟩:=az1j hke b;rw[R]at A;have B:hzm C D.toList 0=some (0+n,H):=ju
       have Y:D[n]?=some e0:=ju
       have G:(Instr.keyThatStays e0.key (a.eval f)).run P w=.ok (a.eval f) w:=by
        simp_all[Instr.keyThatStays]
       refine⟨D.modify n (λe=>{e with key:=a.eval f,val:=a.eval y}),d,?_,λe he=>?_,λq L c=>?_,λq v L c=>?_⟩
       ·simp[Instr.mapUpdate,zf hu,MapKept.run_getObj_map E,J,A,Y,G,MapKept.run_setObj_map _ E]
       ·rw[zV]at he;obtain⟨i,hi⟩:=zW.1 he;rw[List.getElem?_modify]at hi;split at hi
        ·grind
        ·exact l e (zW.2 ⟨i,ju⟩)
       ·rw[zV]at c;rcases Hzi u L with⟨W,rfl⟩|⟨W,h2⟩
        ·rw[Czg b _ 0 n H B]at c;grind
        ·rw[yze b h2 _ 0 n H B]at c
         simp_all
       ·rw[zV]at c;rcases Hzi u L with⟨W,rfl⟩|⟨W,h2⟩
        ·rw[Czg b _ 0 n H B]at c
         simp_all
        ·rw[yze b h2 _ 0 n H B]at c
         simp_all
     obtain⟨st,hm'⟩:=azev (clock':=clock') hm g (hM.trans I) E hF T hn' V;refine⟨undef,_,F,ρ,.inr ⟨?_,rfl⟩,st,λ_ _=>⟨rfl,rfl⟩,.any,hm'⟩
     grind[execOp,xV,xU,xW]
    grind
   grind
  grind
 grind
theorem azc4 {t:qq}{out:Out}(f:o.op=.makeMap t none)(h:Qzg P t id=some out):Sound1 P o env m id out:=by
 unfold Qzg at h;split at h
 ·split at h
  ·rename_i D z E H;cases h;intro F w ρ Mine M a l g y _ C J;have n:Step Mine F w F (w.alloc (.map #[] 0)):=by
    have s:=Step.alloc g (.map #[] 0) (λ_=>False)
    simp_all
   let ρ':=ρ.setBlk id w.heap.size;have u:ρ'.blk id=w.heap.size:=qc rfl;have A:dz3 id ρ ρ':=λi hi=>⟨qb (λh=>hi ⟨qa,qa⟩),rfl⟩
   refine⟨.map (some w.heap.size),w.alloc (.map #[] 0),F,ρ',.inl ?_,n,A,?_,?_⟩
   ·simp[execOp,f,Instr.makeMap]
   ·rw[<-u];exact .map
   ·refine l.step n (λi=>¬Own id i) A [(id,.map D (λ_=>false) (λ_=>z))] (λj r d _=>⟨λf=>?_,λi hi=>y.has i j r (Classical.not_not.1 hi) d,λb c=>⟨heap_alloc_old w _ (l.mine j r b d c).2,λ_ h=>h⟩⟩) (λj r d=>?_) (λj I r x b d G _ _=>?_)
    ·have:=y.none j f;simp_all
    ·simp only[Mem.get]at d;split at d
     ·rename_i e;subst e;cases d;refine⟨⟨#[],0,by grind[heap_alloc_new],λo f=>by exact absurd (g.lt _ _ f) qa,jt,λ_ _ _=>rfl,λp v _ h=>by simp[ezm]at h⟩,λb c=>?_⟩;simp only[Owns,lzz,or_false,bz6,u,Option.some.injEq]at c;subst c;exact⟨g.mine _ (Nat.le_refl _),jt,λq x B _ k=>absurd (l.mine q x _ B k).2 qa⟩
     simp_all
    grind[Mem.get]
  grind
 grind
end Go.Abs
