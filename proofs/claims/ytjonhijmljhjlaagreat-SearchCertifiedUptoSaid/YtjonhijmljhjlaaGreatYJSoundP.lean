import Derived.Test.YtjonhijmljhjlaaGreatYJSoundJ
import Derived.MapKept
open Array renaming toList_push->jO,toList_modify->jP
open Bool renaming and_eq_true->qm,not_eq_true'->wc,false_eq_true->zi
open Go renaming TypeId->qq,Value->qr,run_underlying->zX
open Go.Op renaming operands->zV
open Go.Result renaming andThen_ok->zL
open Go.Sem renaming run_bind->zM,run_pure->zN
open List renaming forIn_cons->jM,modify_succ_cons->jN,mem_iff_getElem?->jQ
open Nat renaming zero_add->qE
namespace Go.Abs
variable {P:Program} {o:Oper} {env:Operand->AVal} {m:Mem} {id:Nat} {F:Cells} {w:World} {ρ:Env}
theorem Zz1 {p:PVal}{v:qr}(h:Iz8 p v=true):PRel F w p v:=by
 cases p<;>cases v<;>simp[Iz8]at h
 ·subst h;exact .bool
 ·obtain⟨rfl,rfl⟩:=h;exact .int
theorem Kzf:∀ {ps:List PVal} {vs:List qr},gz4 ps vs=true->ps.length=vs.length/\∀ (j:Nat) (p:PVal) (v:qr),ps[j]?=some p->vs[j]?=some v->PRel F w p v
 |[],[],_=>⟨rfl,by simp⟩
 |[],_::_,h=>by simp[gz4]at h
 |_::_,[],h=>by simp[gz4]at h
 |p::ps,v::vs,h=>by
  simp only[gz4,qm]at h;obtain⟨h1,h2⟩:=Kzf h.2;refine⟨by simp[h1],λj q u hq hu=>?_⟩;cases j with
  |zero=>simp at hq hu;subst hq;subst hu;exact Zz1 h.1
  |succ j=>exact h2 j q u (by simpa using hq) (by simpa using hu)
theorem Mza:∀ {tm ps:List PVal} {vs:List qr},czv tm ps=true->ps.length=vs.length->(∀ (j:Nat) (p:PVal) (v:qr),ps[j]?=some p->vs[j]?=some v->PRel F w p v)->gz4 ps vs=true
 |[],[],[],_,_,_=>rfl
 |[],[],_::_,_,h,_=>by simp at h
 |[],_::_,_,h,_,_=>by simp[czv]at h
 |_::_,[],_,h,_,_=>by simp[czv]at h
 |_::_,_::_,[],_,h,_=>by simp at h
 |t::tm,p::ps,v::vs,h,hl,hr=>by
  simp only[czv,qm]at h;have h0:=hr 0 p v (by simp) (by simp);have ih:=Mza h.2 (by simpa using hl) (λj q u hq hu=>hr (j+1) q u (by simpa using hq) (by simpa using hu));simp only[gz4,ih,Bool.and_true];cases h0<;>cases t<;>simp[Kz7]at h<;>simp[Iz8]
theorem Jzs:∀ {tm p q:List PVal},czv tm p=true->czv tm q=true->∃r,ez8 p q=some r/\∀l,gz4 q l=true->gz4 p l=r
 |[],[],[],_,_=>⟨true,rfl,λl h=>by cases l<;>simp_all [gz4]⟩
 |[],_::_,_,h,_=>by simp[czv]at h
 |[],_,_::_,_,h=>by simp[czv]at h
 |_::_,[],_,h,_=>by simp[czv]at h
 |_::_,_,[],_,h=>by simp[czv]at h
 |t::tm,a::p,b::q,h1,h2=>by
  simp only[czv,qm]at h1 h2;obtain⟨r,hr,hl⟩:=Jzs h1.2 h2.2;cases t<;>cases a<;>simp[Kz7]at h1<;>cases b<;>simp[Kz7]at h2
  ·rename_i x y;refine⟨(x==y)&&r,by simp[ez8,hr],λl hh=>?_⟩;cases l with
   |nil=>simp[gz4]at hh
   |cons v l=>
    simp only[gz4,qm]at hh⊢;rw[hl l hh.2];cases v<;>simp[Iz8]at hh⊢
    rw[hh.1]
  ·rename_i k1 n1 k2 n2 k3 n3;obtain⟨rfl,h1⟩:=h1;obtain⟨rfl,h2⟩:=h2;refine⟨(n2==n3)&&r,by simp[ez8,hr],λl hh=>?_⟩;cases l with
   |nil=>simp[gz4]at hh
   |cons v l=>
    simp only[gz4,qm]at hh⊢;rw[hl l hh.2];cases v<;>simp[Iz8]at hh⊢
    obtain⟨⟨rfl,rfl⟩,_⟩:=hh;simp
theorem Rzr {tm p q:List PVal}(hp:czv tm p=true)(hq:czv tm q=true){v:qr}(hv:iza q v=true):ez8 p q=some (iza p v):=by
 obtain⟨r,h1,h2⟩:=Jzs hp hq;cases v<;>simp[iza]at hv
 rw[h1,iza,h2 _ hv]
theorem uzn:∀ {ks:List Nat} {tm ps:List PVal},czv tm ps=true->fits ks tm=true->fits ks ps=true
 |[],[],[],_,_=>rfl
 |_,[],_::_,h,_=>by simp[czv]at h
 |_,_::_,[],h,_=>by simp[czv]at h
 |[],_::_,_::_,_,h=>by simp[fits]at h
 |_::_,[],[],_,h=>by simp[fits]at h
 |k::ks,t::tm,p::ps,h,h'=>by
  simp only[czv,fits,qm]at h h'⊢;refine⟨?_,uzn h.2 h'.2⟩;have h1:=h.1;have h2:=h'.1;cases t<;>cases p<;>simp[Kz7]at h1<;>revert h2<;>unfold Izc<;>split<;>simp_all
theorem Kzh {e:qq}{D:Nat}{em:Bool}{ks:List Nat}(ha:Kz5 P e ks)(hs:cz2 P e=some ks.length)
 (ih:∀x ps,IsCells P F w e x ps->fits ks ps=true->(Instr.checkKey em D e x).run P w=.ok () w) {xs:Array qr} {ps:List PVal} (hl:ps.length=xs.size)
 (hx:∀ (j:Nat) (p:PVal) (v:qr),ps[j]?=some p->xs[j]?=some v->PRel F w p v) {off:Nat} {ks':List Nat} (h1:fits (ks++ks') (ps.drop off)=true):
 ∃x,(part e xs off).run P w=.ok x w/\(Instr.checkKey em D e x).run P w=.ok () w/\fits ks' (ps.drop (off+ks.length))=true:=by
 obtain⟨f1,f2,f3⟩:=vzy h1;rw[List.drop_drop]at f2;simp only[List.length_drop]at f3;by_cases hle:off+ks.length<=ps.length
 ·obtain⟨x,px,cx⟩:=IsCells.part (P:=P) (F:=F) (w:=w) off hs hl hx qa ha;exact⟨x,px,ih x _ cx f1,f2⟩
 ·rcases ha with ha|⟨ha,h1⟩
  ·have hk0:ks.length=0:=qa
   refine⟨_,pzo (.inl ⟨ha,ks.length,hs,rfl⟩),ih _ [] (.inl ⟨ha,_,rfl,by simp;omega,by simp⟩) ?_,f2⟩;rw[hk0]at f1;simpa using f1
  ·omega
theorem vzn (em:Bool):∀ (d:Nat) (t:qq) (ks:List Nat),rzg P d t=some ks->∀ (D:Nat) (x:qr) (ps:List PVal),IsCells P F w t x ps->fits ks ps=true->
 (Instr.checkKey em (D+d) t x).run P w=.ok () w
 |0,_,_,h,_,_,_,_,_=>by simp[rzg]at h
 |d+1,t,ks,h,D,x,ps,hx,hf=>by
  rw[show D+(d+1)=(D+d)+1 from rfl];have hsc:ezx P t=some false->∃p,ps=[p]/\PRel F w p x:=by
   intro ha;rcases hx with⟨h1,_⟩|⟨_,h1⟩
   ·rw[ha]at h1;cases h1
   ·exact h1
  have hag:ezx P t=some true->∃vs:Array qr,x=.agg vs/\ps.length=vs.size/\∀ (j:Nat) (p:PVal) (v:qr),ps[j]?=some p->vs[j]?=some v->PRel F w p v:=by
   intro ha;rcases hx with⟨_,h1⟩|⟨h1,_⟩
   ·exact h1
   ·rw[ha]at h1;cases h1
  simp only[rzg]at h;split at h<;>rename_i hu
  ·simp[Instr.checkKey,zX hu]
  ·simp[Instr.checkKey,zX hu]
  ·simp[Instr.checkKey,zX hu]
  ·rename_i n e;split at h
   ·rename_i k1 he;split at h
    ·rename_i hs;simp only[qm,qf,wc]at hs;simp at h;subst h;obtain⟨xs,rfl,hl,hx'⟩:=hag (by simp[ezx,hu]);rw[Instr.checkKey];simp only[zM,zX hu,zL];simp only[Std.Legacy.Range.forIn_eq_forIn_range',Std.Legacy.Range.size,Nat.sub_zero,Nat.add_one_sub_one,Nat.div_one]
     have key:∀ (k i:Nat),fits (List.replicate k k1).flatten (ps.drop (i * k1.length))=true->
      (forIn (List.range' i k) PUnit.unit λi _=>(do
       let a<-sizeOf e;let b<-part e xs (i * a)
       Instr.checkKey em (D+d) e b
       pure (ForInStep.yield PUnit.unit):Sem (ForInStep PUnit))).run P w=.ok PUnit.unit w:=by
      intro k;induction k with
      |zero=>intro i _;simp
      |succ k ih=>
       intro i hfi;rw[List.replicate_succ,List.flatten_cons]at hfi;obtain⟨y,p1,p2,p3⟩:=Kzh (em:=em) (D:=D+d) (Jzy he) hs.1 (λx ps h1 h2=>vzn em d e k1 he D x ps h1 h2) hl hx' hfi;rw[show i * k1.length+k1.length=(i+1) * k1.length by rw[Nat.add_mul];omega]at p3;rw[List.range'_succ];simp only[jM,zM,dzf hs.1,zL,p1,p2,zN];exact ih (i+1) p3
     have:=key n 0 (by simpa using hf);simp at this;simp[this]
    ·cases h
   ·cases h
  ·rename_i fs;split at h
   ·cases h
   ·obtain⟨xs,rfl,hl,hx'⟩:=hag (by simp[ezx,hu]);rw[Instr.checkKey];simp only[zM,zX hu,zL];rw[<-Array.forIn_toList]
    have key:∀ (l:List Field) (off:Nat) (ks:List Nat),Ezk P (rzg P d) l off=some ks->fits ks (ps.drop off)=true->
     (forIn l PUnit.unit λf _=>(if f.name≠ "_" then(do
      let b<-part f.type xs f.offset
      Instr.checkKey em (D+d) f.type b
      pure (ForInStep.yield PUnit.unit))else pure (ForInStep.yield PUnit.unit):Sem (ForInStep PUnit))).run P w=.ok PUnit.unit w:=by
     intro l;induction l with
     |nil=>intro off ks _ _;simp
     |cons f l ih=>
      intro off ks hfl hfi;simp only[Ezk]at hfl;split at hfl
      ·rename_i hc;simp only[qm,qf,bne_iff_ne,ne_eq]at hc;obtain⟨rfl,hname⟩:=hc;split at hfl
       ·rename_i k1 h1;split at hfl
        ·rename_i hs;simp only[qm,qf,wc]at hs;split at hfl
         ·rename_i k2 h2;simp at hfl;subst hfl;obtain⟨y,p1,p2,p3⟩:=Kzh (em:=em) (D:=D+d) (Jzy h1) hs.1 (λx ps q1 q2=>vzn em d f.type k1 h1 D x ps q1 q2) hl hx' hfi;simp only[jM,ne_eq,hname,not_false_eq_true,if_true,zM,p1,p2,zL,zN];exact ih _ _ h2 p3
         ·cases hfl
        ·cases hfl
       ·cases hfl
      ·cases hfl
    have:=key fs.toList 0 ks h (by simpa using hf);simp at this;simp[this]
  ·cases h
theorem vzw (p:List PVal):∀ (l:List MapEntry) (i:Nat),(gzi p l i).map (·.2)=ezr p l
 |[],_=>rfl
 |e::l,i=>by
  simp only[gzi,ezr];split
  ·rfl
  ·exact vzw p l (i+1)
theorem rzm {p:List PVal}:∀ {l:List MapEntry} {i n:Nat} {v:qr},gzi p l i=some (n,v)->∃j e,n=i+j/\l[j]?=some e/\iza p e.key=true/\e.val=v
 |[],i,n,v,h=>by simp[gzi]at h
 |e::l,i,n,v,h=>by
  simp only[gzi]at h;split at h
  ·rename_i hk;simp at h;exact⟨0,e,qa,by simp,hk,h.2⟩
  ·obtain⟨j,e',h1,h2,h3,h4⟩:=rzm h;exact⟨j+1,e',qa,by simpa using h2,h3,h4⟩
theorem wz6 {t:qq}(ht:ezx P t=some true){q:List PVal}{v:qr}(h:iza q v=true):IsCells P F w t v q:=by
 cases v<;>simp[iza]at h
 rename_i vs;obtain⟨h1,h2⟩:=Kzf (F:=F) (w:=w) h;exact .inl ⟨ht,vs,rfl,by simpa using h1,λj p v hp hv=>h2 j p v hp (by simpa using hv)⟩
theorem Yzh {k:qq}{ks:List Nat}{tm cs:List PVal}{key:qr}(hf:rzg P 20 k=some ks)(ht:ezx P k=some true)(htm:fits ks tm=true)(hcs:czv tm cs=true)(hkey:iza cs key=true):
 ∀ (l:List MapEntry) (i:Nat),(∀e∈l,∃q,czv tm q=true/\iza q e.key=true)->(Instr.findAsking k key l i).run P w=.ok (gzi cs l i) w
 |[],i,_=>by simp[Instr.findAsking,gzi]
 |e::l,i,hl=>by
  obtain⟨q,h1,h2⟩:=hl e (by simp);have he:=Jzv (P:=P) (F:=λ_ _=>False) (w:=w) 20 k ks hf 9980 key e.key cs q (iza cs e.key) (wz6 ht hkey) (wz6 ht h2) (uzn hcs htm) (uzn h1 htm) (Rzr hcs h1 h2);have he':(Op.equal k key e.key).run P w=.ok (iza cs e.key) w:=he;simp only[Instr.findAsking,gzi,zM,he',zL];cases hk:iza cs e.key with
  |true=>simp
  |false=>
   simp only[zi,if_false];exact Yzh hf ht htm hcs hkey l (i+1) (λe he=>hl e (by simp[he]))
theorem run_findKey' {k:qq}{ks:List Nat}{tm cs:List PVal}{key:qr}(hf:rzg P 20 k=some ks)(ht:ezx P k=some true)(htm:fits ks tm=true)(hcs:czv tm cs=true)(hkey:iza cs key=true)
 (l:List MapEntry) (hl:∀e∈l,∃q,czv tm q=true/\iza q e.key=true):(Instr.findKey k key l).run P w=.ok (gzi cs l 0) w:=by
 obtain⟨d,hd⟩:∃d,P.underlying k=some d:=by
  cases hu:P.underlying k with
  |none=>simp[ezx,hu]at ht
  |some d=>exact⟨d,rfl⟩
 simp only[Instr.findKey,zM,zX hd,zL];have hagg:∃vs,key=.agg vs:=by cases key<;>simp[iza]at hkey;exact⟨_,rfl⟩
 obtain⟨vs,rfl⟩:=hagg;cases l with
 |nil=>simp[Instr.findNow,gzi]
 |cons e l=>
  have hs:Instr.sameNow d (.agg vs) e.key=none:=by cases d<;>rfl
  simp only[Instr.findNow,hs];exact Yzh hf ht htm hcs hkey (e::l) 0 hl
theorem yzz (p:List PVal)(e:MapEntry):∀ (l:List MapEntry),ezr p (l++[e])=(ezr p l).or (if iza p e.key then some e.val else none)
 |[]=>by simp[ezr]
 |x::l=>by
  simp only[List.cons_append,ezr];split
  ·rfl
  ·exact yzz p e l
theorem zz0 {p:List PVal}{key v:qr}(hk:iza p key=true):∀ (l:List MapEntry) (i n:Nat) (v0:qr),gzi p l i=some (i+n,v0)->
 ezr p (l.modify n (λe=>{e with key:=key,val:=v}))=some v
 |[],i,n,v0,h=>by simp[gzi]at h
 |e::l,i,n,v0,h=>by
  simp only[gzi]at h;split at h
  ·simp at h;obtain⟨rfl,_⟩:=h;simp[ezr,hk]
  ·rename_i hk';obtain⟨j,e',hj,_⟩:=rzm h;obtain⟨n,rfl⟩:∃n',n=n'+1:=⟨n-1,qa⟩;rw[show i+(n+1)=i+1+n from qa]at h;simp only[jN,ezr,hk',zi,if_false];exact zz0 hk l (i+1) n v0 h
theorem vzx {p q:List PVal}{key v:qr}(hk:iza p key=true)(hpq:∀u,iza p u=true->iza q u=false):∀ (l:List MapEntry) (i n:Nat) (v0:qr),gzi p l i=some (i+n,v0)->
 ezr q (l.modify n (λe=>{e with key:=key,val:=v}))=ezr q l
 |[],i,n,v0,h=>by simp[gzi]at h
 |e::l,i,n,v0,h=>by
  simp only[gzi]at h;split at h
  ·rename_i hk';simp at h;obtain⟨rfl,_⟩:=h;simp[ezr,hpq _ hk,hpq _ hk']
  ·obtain⟨j,e',hj,_⟩:=rzm h;obtain⟨n,rfl⟩:∃n',n=n'+1:=⟨n-1,qa⟩;rw[show i+(n+1)=i+1+n from qa]at h;simp only[jN,ezr];rw[vzx hk hpq l (i+1) n v0 h]
theorem Gzo:∀ {tm p q:List PVal},czv tm p=true->czv tm q=true->ez8 p q=some true->p=q
 |[],[],[],_,_,_=>rfl
 |[],_::_,_,h,_,_=>by simp[czv]at h
 |[],_,_::_,_,h,_=>by simp[czv]at h
 |_::_,[],_,h,_,_=>by simp[czv]at h
 |_::_,_,[],_,h,_=>by simp[czv]at h
 |t::tm,a::p,b::q,h1,h2,h=>by
  simp only[czv,qm]at h1 h2;obtain⟨r,hr,_⟩:=Jzs h1.2 h2.2;cases t<;>cases a<;>simp[Kz7]at h1<;>cases b<;>simp[Kz7]at h2
  ·simp[ez8,hr]at h;obtain⟨rfl,rfl⟩:=h;rw[Gzo h1 h2 hr]
  ·obtain⟨rfl,h1⟩:=h1;obtain⟨rfl,h2⟩:=h2;simp[ez8,hr]at h;obtain⟨rfl,rfl⟩:=h;rw[Gzo h1 h2 hr]
theorem wz5 {tm p q:List PVal}(hp:czv tm p=true)(hq:czv tm q=true):(zzb q p=true/\q=p)\/(zzb q p=false/\∀u,iza p u=true->iza q u=false):=by
 obtain⟨r,h1,_⟩:=Jzs hq hp;cases r with
 |true=>exact .inl ⟨by simp[zzb,h1],Gzo hq hp h1⟩
 |false=>
  refine .inr ⟨by simp[zzb,h1],λu hu=>?_⟩;have:=Rzr hq hp hu;rw[h1]at this;simpa using this.symm
theorem Uzj {p:List PVal}{a b:qr}(ha:iza p a=true)(hb:iza p b=true):a=b/\Instr.sameBits 10000 a b=true:=by
 cases a<;>simp[iza]at ha
 cases b<;>simp[iza]at hb
 rename_i xs ys;have key:∀ (p:List PVal) (xs ys:List qr),gz4 p xs=true->gz4 p ys=true->xs=ys/\((xs.zip ys).all λ(x,y)=>Instr.sameBits 9999 x y)=true:=by
  intro p;induction p with
  |nil=>intro xs ys h1 h2;cases xs<;>cases ys<;>simp_all [gz4]
  |cons c p ih=>
   intro xs ys h1 h2;cases xs with
   |nil=>simp[gz4]at h1
   |cons x xs=>
    cases ys with
    |nil=>simp[gz4]at h2
    |cons y ys=>
     simp only[gz4,qm]at h1 h2;obtain⟨e1,e2⟩:=ih xs ys h1.2 h2.2;have hx:=h1.1;have hy:=h2.1;have:x=y/\Instr.sameBits 9999 x y=true:=by
      cases c<;>cases x<;>simp[Iz8]at hx<;>cases y<;>simp[Iz8]at hy
      ·subst hx;subst hy;simp[Instr.sameBits]
      ·obtain⟨rfl,rfl⟩:=hx;obtain⟨rfl,rfl⟩:=hy;simp[Instr.sameBits]
     refine⟨by rw[this.1,e1],?_⟩;simp only[List.zip_cons_cons,List.all_cons,this.2,Bool.true_and];exact e2
 obtain⟨e1,e2⟩:=key p xs.toList ys.toList ha hb;have e3:xs=ys:=by rw[<-Array.toArray_toList (xs:=xs),e1]
 refine⟨by rw[e3],?_⟩;show(xs.size==ys.size&&(xs.toList.zip ys.toList).all λ(x,y)=>Instr.sameBits 9999 x y)=true;rw[qm];exact⟨by rw[e3];simp,e2⟩
theorem az1w {Mine:Nat->Prop}{M:Mem}{tm:List PVal}{dom:List PVal->Bool}{val:List PVal->PVal}{j:Nat}(hm:MemOk F w ρ Mine M)(h:M.get j=some (.map tm dom val)):
 ∃es clock,w.heap[ρ.blk j]?=some (.map es clock)/\(∀o,¬F (ρ.blk j) o)/\(∀e∈es.toList,∃q,czv tm q=true/\iza q e.key=true)/\
  (∀p,czv tm p=true->ezr p es.toList=none->dom p=false)/\(∀p v,czv tm p=true->ezr p es.toList=some v->dom p=true/\PRel F w (val p) v):=hm.ok j _ h
theorem az3x {e:qq}{z:PVal}(h:az6q P e=some z):∃v,(zeroValue e).run P w=.ok v w/\PRel F w z v:=by
 unfold az6q at h;split at h
 ·rename_i i hi;split at h
  ·rename_i cs hz;split at h
   ·rename_i ps hps;cases h;obtain⟨h1,h2⟩:=nz0 hps;refine⟨.agg cs,by simp[zeroValue,typeInfo,hi,hz],.agg (by simpa using h1.symm) (λj p v hp hv=>?_)⟩;obtain⟨a,ha1,ha2⟩:=h2 j p hp;simp[hv]at ha1;subst ha1;exact(gzz (F:=F) (w:=w) (ρ:=⟨λ_=>0,λ_=>none⟩) v).toP ha2
   ·cases h
  ·rename_i v _ hz;exact⟨v,by simp[zeroValue,typeInfo,hi,hz],(gzz (F:=F) (w:=w) (ρ:=⟨λ_=>0,λ_=>none⟩) v).toP h⟩
  ·cases h
 ·cases h
theorem az74 {tm cs:List PVal}{ix:AVal}{v:qr}(hx:ix.toP=some (.agg cs))(hr:ARel F w ρ ix v)(ha:czv tm cs=true):iza cs v=true:=by
 have:=hr.toP hx;cases this with
 |agg hl h=>exact Mza ha (by simpa using hl) (λj p v hp hv=>h j p v hp (by simpa using hv))
theorem az63 {t:qq}{x ix:Operand}{ok:Bool}{out:Out}(ho:o.op=.lookup t x ix ok)(h:Pzp P t (env x) (env ix) ok m=some out)(hob:holds out.obl):Sound1 P o env m id out:=by
 unfold Pzp at h;split at h
 ·rename_i k e j hu hx;split at h
  ·rename_i tm dom val cs hmj hix;split at h
   ·rename_i ks z hf hz;split at h
    ·rename_i hc;simp only[qm,qf]at hc;obtain⟨⟨hag,hft⟩,hal⟩:=hc;cases h;intro F w ρ Mine M a hm g fr hrd hfe ha;have hM:=hrd j (by simp);obtain⟨es,clock,hb,hF,hkeys,hn,hs⟩:=az1w hm (hM.trans hmj);have hxv:a.eval x=.map (some (ρ.blk j)):=by
      have:=hx▸ha x (by simp[ho,zV]);generalize a.eval x=v at this;cases this;rfl
     have hkey:iza cs (a.eval ix)=true:=az74 hix (ha ix (by simp[ho,zV])) hal;have hck:∀em,(Instr.checkKey em 10000 k (a.eval ix)).run P w=.ok () w:=λem=>vzn (F:=λ_ _=>False) em 20 k ks hf 9980 _ cs (wz6 hag hkey) (uzn hal hft)
     have hfk:=run_findKey' (w:=w) hf hag hft hal hkey es.toList hkeys;obtain⟨zv,hzv,hzr⟩:=az3x (P:=P) (F:=F) (w:=w) hz;obtain⟨v,b,hv,hdb,hrun⟩:∃v b,PRel F w (val cs) v/\dom cs=b/\(Instr.lookup t (.map (some (ρ.blk j))) (a.eval ix) ok).run P w=.ok (if ok then .tuple #[v,.bool b]else v) w:=by
      cases hp:gzi cs es.toList 0 with
      |none=>
       have hfv:ezr cs es.toList=none:=by rw[<-vzw cs _ 0,hp];rfl
       have hd:=hn cs hal hfv;refine⟨zv,false,by rw[hob hd];exact hzr,hd,?_⟩;rw[hp]at hfk;simp[Instr.lookup,zX hu,MapKept.run_getObj_map hb,hck,hfk,hzv]
      |some r=>
       obtain⟨n,v⟩:=r;have hfv:ezr cs es.toList=some v:=by rw[<-vzw cs _ 0,hp];rfl
       obtain⟨hd,hr⟩:=hs cs v hal hfv;refine⟨v,true,hr,hd,?_⟩;rw[hp]at hfk;simp[Instr.lookup,zX hu,MapKept.run_getObj_map hb,hck,hfk]
     refine⟨if ok then .tuple #[v,.bool b]else v,w,F,ρ,.inl (by simp only[execOp,ho,zM,hxv,hrun,zL,zN]),Step.refl g,λ_ _=>⟨rfl,rfl⟩,?_,hm⟩;cases ok
     ·exact .pure hv
     ·simp only[if_true];refine .tup (by simp) (λi a' v' h1 h2=>?_)
      match i with
      |0=>simp at h1 h2;subst h1;subst h2;exact .pure hv
      |1=>simp at h1 h2;subst h1;subst h2;rw[hdb];exact .pure .bool
      |n+2=>simp at h1
    ·cases h
   ·cases h
  ·cases h
 ·cases h
theorem az5m {Mine:Nat->Prop}{M:Mem}{j:Nat}{tm:List PVal}{dom dom':List PVal->Bool}{val val':List PVal->PVal}{es es':Array MapEntry}{clock clock':Nat}(hm:MemOk F w ρ Mine M)(g:Good F w Mine)
 (hM:M.get j=some (.map tm dom val)) (hb:w.heap[ρ.blk j]?=some (.map es clock)) (hF:∀o,¬F (ρ.blk j) o)
 (hk:∀e∈es'.toList,∃q,czv tm q=true/\iza q e.key=true) (hn:∀p,czv tm p=true->ezr p es'.toList=none->dom' p=false)
 (hs:∀p v,czv tm p=true->ezr p es'.toList=some v->dom' p=true/\PRel F w (val' p) v):
 Step Mine F w F {w with heap:=w.heap.setIfInBounds (ρ.blk j) (.map es' clock')}/\MemOk F {w with heap:=w.heap.setIfInBounds (ρ.blk j) (.map es' clock')} ρ Mine ([(j,.map tm dom' val')]++M):=by
 obtain⟨h1,h2⟩:=MapKept.heap_set (o':=.map es' clock') hb;have hmine:=hm.mine j _ _ hM (.inl rfl);have hcell:∀b o,F b o->({w with heap:=w.heap.setIfInBounds (ρ.blk j) (.map es' clock')}:World).cell? ⟨b,o,none⟩=w.cell? ⟨b,o,none⟩:=by
  intro b o hbo;have hne:b≠ρ.blk j:=λe=>hF o (e▸hbo)
  simp only[World.cell?];rw[h2 b hne]
 have st:Step Mine F w F {w with heap:=w.heap.setIfInBounds (ρ.blk j) (.map es' clock')}:=by
  refine⟨λ_ _ h=>h,hcell,λ_ _ h=>.inl h,λb o h=>by simpa using g.lt b o h,⟨rfl,rfl,rfl,by simp,λk _ hk=>?_⟩⟩;exact h2 k (λe=>hk (e▸hmine.1))
 refine⟨st,hm.step st (λ_=>True) (λ_ _=>⟨rfl,rfl⟩) [(j,.map tm dom' val')] (λi r hi hw=>⟨trivial,λ_ h=>absurd trivial h,λb hbb=>⟨?_,λ_ h=>h⟩⟩) (λi r hi=>?_) (λi i' r r' b hi hi' _ _=>?_)⟩
 ·refine h2 b (λe=>?_);have:=hm.disj i j _ _ b hi hM hbb (by rw[e];exact .inl rfl);subst this;simp[Mem.get]at hw
 ·simp only[Mem.get]at hi;split at hi
  ·rename_i e;subst e;cases hi;refine⟨⟨es',clock',h1,hF,hk,hn,λp v hp hv=>⟨(hs p v hp hv).1,(hs p v hp hv).2.mono (λ_ _ h=>h) hcell⟩⟩,λb hbb=>?_⟩;simp only[Owns,nzl,or_false,bzg,Option.some.injEq]at hbb;subst hbb;refine⟨hmine.1,by simpa using hmine.2,λk r' hk' hw' hbk=>?_⟩;have:=hm.disj k j _ _ _ hk' hM hbk (.inl rfl);subst this;simp[Mem.get]at hw'
  ·cases hi
 ·simp only[Mem.get]at hi hi';split at hi
  ·split at hi'
   ·omega
   ·cases hi'
  ·cases hi
theorem Mzi {t:qq}{x ix y:Operand}{out:Out}(ho:o.op=.mapUpdate t x ix y\/o.op=.insert t x ix y)(h:vzv P t (env x) (env ix) (env y) m=some out):Sound1 P o env m id out:=by
 unfold vzv at h;split at h
 ·rename_i k e j hu hx;split at h
  ·rename_i tm dom val cs p hmj hix hy;split at h
   ·rename_i ks hf;split at h
    ·rename_i hc;simp only[qm,qf]at hc;obtain⟨⟨hag,hft⟩,hal⟩:=hc;cases h;intro F w ρ Mine M a hm g fr hrd hfe ha;have hM:=hrd j (by simp);obtain⟨es,clock,hb,hF,hkeys,hn,hs⟩:=az1w hm (hM.trans hmj);have hopx:x∈o.op.operands/\ix∈o.op.operands/\y∈o.op.operands:=by rcases ho with ho|ho<;>simp[ho,zV]
     have hxv:a.eval x=.map (some (ρ.blk j)):=by
      have:=hx▸ha x hopx.1;generalize a.eval x=v at this;cases this;rfl
     have hkey:iza cs (a.eval ix)=true:=az74 hix (ha ix hopx.2.1) hal;have hv:=(ha y hopx.2.2).toP hy;have hck:∀em,(Instr.checkKey em 10000 k (a.eval ix)).run P w=.ok () w:=λem=>vzn (F:=λ_ _=>False) em 20 k ks hf 9980 _ cs (wz6 hag hkey) (uzn hal hft)
     have hfk:=run_findKey' (w:=w) hf hag hft hal hkey es.toList hkeys
     obtain⟨es',clock',hrun,hk',hn',hs'⟩:∃es' clock',(Instr.mapUpdate t (.map (some (ρ.blk j))) (a.eval ix) (a.eval y)).run P w=.ok () {w with heap:=w.heap.setIfInBounds (ρ.blk j) (.map es' clock')}/\
      (∀e∈es'.toList,∃q,czv tm q=true/\iza q e.key=true)/\(∀q,czv tm q=true->ezr q es'.toList=none->(zzb q cs||dom q)=false)/\
      (∀q v,czv tm q=true->ezr q es'.toList=some v->(zzb q cs||dom q)=true/\PRel F w (if zzb q cs then p else val q) v):=by
      cases hp:gzi cs es.toList 0 with
      |none=>
       have hfv:ezr cs es.toList=none:=by rw[<-vzw cs _ 0,hp];rfl
       rw[hp]at hfk;refine⟨es.push {key:=a.eval ix,val:=a.eval y,born:=clock},clock+1,?_,λe he=>?_,λq hq hq'=>?_,λq v hq hq'=>?_⟩
       ·simp[Instr.mapUpdate,zX hu,MapKept.run_getObj_map hb,hck,hfk,MapKept.run_setObj_map _ hb]
       ·simp only[jO,List.mem_append,List.mem_singleton]at he;rcases he with he|rfl
        ·exact hkeys e he
        ·exact⟨cs,hal,hkey⟩
       ·rw[jO,yzz,Option.or_eq_none_iff]at hq';rcases wz5 hal hq with⟨h1,rfl⟩|⟨h1,h2⟩
        ·simp[hkey]at hq'
        ·rw[h1,hn q hq hq'.1];rfl
       ·rw[jO,yzz]at hq';rcases wz5 hal hq with⟨h1,rfl⟩|⟨h1,h2⟩
        ·rw[hfv]at hq';simp[hkey]at hq';subst hq';simp[h1,hv]
        ·rw[h2 _ hkey]at hq';simp at hq';obtain⟨h3,h4⟩:=hs q v hq hq';simp[h1,h3,h4]
      |some r=>
       obtain⟨n,v0⟩:=r;obtain⟨j',e0,hj',hej,hke,_⟩:=rzm hp;rw[qE]at hj';subst hj';obtain⟨hee,hsb⟩:=Uzj hke hkey;rw[hp]at hfk;have hp':gzi cs es.toList 0=some (0+n,v0):=by rw[qE];exact hp
       have hes:es[n]?=some e0:=by simpa using hej
       have hkts:(Instr.keyThatStays e0.key (a.eval ix)).run P w=.ok (a.eval ix) w:=by
        unfold Instr.keyThatStays;rw[hsb];rfl
       refine⟨es.modify n (λe=>{e with key:=a.eval ix,val:=a.eval y}),clock,?_,λe he=>?_,λq hq hq'=>?_,λq v hq hq'=>?_⟩
       ·simp[Instr.mapUpdate,zX hu,MapKept.run_getObj_map hb,hck,hfk,hes,hkts,MapKept.run_setObj_map _ hb]
       ·rw[jP]at he;obtain⟨i,hi⟩:=jQ.1 he;rw[List.getElem?_modify]at hi;split at hi
        ·simp only[Option.map_eq_map,Option.map_eq_some_iff]at hi;obtain⟨e1,_,rfl⟩:=hi;exact⟨cs,hal,hkey⟩
        ·simp at hi;exact hkeys e (jQ.2 ⟨i,by simpa using hi⟩)
       ·rw[jP]at hq';rcases wz5 hal hq with⟨h1,rfl⟩|⟨h1,h2⟩
        ·rw[zz0 hkey _ 0 n v0 hp']at hq';cases hq'
        ·rw[vzx hkey h2 _ 0 n v0 hp']at hq';rw[h1,hn q hq hq'];rfl
       ·rw[jP]at hq';rcases wz5 hal hq with⟨h1,rfl⟩|⟨h1,h2⟩
        ·rw[zz0 hkey _ 0 n v0 hp']at hq';cases hq';simp[h1,hv]
        ·rw[vzx hkey h2 _ 0 n v0 hp']at hq';obtain⟨h3,h4⟩:=hs q v hq hq';simp[h1,h3,h4]
     obtain⟨st,hm'⟩:=az5m (clock':=clock') hm g (hM.trans hmj) hb hF hk' hn' hs';refine⟨undef,_,F,ρ,.inr ⟨?_,rfl⟩,st,λ_ _=>⟨rfl,rfl⟩,.any,hm'⟩;rcases ho with ho|ho<;>simp only[execOp,ho,zM,hxv,hrun,zL,zN]
    ·cases h
   ·cases h
  ·cases h
 ·cases h
theorem az3b {t:qq}{out:Out}(ho:o.op=.makeMap t none)(h:Kzv P t id=some out):Sound1 P o env m id out:=by
 unfold Kzv at h;split at h
 ·rename_i k e hu;split at h
  ·rename_i tm z htm hz;cases h;intro F w ρ Mine M a hm g fr _ hfe ha;have st:Step Mine F w F (w.alloc (.map #[] 0)):=by
    have s:=Step.alloc g (.map #[] 0) (λ_=>False);exact⟨λ_ _ h=>h,s.cell,λ_ _ h=>.inl h,λb o h=>by have:=g.lt b o h;simp;omega,s.keep⟩
   let ρ':=ρ.setBlk id w.heap.size;have hb:ρ'.blk id=w.heap.size:=qc rfl;have he:dzr id ρ ρ':=λi hi=>⟨qb (λh=>hi ⟨qa,qa⟩),rfl⟩
   refine⟨.map (some w.heap.size),w.alloc (.map #[] 0),F,ρ',.inl ?_,st,he,?_,?_⟩
   ·simp[execOp,ho,Instr.makeMap]
   ·rw[<-hb];exact .map
   ·refine hm.step st (λi=>¬Own id i) he [(id,.map tm (λ_=>false) (λ_=>z))] (λj r hj _=>⟨λho=>?_,λi hi=>fr.has i j r (Classical.not_not.1 hi) hj,λb hbb=>⟨heap_alloc_old w _ (hm.mine j r b hj hbb).2,λ_ h=>h⟩⟩) (λj r hj=>?_) (λj j' r r' b hj hj' _ _=>?_)
    ·have:=fr.none j ho;rw[hj]at this;cases this
    ·simp only[Mem.get]at hj;split at hj
     ·rename_i e;subst e;cases hj;refine⟨⟨#[],0,by rw[hb];exact heap_alloc_new w _,λo ho=>by rw[hb]at ho;exact absurd (g.lt _ _ ho) qa,by simp,λ_ _ _=>rfl,λp v _ h=>by simp[ezr]at h⟩,λb hbb=>?_⟩;simp only[Owns,nzl,or_false,bzg,hb,Option.some.injEq]at hbb;subst hbb;exact⟨g.mine _ (Nat.le_refl _),by simp,λq r' hq _ hbq=>absurd (hm.mine q r' _ hq hbq).2 qa⟩
     ·cases hj
    ·simp only[Mem.get]at hj hj';split at hj
     ·split at hj'
      ·omega
      ·cases hj'
     ·cases hj
  ·cases h
 ·cases h
end Go.Abs
