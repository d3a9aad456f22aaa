import Derived.Test.YtjonhijmljhjlaaGreatYISoundJ
import Derived.MapKept
open Array renaming toList_push->jJ,toList_modify->jK
open Bool renaming and_eq_true->qn,not_eq_true'->wd,false_eq_true->za
open Go renaming TypeId->qr,Value->qt,run_underlying->zQ
open Go.Op renaming operands->zO
open Go.Result renaming andThen_ok->zE
open Go.Sem renaming run_bind->zF,run_pure->zG
open List renaming forIn_cons->jH,modify_succ_cons->jI,mem_iff_getElem?->jL
open Nat renaming zero_add->qF
namespace Go.Abs
variable {P:Program} {o:Oper} {env:Operand->AVal} {m:Mem} {id:Nat} {F:Cells} {w:World} {ρ:Env}
theorem Zzp {p:PVal}{v:qt}(h:Iz7 p v=true):PRel F w p v:=by
 cases p<;>cases v<;>simp[Iz7]at h
 ·subst h;exact .bool
 ·obtain⟨rfl,rfl⟩:=h;exact .int
theorem Kzj:∀ {ps:List PVal} {vs:List qt},fzp ps vs=true->ps.length=vs.length/\∀ (j:Nat) (p:PVal) (v:qt),ps[j]?=some p->vs[j]?=some v->PRel F w p v
 |[],[],_=>⟨rfl,by simp⟩
 |[],_::_,h=>by simp[fzp]at h
 |_::_,[],h=>by simp[fzp]at h
 |p::ps,v::vs,h=>by
  simp only[fzp,qn]at h;obtain⟨h1,h2⟩:=Kzj h.2;refine⟨by simp[h1],λj q u hq hu=>?_⟩;cases j with
  |zero=>simp at hq hu;subst hq;subst hu;exact Zzp h.1
  |succ j=>exact h2 j q u (by simpa using hq) (by simpa using hu)
theorem Mz8:∀ {tm ps:List PVal} {vs:List qt},czw tm ps=true->ps.length=vs.length->(∀ (j:Nat) (p:PVal) (v:qt),ps[j]?=some p->vs[j]?=some v->PRel F w p v)->fzp ps vs=true
 |[],[],[],_,_,_=>rfl
 |[],[],_::_,_,h,_=>by simp at h
 |[],_::_,_,h,_,_=>by simp[czw]at h
 |_::_,[],_,h,_,_=>by simp[czw]at h
 |_::_,_::_,[],_,h,_=>by simp at h
 |t::tm,p::ps,v::vs,h,hl,hr=>by
  simp only[czw,qn]at h;have h0:=hr 0 p v (by simp) (by simp);have ih:=Mz8 h.2 (by simpa using hl) (λj q u hq hu=>hr (j+1) q u (by simpa using hq) (by simpa using hu));simp only[fzp,ih,Bool.and_true];cases h0<;>cases t<;>simp[Kzb]at h<;>simp[Iz7]
theorem Jzw:∀ {tm p q:List PVal},czw tm p=true->czw tm q=true->∃r,dzx p q=some r/\∀l,fzp q l=true->fzp p l=r
 |[],[],[],_,_=>⟨true,rfl,λl h=>by cases l<;>simp_all [fzp]⟩
 |[],_::_,_,h,_=>by simp[czw]at h
 |[],_,_::_,_,h=>by simp[czw]at h
 |_::_,[],_,h,_=>by simp[czw]at h
 |_::_,_,[],_,h=>by simp[czw]at h
 |t::tm,a::p,b::q,h1,h2=>by
  simp only[czw,qn]at h1 h2;obtain⟨r,hr,hl⟩:=Jzw h1.2 h2.2;cases t<;>cases a<;>simp[Kzb]at h1<;>cases b<;>simp[Kzb]at h2
  ·rename_i x y;refine⟨(x==y)&&r,by simp[dzx,hr],λl hh=>?_⟩;cases l with
   |nil=>simp[fzp]at hh
   |cons v l=>
    simp only[fzp,qn]at hh⊢;rw[hl l hh.2];cases v<;>simp[Iz7]at hh⊢
    rw[hh.1]
  ·rename_i k1 n1 k2 n2 k3 n3;obtain⟨rfl,h1⟩:=h1;obtain⟨rfl,h2⟩:=h2;refine⟨(n2==n3)&&r,by simp[dzx,hr],λl hh=>?_⟩;cases l with
   |nil=>simp[fzp]at hh
   |cons v l=>
    simp only[fzp,qn]at hh⊢;rw[hl l hh.2];cases v<;>simp[Iz7]at hh⊢
    obtain⟨⟨rfl,rfl⟩,_⟩:=hh;simp
theorem Sz1 {tm p q:List PVal}(hp:czw tm p=true)(hq:czw tm q=true){v:qt}(hv:hzx q v=true):dzx p q=some (hzx p v):=by
 obtain⟨r,h1,h2⟩:=Jzw hp hq;cases v<;>simp[hzx]at hv
 rw[h1,hzx,h2 _ hv]
theorem uzr:∀ {ks:List Nat} {tm ps:List PVal},czw tm ps=true->fits ks tm=true->fits ks ps=true
 |[],[],[],_,_=>rfl
 |_,[],_::_,h,_=>by simp[czw]at h
 |_,_::_,[],h,_=>by simp[czw]at h
 |[],_::_,_::_,_,h=>by simp[fits]at h
 |_::_,[],[],_,h=>by simp[fits]at h
 |k::ks,t::tm,p::ps,h,h'=>by
  simp only[czw,fits,qn]at h h'⊢;refine⟨?_,uzr h.2 h'.2⟩;have h1:=h.1;have h2:=h'.1;cases t<;>cases p<;>simp[Kzb]at h1<;>revert h2<;>unfold Izc<;>split<;>simp_all
theorem Kzl {e:qr}{D:Nat}{em:Bool}{ks:List Nat}(ha:Kz9 P e ks)(hs:cz5 P e=some ks.length)
 (ih:∀x ps,IsCells P F w e x ps->fits ks ps=true->(Instr.checkKey em D e x).run P w=.ok () w) {xs:Array qt} {ps:List PVal} (hl:ps.length=xs.size)
 (hx:∀ (j:Nat) (p:PVal) (v:qt),ps[j]?=some p->xs[j]?=some v->PRel F w p v) {off:Nat} {ks':List Nat} (h1:fits (ks++ks') (ps.drop off)=true):
 ∃x,(part e xs off).run P w=.ok x w/\(Instr.checkKey em D e x).run P w=.ok () w/\fits ks' (ps.drop (off+ks.length))=true:=by
 obtain⟨f1,f2,f3⟩:=wz8 h1;rw[List.drop_drop]at f2;simp only[List.length_drop]at f3;by_cases hle:off+ks.length<=ps.length
 ·obtain⟨x,px,cx⟩:=IsCells.part (P:=P) (F:=F) (w:=w) off hs hl hx qa ha;exact⟨x,px,ih x _ cx f1,f2⟩
 ·rcases ha with ha|⟨ha,h1⟩
  ·have hk0:ks.length=0:=qa
   refine⟨_,pzl (.inl ⟨ha,ks.length,hs,rfl⟩),ih _ [] (.inl ⟨ha,_,rfl,by simp;omega,by simp⟩) ?_,f2⟩;rw[hk0]at f1;simpa using f1
  ·omega
theorem vzy (em:Bool):∀ (d:Nat) (t:qr) (ks:List Nat),rzh P d t=some ks->∀ (D:Nat) (x:qt) (ps:List PVal),IsCells P F w t x ps->fits ks ps=true->
 (Instr.checkKey em (D+d) t x).run P w=.ok () w
 |0,_,_,h,_,_,_,_,_=>by simp[rzh]at h
 |d+1,t,ks,h,D,x,ps,hx,hf=>by
  rw[show D+(d+1)=(D+d)+1 from rfl];have hsc:ezo P t=some false->∃p,ps=[p]/\PRel F w p x:=by
   intro ha;rcases hx with⟨h1,_⟩|⟨_,h1⟩
   ·rw[ha]at h1;cases h1
   ·exact h1
  have hag:ezo P t=some true->∃vs:Array qt,x=.agg vs/\ps.length=vs.size/\∀ (j:Nat) (p:PVal) (v:qt),ps[j]?=some p->vs[j]?=some v->PRel F w p v:=by
   intro ha;rcases hx with⟨_,h1⟩|⟨h1,_⟩
   ·exact h1
   ·rw[ha]at h1;cases h1
  simp only[rzh]at h;split at h<;>rename_i hu
  ·simp[Instr.checkKey,zQ hu]
  ·simp[Instr.checkKey,zQ hu]
  ·simp[Instr.checkKey,zQ hu]
  ·rename_i n e;split at h
   ·rename_i k1 he;split at h
    ·rename_i hs;simp only[qn,qf,wd]at hs;simp at h;subst h;obtain⟨xs,rfl,hl,hx'⟩:=hag (by simp[ezo,hu]);rw[Instr.checkKey];simp only[zF,zQ hu,zE];simp only[Std.Legacy.Range.forIn_eq_forIn_range',Std.Legacy.Range.size,Nat.sub_zero,Nat.add_one_sub_one,Nat.div_one]
     have key:∀ (k i:Nat),fits (List.replicate k k1).flatten (ps.drop (i * k1.length))=true->
      (forIn (List.range' i k) PUnit.unit λi _=>(do
       let a<-sizeOf e;let b<-part e xs (i * a)
       Instr.checkKey em (D+d) e b
       pure (ForInStep.yield PUnit.unit):Sem (ForInStep PUnit))).run P w=.ok PUnit.unit w:=by
      intro k;induction k with
      |zero=>intro i _;simp
      |succ k ih=>
       intro i hfi;rw[List.replicate_succ,List.flatten_cons]at hfi;obtain⟨y,p1,p2,p3⟩:=Kzl (em:=em) (D:=D+d) (Kz2 he) hs.1 (λx ps h1 h2=>vzy em d e k1 he D x ps h1 h2) hl hx' hfi;rw[show i * k1.length+k1.length=(i+1) * k1.length by rw[Nat.add_mul];omega]at p3;rw[List.range'_succ];simp only[jH,zF,dzb hs.1,zE,p1,p2,zG];exact ih (i+1) p3
     have:=key n 0 (by simpa using hf);simp at this;simp[this]
    ·cases h
   ·cases h
  ·rename_i fs;split at h
   ·cases h
   ·obtain⟨xs,rfl,hl,hx'⟩:=hag (by simp[ezo,hu]);rw[Instr.checkKey];simp only[zF,zQ hu,zE];rw[<-Array.forIn_toList]
    have key:∀ (l:List Field) (off:Nat) (ks:List Nat),Ezs P (rzh P d) l off=some ks->fits ks (ps.drop off)=true->
     (forIn l PUnit.unit λf _=>(if f.name≠ "_" then(do
      let b<-part f.type xs f.offset
      Instr.checkKey em (D+d) f.type b
      pure (ForInStep.yield PUnit.unit))else pure (ForInStep.yield PUnit.unit):Sem (ForInStep PUnit))).run P w=.ok PUnit.unit w:=by
     intro l;induction l with
     |nil=>intro off ks _ _;simp
     |cons f l ih=>
      intro off ks hfl hfi;simp only[Ezs]at hfl;split at hfl
      ·rename_i hc;simp only[qn,qf,bne_iff_ne,ne_eq]at hc;obtain⟨rfl,hname⟩:=hc;split at hfl
       ·rename_i k1 h1;split at hfl
        ·rename_i hs;simp only[qn,qf,wd]at hs;split at hfl
         ·rename_i k2 h2;simp at hfl;subst hfl;obtain⟨y,p1,p2,p3⟩:=Kzl (em:=em) (D:=D+d) (Kz2 h1) hs.1 (λx ps q1 q2=>vzy em d f.type k1 h1 D x ps q1 q2) hl hx' hfi;simp only[jH,ne_eq,hname,not_false_eq_true,if_true,zF,p1,p2,zE,zG];exact ih _ _ h2 p3
         ·cases hfl
        ·cases hfl
       ·cases hfl
      ·cases hfl
    have:=key fs.toList 0 ks h (by simpa using hf);simp at this;simp[this]
  ·cases h
theorem wz6 (p:List PVal):∀ (l:List MapEntry) (i:Nat),(gz7 p l i).map (·.2)=ezh p l
 |[],_=>rfl
 |e::l,i=>by
  simp only[gz7,ezh];split
  ·rfl
  ·exact wz6 p l (i+1)
theorem rzm {p:List PVal}:∀ {l:List MapEntry} {i n:Nat} {v:qt},gz7 p l i=some (n,v)->∃j e,n=i+j/\l[j]?=some e/\hzx p e.key=true/\e.val=v
 |[],i,n,v,h=>by simp[gz7]at h
 |e::l,i,n,v,h=>by
  simp only[gz7]at h;split at h
  ·rename_i hk;simp at h;exact⟨0,e,qa,by simp,hk,h.2⟩
  ·obtain⟨j,e',h1,h2,h3,h4⟩:=rzm h;exact⟨j+1,e',qa,by simpa using h2,h3,h4⟩
theorem wzg {t:qr}(ht:ezo P t=some true){q:List PVal}{v:qt}(h:hzx q v=true):IsCells P F w t v q:=by
 cases v<;>simp[hzx]at h
 rename_i vs;obtain⟨h1,h2⟩:=Kzj (F:=F) (w:=w) h;exact .inl ⟨ht,vs,rfl,by simpa using h1,λj p v hp hv=>h2 j p v hp (by simpa using hv)⟩
theorem Zz9 {k:qr}{ks:List Nat}{tm cs:List PVal}{key:qt}(hf:rzh P 20 k=some ks)(ht:ezo P k=some true)(htm:fits ks tm=true)(hcs:czw tm cs=true)(hkey:hzx cs key=true):
 ∀ (l:List MapEntry) (i:Nat),(∀e∈l,∃q,czw tm q=true/\hzx q e.key=true)->(Instr.findAsking k key l i).run P w=.ok (gz7 cs l i) w
 |[],i,_=>by simp[Instr.findAsking,gz7]
 |e::l,i,hl=>by
  obtain⟨q,h1,h2⟩:=hl e (by simp);have he:=Jzz (P:=P) (F:=λ_ _=>False) (w:=w) 20 k ks hf 9980 key e.key cs q (hzx cs e.key) (wzg ht hkey) (wzg ht h2) (uzr hcs htm) (uzr h1 htm) (Sz1 hcs h1 h2);have he':(Op.equal k key e.key).run P w=.ok (hzx cs e.key) w:=he;simp only[Instr.findAsking,gz7,zF,he',zE];cases hk:hzx cs e.key with
  |true=>simp
  |false=>
   simp only[za,if_false];exact Zz9 hf ht htm hcs hkey l (i+1) (λe he=>hl e (by simp[he]))
theorem run_findKey' {k:qr}{ks:List Nat}{tm cs:List PVal}{key:qt}(hf:rzh P 20 k=some ks)(ht:ezo P k=some true)(htm:fits ks tm=true)(hcs:czw tm cs=true)(hkey:hzx cs key=true)
 (l:List MapEntry) (hl:∀e∈l,∃q,czw tm q=true/\hzx q e.key=true):(Instr.findKey k key l).run P w=.ok (gz7 cs l 0) w:=by
 obtain⟨d,hd⟩:∃d,P.underlying k=some d:=by
  cases hu:P.underlying k with
  |none=>simp[ezo,hu]at ht
  |some d=>exact⟨d,rfl⟩
 simp only[Instr.findKey,zF,zQ hd,zE];have hagg:∃vs,key=.agg vs:=by cases key<;>simp[hzx]at hkey;exact⟨_,rfl⟩
 obtain⟨vs,rfl⟩:=hagg;cases l with
 |nil=>simp[Instr.findNow,gz7]
 |cons e l=>
  have hs:Instr.sameNow d (.agg vs) e.key=none:=by cases d<;>rfl
  simp only[Instr.findNow,hs];exact Zz9 hf ht htm hcs hkey (e::l) 0 hl
theorem zzc (p:List PVal)(e:MapEntry):∀ (l:List MapEntry),ezh p (l++[e])=(ezh p l).or (if hzx p e.key then some e.val else none)
 |[]=>by simp[ezh]
 |x::l=>by
  simp only[List.cons_append,ezh];split
  ·rfl
  ·exact zzc p e l
theorem zzd {p:List PVal}{key v:qt}(hk:hzx p key=true):∀ (l:List MapEntry) (i n:Nat) (v0:qt),gz7 p l i=some (i+n,v0)->
 ezh p (l.modify n (λe=>{e with key:=key,val:=v}))=some v
 |[],i,n,v0,h=>by simp[gz7]at h
 |e::l,i,n,v0,h=>by
  simp only[gz7]at h;split at h
  ·simp at h;obtain⟨rfl,_⟩:=h;simp[ezh,hk]
  ·rename_i hk';obtain⟨j,e',hj,_⟩:=rzm h;obtain⟨n,rfl⟩:∃n',n=n'+1:=⟨n-1,qa⟩;rw[show i+(n+1)=i+1+n from qa]at h;simp only[jI,ezh,hk',za,if_false];exact zzd hk l (i+1) n v0 h
theorem wz7 {p q:List PVal}{key v:qt}(hk:hzx p key=true)(hpq:∀u,hzx p u=true->hzx q u=false):∀ (l:List MapEntry) (i n:Nat) (v0:qt),gz7 p l i=some (i+n,v0)->
 ezh q (l.modify n (λe=>{e with key:=key,val:=v}))=ezh q l
 |[],i,n,v0,h=>by simp[gz7]at h
 |e::l,i,n,v0,h=>by
  simp only[gz7]at h;split at h
  ·rename_i hk';simp at h;obtain⟨rfl,_⟩:=h;simp[ezh,hpq _ hk,hpq _ hk']
  ·obtain⟨j,e',hj,_⟩:=rzm h;obtain⟨n,rfl⟩:∃n',n=n'+1:=⟨n-1,qa⟩;rw[show i+(n+1)=i+1+n from qa]at h;simp only[jI,ezh];rw[wz7 hk hpq l (i+1) n v0 h]
theorem Gzr:∀ {tm p q:List PVal},czw tm p=true->czw tm q=true->dzx p q=some true->p=q
 |[],[],[],_,_,_=>rfl
 |[],_::_,_,h,_,_=>by simp[czw]at h
 |[],_,_::_,_,h,_=>by simp[czw]at h
 |_::_,[],_,h,_,_=>by simp[czw]at h
 |_::_,_,[],_,h,_=>by simp[czw]at h
 |t::tm,a::p,b::q,h1,h2,h=>by
  simp only[czw,qn]at h1 h2;obtain⟨r,hr,_⟩:=Jzw h1.2 h2.2;cases t<;>cases a<;>simp[Kzb]at h1<;>cases b<;>simp[Kzb]at h2
  ·simp[dzx,hr]at h;obtain⟨rfl,rfl⟩:=h;rw[Gzr h1 h2 hr]
  ·obtain⟨rfl,h1⟩:=h1;obtain⟨rfl,h2⟩:=h2;simp[dzx,hr]at h;obtain⟨rfl,rfl⟩:=h;rw[Gzr h1 h2 hr]
theorem wzf {tm p q:List PVal}(hp:czw tm p=true)(hq:czw tm q=true):(zzk q p=true/\q=p)\/(zzk q p=false/\∀u,hzx p u=true->hzx q u=false):=by
 obtain⟨r,h1,_⟩:=Jzw hq hp;cases r with
 |true=>exact .inl ⟨by simp[zzk,h1],Gzr hq hp h1⟩
 |false=>
  refine .inr ⟨by simp[zzk,h1],λu hu=>?_⟩;have:=Sz1 hq hp hu;rw[h1]at this;simpa using this.symm
theorem Vz0 {p:List PVal}{a b:qt}(ha:hzx p a=true)(hb:hzx p b=true):a=b/\Instr.sameBits 10000 a b=true:=by
 cases a<;>simp[hzx]at ha
 cases b<;>simp[hzx]at hb
 rename_i xs ys;have key:∀ (p:List PVal) (xs ys:List qt),fzp p xs=true->fzp p ys=true->xs=ys/\((xs.zip ys).all λ(x,y)=>Instr.sameBits 9999 x y)=true:=by
  intro p;induction p with
  |nil=>intro xs ys h1 h2;cases xs<;>cases ys<;>simp_all [fzp]
  |cons c p ih=>
   intro xs ys h1 h2;cases xs with
   |nil=>simp[fzp]at h1
   |cons x xs=>
    cases ys with
    |nil=>simp[fzp]at h2
    |cons y ys=>
     simp only[fzp,qn]at h1 h2;obtain⟨e1,e2⟩:=ih xs ys h1.2 h2.2;have hx:=h1.1;have hy:=h2.1;have:x=y/\Instr.sameBits 9999 x y=true:=by
      cases c<;>cases x<;>simp[Iz7]at hx<;>cases y<;>simp[Iz7]at hy
      ·subst hx;subst hy;simp[Instr.sameBits]
      ·obtain⟨rfl,rfl⟩:=hx;obtain⟨rfl,rfl⟩:=hy;simp[Instr.sameBits]
     refine⟨by rw[this.1,e1],?_⟩;simp only[List.zip_cons_cons,List.all_cons,this.2,Bool.true_and];exact e2
 obtain⟨e1,e2⟩:=key p xs.toList ys.toList ha hb;have e3:xs=ys:=by rw[<-Array.toArray_toList (xs:=xs),e1]
 refine⟨by rw[e3],?_⟩;show(xs.size==ys.size&&(xs.toList.zip ys.toList).all λ(x,y)=>Instr.sameBits 9999 x y)=true;rw[qn];exact⟨by rw[e3];simp,e2⟩
theorem az2y {Mine:Nat->Prop}{M:Mem}{tm:List PVal}{dom:List PVal->Bool}{val:List PVal->PVal}{j:Nat}(hm:MemOk F w ρ Mine M)(h:M.get j=some (.map tm dom val)):
 ∃es clock,w.heap[ρ.blk j]?=some (.map es clock)/\(∀o,¬F (ρ.blk j) o)/\(∀e∈es.toList,∃q,czw tm q=true/\hzx q e.key=true)/\
  (∀p,czw tm p=true->ezh p es.toList=none->dom p=false)/\(∀p v,czw tm p=true->ezh p es.toList=some v->dom p=true/\PRel F w (val p) v):=hm.ok j _ h
theorem az58 {e:qr}{z:PVal}(h:az82 P e=some z):∃v,(zeroValue e).run P w=.ok v w/\PRel F w z v:=by
 unfold az82 at h;split at h
 ·rename_i i hi;split at h
  ·rename_i cs hz;split at h
   ·rename_i ps hps;cases h;obtain⟨h1,h2⟩:=mzz hps;refine⟨.agg cs,by simp[zeroValue,typeInfo,hi,hz],.agg (by simpa using h1.symm) (λj p v hp hv=>?_)⟩;obtain⟨a,ha1,ha2⟩:=h2 j p hp;simp[hv]at ha1;subst ha1;exact(gzm (F:=F) (w:=w) (ρ:=⟨λ_=>0,λ_=>none⟩) v).toP ha2
   ·cases h
  ·rename_i v _ hz;exact⟨v,by simp[zeroValue,typeInfo,hi,hz],(gzm (F:=F) (w:=w) (ρ:=⟨λ_=>0,λ_=>none⟩) v).toP h⟩
  ·cases h
 ·cases h
theorem az8g {tm cs:List PVal}{ix:AVal}{v:qt}(hx:ix.toP=some (.agg cs))(hr:ARel F w ρ ix v)(ha:czw tm cs=true):hzx cs v=true:=by
 have:=hr.toP hx;cases this with
 |agg hl h=>exact Mz8 ha (by simpa using hl) (λj p v hp hv=>h j p v hp (by simpa using hv))
theorem az7f {t:qr}{x ix:Operand}{ok:Bool}{out:Out}(ho:o.op=.lookup t x ix ok)(h:Pzx P t (env x) (env ix) ok m=some out)(hob:holds out.obl):Sound1 P o env m id out:=by
 unfold Pzx at h;split at h
 ·rename_i k e j hu hx;split at h
  ·rename_i tm dom val cs hmj hix;split at h
   ·rename_i ks z hf hz;split at h
    ·rename_i hc;simp only[qn,qf]at hc;obtain⟨⟨hag,hft⟩,hal⟩:=hc;cases h;intro F w ρ Mine M a hm g fr hrd hfe ha;have hM:=hrd j (by simp);obtain⟨es,clock,hb,hF,hkeys,hn,hs⟩:=az2y hm (hM.trans hmj);have hxv:a.eval x=.map (some (ρ.blk j)):=by
      have:=hx▸ha x (by simp[ho,zO]);generalize a.eval x=v at this;cases this;rfl
     have hkey:hzx cs (a.eval ix)=true:=az8g hix (ha ix (by simp[ho,zO])) hal;have hck:∀em,(Instr.checkKey em 10000 k (a.eval ix)).run P w=.ok () w:=λem=>vzy (F:=λ_ _=>False) em 20 k ks hf 9980 _ cs (wzg hag hkey) (uzr hal hft)
     have hfk:=run_findKey' (w:=w) hf hag hft hal hkey es.toList hkeys;obtain⟨zv,hzv,hzr⟩:=az58 (P:=P) (F:=F) (w:=w) hz;obtain⟨v,b,hv,hdb,hrun⟩:∃v b,PRel F w (val cs) v/\dom cs=b/\(Instr.lookup t (.map (some (ρ.blk j))) (a.eval ix) ok).run P w=.ok (if ok then .tuple #[v,.bool b]else v) w:=by
      cases hp:gz7 cs es.toList 0 with
      |none=>
       have hfv:ezh cs es.toList=none:=by rw[<-wz6 cs _ 0,hp];rfl
       have hd:=hn cs hal hfv;refine⟨zv,false,by rw[hob hd];exact hzr,hd,?_⟩;rw[hp]at hfk;simp[Instr.lookup,zQ hu,MapKept.run_getObj_map hb,hck,hfk,hzv]
      |some r=>
       obtain⟨n,v⟩:=r;have hfv:ezh cs es.toList=some v:=by rw[<-wz6 cs _ 0,hp];rfl
       obtain⟨hd,hr⟩:=hs cs v hal hfv;refine⟨v,true,hr,hd,?_⟩;rw[hp]at hfk;simp[Instr.lookup,zQ hu,MapKept.run_getObj_map hb,hck,hfk]
     refine⟨if ok then .tuple #[v,.bool b]else v,w,F,ρ,.inl (by simp only[execOp,ho,zF,hxv,hrun,zE,zG]),Step.refl g,λ_ _=>⟨rfl,rfl⟩,?_,hm⟩;cases ok
     ·exact .pure hv
     ·simp only[if_true];refine .tup (by simp) (λi a' v' h1 h2=>?_)
      match i with
      |0=>simp at h1 h2;subst h1;subst h2;exact .pure hv
      |1=>simp at h1 h2;subst h1;subst h2;rw[hdb];exact .pure .bool
      |n+2=>simp at h1
    ·cases h
   ·cases h
  ·cases h
 ·cases h
theorem az6u {Mine:Nat->Prop}{M:Mem}{j:Nat}{tm:List PVal}{dom dom':List PVal->Bool}{val val':List PVal->PVal}{es es':Array MapEntry}{clock clock':Nat}(hm:MemOk F w ρ Mine M)(g:Good F w Mine)
 (hM:M.get j=some (.map tm dom val)) (hb:w.heap[ρ.blk j]?=some (.map es clock)) (hF:∀o,¬F (ρ.blk j) o)
 (hk:∀e∈es'.toList,∃q,czw tm q=true/\hzx q e.key=true) (hn:∀p,czw tm p=true->ezh p es'.toList=none->dom' p=false)
 (hs:∀p v,czw tm p=true->ezh p es'.toList=some v->dom' p=true/\PRel F w (val' p) v):
 Step Mine F w F {w with heap:=w.heap.setIfInBounds (ρ.blk j) (.map es' clock')}/\MemOk F {w with heap:=w.heap.setIfInBounds (ρ.blk j) (.map es' clock')} ρ Mine ([(j,.map tm dom' val')]++M):=by
 obtain⟨h1,h2⟩:=MapKept.heap_set (o':=.map es' clock') hb;have hmine:=hm.mine j _ _ hM (.inl rfl);have hcell:∀b o,F b o->({w with heap:=w.heap.setIfInBounds (ρ.blk j) (.map es' clock')}:World).cell? ⟨b,o,none⟩=w.cell? ⟨b,o,none⟩:=by
  intro b o hbo;have hne:b≠ρ.blk j:=λe=>hF o (e▸hbo)
  simp only[World.cell?];rw[h2 b hne]
 have st:Step Mine F w F {w with heap:=w.heap.setIfInBounds (ρ.blk j) (.map es' clock')}:=by
  refine⟨λ_ _ h=>h,hcell,λ_ _ h=>.inl h,λb o h=>by simpa using g.lt b o h,⟨rfl,rfl,rfl,by simp,λk _ hk=>?_⟩⟩;exact h2 k (λe=>hk (e▸hmine.1))
 refine⟨st,hm.step st (λ_=>True) (λ_ _=>⟨rfl,rfl⟩) [(j,.map tm dom' val')] (λi r hi hw=>⟨trivial,λ_ h=>absurd trivial h,λb hbb=>⟨?_,λ_ h=>h⟩⟩) (λi r hi=>?_) (λi i' r r' b hi hi' _ _=>?_)⟩
 ·refine h2 b (λe=>?_);have:=hm.disj i j _ _ b hi hM hbb (by rw[e];exact .inl rfl);subst this;simp[Mem.get]at hw
 ·simp only[Mem.get]at hi;split at hi
  ·rename_i e;subst e;cases hi;refine⟨⟨es',clock',h1,hF,hk,hn,λp v hp hv=>⟨(hs p v hp hv).1,(hs p v hp hv).2.mono (λ_ _ h=>h) hcell⟩⟩,λb hbb=>?_⟩;simp only[Owns,nzk,or_false,bzi,Option.some.injEq]at hbb;subst hbb;refine⟨hmine.1,by simpa using hmine.2,λk r' hk' hw' hbk=>?_⟩;have:=hm.disj k j _ _ _ hk' hM hbk (.inl rfl);subst this;simp[Mem.get]at hw'
  ·cases hi
 ·simp only[Mem.get]at hi hi';split at hi
  ·split at hi'
   ·omega
   ·cases hi'
  ·cases hi
theorem Mzg {t:qr}{x ix y:Operand}{out:Out}(ho:o.op=.mapUpdate t x ix y\/o.op=.insert t x ix y)(h:wz5 P t (env x) (env ix) (env y) m=some out):Sound1 P o env m id out:=by
 unfold wz5 at h;split at h
 ·rename_i k e j hu hx;split at h
  ·rename_i tm dom val cs p hmj hix hy;split at h
   ·rename_i ks hf;split at h
    ·rename_i hc;simp only[qn,qf]at hc;obtain⟨⟨hag,hft⟩,hal⟩:=hc;cases h;intro F w ρ Mine M a hm g fr hrd hfe ha;have hM:=hrd j (by simp);obtain⟨es,clock,hb,hF,hkeys,hn,hs⟩:=az2y hm (hM.trans hmj);have hopx:x∈o.op.operands/\ix∈o.op.operands/\y∈o.op.operands:=by rcases ho with ho|ho<;>simp[ho,zO]
     have hxv:a.eval x=.map (some (ρ.blk j)):=by
      have:=hx▸ha x hopx.1;generalize a.eval x=v at this;cases this;rfl
     have hkey:hzx cs (a.eval ix)=true:=az8g hix (ha ix hopx.2.1) hal;have hv:=(ha y hopx.2.2).toP hy;have hck:∀em,(Instr.checkKey em 10000 k (a.eval ix)).run P w=.ok () w:=λem=>vzy (F:=λ_ _=>False) em 20 k ks hf 9980 _ cs (wzg hag hkey) (uzr hal hft)
     have hfk:=run_findKey' (w:=w) hf hag hft hal hkey es.toList hkeys
     obtain⟨es',clock',hrun,hk',hn',hs'⟩:∃es' clock',(Instr.mapUpdate t (.map (some (ρ.blk j))) (a.eval ix) (a.eval y)).run P w=.ok () {w with heap:=w.heap.setIfInBounds (ρ.blk j) (.map es' clock')}/\
      (∀e∈es'.toList,∃q,czw tm q=true/\hzx q e.key=true)/\(∀q,czw tm q=true->ezh q es'.toList=none->(zzk q cs||dom q)=false)/\
      (∀q v,czw tm q=true->ezh q es'.toList=some v->(zzk q cs||dom q)=true/\PRel F w (if zzk q cs then p else val q) v):=by
      cases hp:gz7 cs es.toList 0 with
      |none=>
       have hfv:ezh cs es.toList=none:=by rw[<-wz6 cs _ 0,hp];rfl
       rw[hp]at hfk;refine⟨es.push {key:=a.eval ix,val:=a.eval y,born:=clock},clock+1,?_,λe he=>?_,λq hq hq'=>?_,λq v hq hq'=>?_⟩
       ·simp[Instr.mapUpdate,zQ hu,MapKept.run_getObj_map hb,hck,hfk,MapKept.run_setObj_map _ hb]
       ·simp only[jJ,List.mem_append,List.mem_singleton]at he;rcases he with he|rfl
        ·exact hkeys e he
        ·exact⟨cs,hal,hkey⟩
       ·rw[jJ,zzc,Option.or_eq_none_iff]at hq';rcases wzf hal hq with⟨h1,rfl⟩|⟨h1,h2⟩
        ·simp[hkey]at hq'
        ·rw[h1,hn q hq hq'.1];rfl
       ·rw[jJ,zzc]at hq';rcases wzf hal hq with⟨h1,rfl⟩|⟨h1,h2⟩
        ·rw[hfv]at hq';simp[hkey]at hq';subst hq';simp[h1,hv]
        ·rw[h2 _ hkey]at hq';simp at hq';obtain⟨h3,h4⟩:=hs q v hq hq';simp[h1,h3,h4]
      |some r=>
       obtain⟨n,v0⟩:=r;obtain⟨j',e0,hj',hej,hke,_⟩:=rzm hp;rw[qF]at hj';subst hj';obtain⟨hee,hsb⟩:=Vz0 hke hkey;rw[hp]at hfk;have hp':gz7 cs es.toList 0=some (0+n,v0):=by rw[qF];exact hp
       have hes:es[n]?=some e0:=by simpa using hej
       have hkts:(Instr.keyThatStays e0.key (a.eval ix)).run P w=.ok (a.eval ix) w:=by
        unfold Instr.keyThatStays;rw[hsb];rfl
       refine⟨es.modify n (λe=>{e with key:=a.eval ix,val:=a.eval y}),clock,?_,λe he=>?_,λq hq hq'=>?_,λq v hq hq'=>?_⟩
       ·simp[Instr.mapUpdate,zQ hu,MapKept.run_getObj_map hb,hck,hfk,hes,hkts,MapKept.run_setObj_map _ hb]
       ·rw[jK]at he;obtain⟨i,hi⟩:=jL.1 he;rw[List.getElem?_modify]at hi;split at hi
        ·simp only[Option.map_eq_map,Option.map_eq_some_iff]at hi;obtain⟨e1,_,rfl⟩:=hi;exact⟨cs,hal,hkey⟩
        ·simp at hi;exact hkeys e (jL.2 ⟨i,by simpa using hi⟩)
       ·rw[jK]at hq';rcases wzf hal hq with⟨h1,rfl⟩|⟨h1,h2⟩
        ·rw[zzd hkey _ 0 n v0 hp']at hq';cases hq'
        ·rw[wz7 hkey h2 _ 0 n v0 hp']at hq';rw[h1,hn q hq hq'];rfl
       ·rw[jK]at hq';rcases wzf hal hq with⟨h1,rfl⟩|⟨h1,h2⟩
        ·rw[zzd hkey _ 0 n v0 hp']at hq';cases hq';simp[h1,hv]
        ·rw[wz7 hkey h2 _ 0 n v0 hp']at hq';obtain⟨h3,h4⟩:=hs q v hq hq';simp[h1,h3,h4]
     obtain⟨st,hm'⟩:=az6u (clock':=clock') hm g (hM.trans hmj) hb hF hk' hn' hs';refine⟨undef,_,F,ρ,.inr ⟨?_,rfl⟩,st,λ_ _=>⟨rfl,rfl⟩,.any,hm'⟩;rcases ho with ho|ho<;>simp only[execOp,ho,zF,hxv,hrun,zE,zG]
    ·cases h
   ·cases h
  ·cases h
 ·cases h
theorem az4m {t:qr}{out:Out}(ho:o.op=.makeMap t none)(h:Lz0 P t id=some out):Sound1 P o env m id out:=by
 unfold Lz0 at h;split at h
 ·rename_i k e hu;split at h
  ·rename_i tm z htm hz;cases h;intro F w ρ Mine M a hm g fr _ hfe ha;have st:Step Mine F w F (w.alloc (.map #[] 0)):=by
    have s:=Step.alloc g (.map #[] 0) (λ_=>False);exact⟨λ_ _ h=>h,s.cell,λ_ _ h=>.inl h,λb o h=>by have:=g.lt b o h;simp;omega,s.keep⟩
   let ρ':=ρ.setBlk id w.heap.size;have hb:ρ'.blk id=w.heap.size:=qc rfl;have he:dzn id ρ ρ':=λi hi=>⟨qb (λh=>hi ⟨qa,qa⟩),rfl⟩
   refine⟨.map (some w.heap.size),w.alloc (.map #[] 0),F,ρ',.inl ?_,st,he,?_,?_⟩
   ·simp[execOp,ho,Instr.makeMap]
   ·rw[<-hb];exact .map
   ·refine hm.step st (λi=>¬Own id i) he [(id,.map tm (λ_=>false) (λ_=>z))] (λj r hj _=>⟨λho=>?_,λi hi=>fr.has i j r (Classical.not_not.1 hi) hj,λb hbb=>⟨heap_alloc_old w _ (hm.mine j r b hj hbb).2,λ_ h=>h⟩⟩) (λj r hj=>?_) (λj j' r r' b hj hj' _ _=>?_)
    ·have:=fr.none j ho;rw[hj]at this;cases this
    ·simp only[Mem.get]at hj;split at hj
     ·rename_i e;subst e;cases hj;refine⟨⟨#[],0,by rw[hb];exact heap_alloc_new w _,λo ho=>by rw[hb]at ho;exact absurd (g.lt _ _ ho) qa,by simp,λ_ _ _=>rfl,λp v _ h=>by simp[ezh]at h⟩,λb hbb=>?_⟩;simp only[Owns,nzk,or_false,bzi,hb,Option.some.injEq]at hbb;subst hbb;exact⟨g.mine _ (Nat.le_refl _),by simp,λq r' hq _ hbq=>absurd (hm.mine q r' _ hq hbq).2 qa⟩
     ·cases hj
    ·simp only[Mem.get]at hj hj';split at hj
     ·split at hj'
      ·omega
      ·cases hj'
     ·cases hj
  ·cases h
 ·cases h
end Go.Abs
