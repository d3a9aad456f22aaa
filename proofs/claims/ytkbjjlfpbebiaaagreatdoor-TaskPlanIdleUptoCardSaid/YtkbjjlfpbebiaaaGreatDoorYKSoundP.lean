/-
  SoundP (a part of a claim: our own text).
-/
import Derived.Test.YtkbjjlfpbebiaaaGreatDoorYKSoundJ
import Derived.MapKept
namespace Go.Abs
variable {P:Program} {o:Oper} {env:Operand->AVal} {m:Mem} {id:Nat} {F:Cells} {w:World} {ρ:Env}
theorem Mzz {p:PVal}{v:Value}(h:xzn p v=true):PRel F w p v:=by
 cases p<;>cases v<;>simp[xzn]at h
 ·subst h;exact .bool
 ·obtain⟨rfl,rfl⟩:=h;exact .int
theorem Azr:∀ {ps:List PVal} {vs:List Value},ezh ps vs=true->ps.length=vs.length/\∀ (j:Nat) (p:PVal) (v:Value),ps[j]?=some p->vs[j]?=some v->PRel F w p v
 |[],[],_=>⟨rfl,by simp⟩
 |[],_::_,h=>by simp[ezh]at h
 |_::_,[],h=>by simp[ezh]at h
 |p::ps,v::vs,h=>by
  simp only[ezh,Bool.and_eq_true]at h
  obtain⟨h1,h2⟩:=Azr h.2
  refine⟨by simp[h1],fun j q u hq hu=>?_⟩
  cases j with
  |zero=>simp at hq hu;subst hq;subst hu;exact Mzz h.1
  |succ j=>exact h2 j q u (by simpa using hq) (by simpa using hu)
theorem Cz9:∀ {tm ps:List PVal} {vs:List Value},cza tm ps=true->ps.length=vs.length->(∀ (j:Nat) (p:PVal) (v:Value),ps[j]?=some p->vs[j]?=some v->PRel F w p v)->ezh ps vs=true
 |[],[],[],_,_,_=>rfl
 |[],[],_::_,_,h,_=>by simp at h
 |[],_::_,_,h,_,_=>by simp[cza]at h
 |_::_,[],_,h,_,_=>by simp[cza]at h
 |_::_,_::_,[],_,h,_=>by simp at h
 |t::tm,p::ps,v::vs,h,hl,hr=>by
  simp only[cza,Bool.and_eq_true]at h
  have h0:=hr 0 p v (by simp) (by simp)
  have ih:=Cz9 h.2 (by simpa using hl) (fun j q u hq hu=>hr (j+1) q u (by simpa using hq) (by simpa using hu))
  simp only[ezh,ih,Bool.and_true]
  cases h0<;>cases t<;>simp[Azd]at h<;>simp[xzn]
theorem Az0:∀ {tm p q:List PVal},cza tm p=true->cza tm q=true->∃r,dz8 p q=some r/\∀l,ezh q l=true->ezh p l=r
 |[],[],[],_,_=>⟨true,rfl,fun l h=>by cases l<;>simp_all [ezh]⟩
 |[],_::_,_,h,_=>by simp[cza]at h
 |[],_,_::_,_,h=>by simp[cza]at h
 |_::_,[],_,h,_=>by simp[cza]at h
 |_::_,_,[],_,h=>by simp[cza]at h
 |t::tm,a::p,b::q,h1,h2=>by
  simp only[cza,Bool.and_eq_true]at h1 h2
  obtain⟨r,hr,hl⟩:=Az0 h1.2 h2.2
  cases t<;>cases a<;>simp[Azd]at h1<;>cases b<;>simp[Azd]at h2
  ·rename_i x y
   refine⟨(x==y)&&r,by simp[dz8,hr],fun l hh=>?_⟩
   cases l with
   |nil=>simp[ezh]at hh
   |cons v l=>
    simp only[ezh,Bool.and_eq_true]at hh⊢
    rw[hl l hh.2]
    cases v<;>simp[xzn]at hh⊢
    rw[hh.1]
  ·rename_i k1 n1 k2 n2 k3 n3
   obtain⟨rfl,h1⟩:=h1
   obtain⟨rfl,h2⟩:=h2
   refine⟨(n2==n3)&&r,by simp[dz8,hr],fun l hh=>?_⟩
   cases l with
   |nil=>simp[ezh]at hh
   |cons v l=>
    simp only[ezh,Bool.and_eq_true]at hh⊢
    rw[hl l hh.2]
    cases v<;>simp[xzn]at hh⊢
    obtain⟨⟨rfl,rfl⟩,_⟩:=hh
    simp
theorem Izd {tm p q:List PVal}(hp:cza tm p=true)(hq:cza tm q=true){v:Value}(hv:fzs q v=true):dz8 p q=some (fzs p v):=by
 obtain⟨r,h1,h2⟩:=Az0 hp hq
 cases v<;>simp[fzs]at hv
 rw[h1,fzs,h2 _ hv]
theorem nz0:∀ {ks:List Nat} {tm ps:List PVal},cza tm ps=true->fits ks tm=true->fits ks ps=true
 |[],[],[],_,_=>rfl
 |_,[],_::_,h,_=>by simp[cza]at h
 |_,_::_,[],h,_=>by simp[cza]at h
 |[],_::_,_::_,_,h=>by simp[fits]at h
 |_::_,[],[],_,h=>by simp[fits]at h
 |k::ks,t::tm,p::ps,h,h'=>by
  simp only[cza,fits,Bool.and_eq_true]at h h'⊢
  refine⟨?_,nz0 h.2 h'.2⟩
  have h1:=h.1
  have h2:=h'.1
  cases t<;>cases p<;>simp[Azd]at h1<;>revert h2<;>unfold xzt<;>split<;>simp_all
theorem Azs {e:TypeId}{D:Nat}{em:Bool}{ks:List Nat}(ha:Aza P e ks)(hs:bzi P e=some ks.length)
 (ih:∀x ps,IsCells P F w e x ps->fits ks ps=true->(Instr.checkKey em D e x).run P w=.ok () w) {xs:Array Value} {ps:List PVal} (hl:ps.length=xs.size)
 (hx:∀ (j:Nat) (p:PVal) (v:Value),ps[j]?=some p->xs[j]?=some v->PRel F w p v) {off:Nat} {ks':List Nat} (h1:fits (ks++ks') (ps.drop off)=true):
 ∃x,(part e xs off).run P w=.ok x w/\(Instr.checkKey em D e x).run P w=.ok () w/\fits ks' (ps.drop (off+ks.length))=true:=by
 obtain⟨f1,f2,f3⟩:=nzy h1
 rw[List.drop_drop]at f2
 simp only[List.length_drop]at f3
 by_cases hle:off+ks.length≤ps.length
 ·obtain⟨x,px,cx⟩:=IsCells.part (P:=P) (F:=F) (w:=w) off hs hl hx (by omega) ha
  exact⟨x,px,ih x _ cx f1,f2⟩
 ·rcases ha with ha|⟨ha,h1⟩
  ·have hk0:ks.length=0:=by omega
   refine⟨_,kzj (.inl ⟨ha,ks.length,hs,rfl⟩),ih _ [] (.inl ⟨ha,_,rfl,by simp;omega,by simp⟩) ?_,f2⟩
   rw[hk0]at f1
   simpa using f1
  ·omega
theorem nzr (em:Bool):∀ (d:Nat) (t:TypeId) (ks:List Nat),lzs P d t=some ks->∀ (D:Nat) (x:Value) (ps:List PVal),IsCells P F w t x ps->fits ks ps=true->
 (Instr.checkKey em (D+d) t x).run P w=.ok () w
 |0,_,_,h,_,_,_,_,_=>by simp[lzs]at h
 |d+1,t,ks,h,D,x,ps,hx,hf=>by
  rw[show D+(d+1)=(D+d)+1 from rfl]
  have hsc:dzk P t=some false->∃p,ps=[p]/\PRel F w p x:=by
   intro ha
   rcases hx with⟨h1,_⟩|⟨_,h1⟩
   ·rw[ha]at h1;cases h1
   ·exact h1
  have hag:dzk P t=some true->∃vs:Array Value,x=.agg vs/\ps.length=vs.size/\∀ (j:Nat) (p:PVal) (v:Value),ps[j]?=some p->vs[j]?=some v->PRel F w p v:=by
   intro ha
   rcases hx with⟨_,h1⟩|⟨h1,_⟩
   ·exact h1
   ·rw[ha]at h1;cases h1
  simp only[lzs]at h
  split at h<;>rename_i hu
  ·simp[Instr.checkKey,run_underlying hu]
  ·simp[Instr.checkKey,run_underlying hu]
  ·simp[Instr.checkKey,run_underlying hu]
  ·rename_i n e
   split at h
   ·rename_i k1 he
    split at h
    ·rename_i hs
     simp only[Bool.and_eq_true,decide_eq_true_eq,Bool.not_eq_true']at hs
     simp at h;subst h
     obtain⟨xs,rfl,hl,hx'⟩:=hag (by simp[dzk,hu])
     rw[Instr.checkKey]
     simp only[Sem.run_bind,run_underlying hu,Result.andThen_ok]
     simp only[Std.Legacy.Range.forIn_eq_forIn_range',Std.Legacy.Range.size,Nat.sub_zero,Nat.add_one_sub_one,Nat.div_one]
     have key:∀ (k i:Nat),fits (List.replicate k k1).flatten (ps.drop (i * k1.length))=true->
      (forIn (List.range' i k) PUnit.unit fun i _=>(do
       let a←sizeOf e
       let b←part e xs (i * a)
       Instr.checkKey em (D+d) e b
       pure (ForInStep.yield PUnit.unit):Sem (ForInStep PUnit))).run P w=.ok PUnit.unit w:=by
      intro k
      induction k with
      |zero=>intro i _;simp
      |succ k ih=>
       intro i hfi
       rw[List.replicate_succ,List.flatten_cons]at hfi
       obtain⟨y,p1,p2,p3⟩:=Azs (em:=em) (D:=D+d) (Az4 he) hs.1 (fun x ps h1 h2=>nzr em d e k1 he D x ps h1 h2) hl hx' hfi
       rw[show i * k1.length+k1.length=(i+1) * k1.length by rw[Nat.add_mul];omega]at p3
       rw[List.range'_succ]
       simp only[List.forIn_cons,Sem.run_bind,cz2 hs.1,Result.andThen_ok,p1,p2,Sem.run_pure]
       exact ih (i+1) p3
     have:=key n 0 (by simpa using hf)
     simp at this
     simp[this]
    ·cases h
   ·cases h
  ·rename_i fs
   split at h
   ·cases h
   ·obtain⟨xs,rfl,hl,hx'⟩:=hag (by simp[dzk,hu])
    rw[Instr.checkKey]
    simp only[Sem.run_bind,run_underlying hu,Result.andThen_ok]
    rw[←Array.forIn_toList]
    have key:∀ (l:List Field) (off:Nat) (ks:List Nat),tzx P (lzs P d) l off=some ks->fits ks (ps.drop off)=true->
     (forIn l PUnit.unit fun f _=>(if f.name≠ "_" then(do
      let b←part f.type xs f.offset
      Instr.checkKey em (D+d) f.type b
      pure (ForInStep.yield PUnit.unit))else pure (ForInStep.yield PUnit.unit):Sem (ForInStep PUnit))).run P w=.ok PUnit.unit w:=by
     intro l
     induction l with
     |nil=>intro off ks _ _;simp
     |cons f l ih=>
      intro off ks hfl hfi
      simp only[tzx]at hfl
      split at hfl
      ·rename_i hc
       simp only[Bool.and_eq_true,decide_eq_true_eq,bne_iff_ne,ne_eq]at hc
       obtain⟨rfl,hname⟩:=hc
       split at hfl
       ·rename_i k1 h1
        split at hfl
        ·rename_i hs
         simp only[Bool.and_eq_true,decide_eq_true_eq,Bool.not_eq_true']at hs
         split at hfl
         ·rename_i k2 h2
          simp at hfl;subst hfl
          obtain⟨y,p1,p2,p3⟩:=Azs (em:=em) (D:=D+d) (Az4 h1) hs.1 (fun x ps q1 q2=>nzr em d f.type k1 h1 D x ps q1 q2) hl hx' hfi
          simp only[List.forIn_cons,ne_eq,hname,not_false_eq_true,if_true,Sem.run_bind,p1,p2,Result.andThen_ok,Sem.run_pure]
          exact ih _ _ h2 p3
         ·cases hfl
        ·cases hfl
       ·cases hfl
      ·cases hfl
    have:=key fs.toList 0 ks h (by simpa using hf)
    simp at this
    simp[this]
  ·cases h
theorem nzw (p:List PVal):∀ (l:List MapEntry) (i:Nat),(ezs p l i).map (·.2)=dzi p l
 |[],_=>rfl
 |e::l,i=>by
  simp only[ezs,dzi]
  split
  ·rfl
  ·exact nzw p l (i+1)
theorem mz2 {p:List PVal}:∀ {l:List MapEntry} {i n:Nat} {v:Value},ezs p l i=some (n,v)->∃j e,n=i+j/\l[j]?=some e/\fzs p e.key=true/\e.val=v
 |[],i,n,v,h=>by simp[ezs]at h
 |e::l,i,n,v,h=>by
  simp only[ezs]at h
  split at h
  ·rename_i hk
   simp at h
   exact⟨0,e,by omega,by simp,hk,h.2⟩
  ·obtain⟨j,e',h1,h2,h3,h4⟩:=mz2 h
   exact⟨j+1,e',by omega,by simpa using h2,h3,h4⟩
theorem oza {t:TypeId}(ht:dzk P t=some true){q:List PVal}{v:Value}(h:fzs q v=true):IsCells P F w t v q:=by
 cases v<;>simp[fzs]at h
 rename_i vs
 obtain⟨h1,h2⟩:=Azr (F:=F) (w:=w) h
 exact .inl ⟨ht,vs,rfl,by simpa using h1,fun j p v hp hv=>h2 j p v hp (by simpa using hv)⟩
theorem Mzp {k:TypeId}{ks:List Nat}{tm cs:List PVal}{key:Value}(hf:lzs P 20 k=some ks)(ht:dzk P k=some true)(htm:fits ks tm=true)(hcs:cza tm cs=true)(hkey:fzs cs key=true):
 ∀ (l:List MapEntry) (i:Nat),(∀e∈l,∃q,cza tm q=true/\fzs q e.key=true)->(Instr.findAsking k key l i).run P w=.ok (ezs cs l i) w
 |[],i,_=>by simp[Instr.findAsking,ezs]
 |e::l,i,hl=>by
  obtain⟨q,h1,h2⟩:=hl e (by simp)
  have he:=Az1 (P:=P) (F:=fun _ _=>False) (w:=w) 20 k ks hf 9980 key e.key cs q (fzs cs e.key) (oza ht hkey) (oza ht h2) (nz0 hcs htm) (nz0 h1 htm) (Izd hcs h1 h2)
  have he':(Op.equal k key e.key).run P w=.ok (fzs cs e.key) w:=he
  simp only[Instr.findAsking,ezs,Sem.run_bind,he',Result.andThen_ok]
  cases hk:fzs cs e.key with
  |true=>simp
  |false=>
   simp only[Bool.false_eq_true,if_false]
   exact Mzp hf ht htm hcs hkey l (i+1) (fun e he=>hl e (by simp[he]))
theorem run_findKey' {k:TypeId}{ks:List Nat}{tm cs:List PVal}{key:Value}(hf:lzs P 20 k=some ks)(ht:dzk P k=some true)(htm:fits ks tm=true)(hcs:cza tm cs=true)(hkey:fzs cs key=true)
 (l:List MapEntry) (hl:∀e∈l,∃q,cza tm q=true/\fzs q e.key=true):(Instr.findKey k key l).run P w=.ok (ezs cs l 0) w:=by
 obtain⟨d,hd⟩:∃d,P.underlying k=some d:=by
  cases hu:P.underlying k with
  |none=>simp[dzk,hu]at ht
  |some d=>exact⟨d,rfl⟩
 simp only[Instr.findKey,Sem.run_bind,run_underlying hd,Result.andThen_ok]
 have hagg:∃vs,key=.agg vs:=by cases key<;>simp[fzs]at hkey;exact⟨_,rfl⟩
 obtain⟨vs,rfl⟩:=hagg
 cases l with
 |nil=>simp[Instr.findNow,ezs]
 |cons e l=>
  have hs:Instr.sameNow d (.agg vs) e.key=none:=by cases d<;>rfl
  simp only[Instr.findNow,hs]
  exact Mzp hf ht htm hcs hkey (e::l) 0 hl
theorem qz2 (p:List PVal)(e:MapEntry):∀ (l:List MapEntry),dzi p (l++[e])=(dzi p l).or (if fzs p e.key then some e.val else none)
 |[]=>by simp[dzi]
 |x::l=>by
  simp only[List.cons_append,dzi]
  split
  ·rfl
  ·exact qz2 p e l
theorem qz3 {p:List PVal}{key v:Value}(hk:fzs p key=true):∀ (l:List MapEntry) (i n:Nat) (v0:Value),ezs p l i=some (i+n,v0)->
 dzi p (l.modify n (fun e=>{e with key:=key,val:=v}))=some v
 |[],i,n,v0,h=>by simp[ezs]at h
 |e::l,i,n,v0,h=>by
  simp only[ezs]at h
  split at h
  ·simp at h
   obtain⟨rfl,_⟩:=h
   simp[dzi,hk]
  ·rename_i hk'
   obtain⟨j,e',hj,_⟩:=mz2 h
   obtain⟨n,rfl⟩:∃n',n=n'+1:=⟨n-1,by omega⟩
   rw[show i+(n+1)=i+1+n by omega]at h
   simp only[List.modify_succ_cons,dzi,hk',Bool.false_eq_true,if_false]
   exact qz3 hk l (i+1) n v0 h
theorem nzx {p q:List PVal}{key v:Value}(hk:fzs p key=true)(hpq:∀u,fzs p u=true->fzs q u=false):∀ (l:List MapEntry) (i n:Nat) (v0:Value),ezs p l i=some (i+n,v0)->
 dzi q (l.modify n (fun e=>{e with key:=key,val:=v}))=dzi q l
 |[],i,n,v0,h=>by simp[ezs]at h
 |e::l,i,n,v0,h=>by
  simp only[ezs]at h
  split at h
  ·rename_i hk'
   simp at h
   obtain⟨rfl,_⟩:=h
   simp[dzi,hpq _ hk,hpq _ hk']
  ·obtain⟨j,e',hj,_⟩:=mz2 h
   obtain⟨n,rfl⟩:∃n',n=n'+1:=⟨n-1,by omega⟩
   rw[show i+(n+1)=i+1+n by omega]at h
   simp only[List.modify_succ_cons,dzi]
   rw[nzx hk hpq l (i+1) n v0 h]
theorem vzy:∀ {tm p q:List PVal},cza tm p=true->cza tm q=true->dz8 p q=some true->p=q
 |[],[],[],_,_,_=>rfl
 |[],_::_,_,h,_,_=>by simp[cza]at h
 |[],_,_::_,_,h,_=>by simp[cza]at h
 |_::_,[],_,h,_,_=>by simp[cza]at h
 |_::_,_,[],_,h,_=>by simp[cza]at h
 |t::tm,a::p,b::q,h1,h2,h=>by
  simp only[cza,Bool.and_eq_true]at h1 h2
  obtain⟨r,hr,_⟩:=Az0 h1.2 h2.2
  cases t<;>cases a<;>simp[Azd]at h1<;>cases b<;>simp[Azd]at h2
  ·simp[dz8,hr]at h
   obtain⟨rfl,rfl⟩:=h
   rw[vzy h1 h2 hr]
  ·obtain⟨rfl,h1⟩:=h1
   obtain⟨rfl,h2⟩:=h2
   simp[dz8,hr]at h
   obtain⟨rfl,rfl⟩:=h
   rw[vzy h1 h2 hr]
theorem oz9 {tm p q:List PVal}(hp:cza tm p=true)(hq:cza tm q=true):(lzc q p=true/\q=p)\/(lzc q p=false/\∀u,fzs p u=true->fzs q u=false):=by
 obtain⟨r,h1,_⟩:=Az0 hq hp
 cases r with
 |true=>exact .inl ⟨by simp[lzc,h1],vzy hq hp h1⟩
 |false=>
  refine .inr ⟨by simp[lzc,h1],fun u hu=>?_⟩
  have:=Izd hq hp hu
  rw[h1]at this
  simpa using this.symm
theorem Kz9 {p:List PVal}{a b:Value}(ha:fzs p a=true)(hb:fzs p b=true):a=b/\Instr.sameBits 10000 a b=true:=by
 cases a<;>simp[fzs]at ha
 cases b<;>simp[fzs]at hb
 rename_i xs ys
 have key:∀ (p:List PVal) (xs ys:List Value),ezh p xs=true->ezh p ys=true->xs=ys/\((xs.zip ys).all fun (x,y)=>Instr.sameBits 9999 x y)=true:=by
  intro p
  induction p with
  |nil=>intro xs ys h1 h2;cases xs<;>cases ys<;>simp_all [ezh]
  |cons c p ih=>
   intro xs ys h1 h2
   cases xs with
   |nil=>simp[ezh]at h1
   |cons x xs=>
    cases ys with
    |nil=>simp[ezh]at h2
    |cons y ys=>
     simp only[ezh,Bool.and_eq_true]at h1 h2
     obtain⟨e1,e2⟩:=ih xs ys h1.2 h2.2
     have hx:=h1.1
     have hy:=h2.1
     have:x=y/\Instr.sameBits 9999 x y=true:=by
      cases c<;>cases x<;>simp[xzn]at hx<;>cases y<;>simp[xzn]at hy
      ·subst hx;subst hy;simp[Instr.sameBits]
      ·obtain⟨rfl,rfl⟩:=hx;obtain⟨rfl,rfl⟩:=hy;simp[Instr.sameBits]
     refine⟨by rw[this.1,e1],?_⟩
     simp only[List.zip_cons_cons,List.all_cons,this.2,Bool.true_and]
     exact e2
 obtain⟨e1,e2⟩:=key p xs.toList ys.toList ha hb
 have e3:xs=ys:=by rw[←Array.toArray_toList (xs:=xs),e1]
 refine⟨by rw[e3],?_⟩
 show(xs.size==ys.size&&(xs.toList.zip ys.toList).all fun (x,y)=>Instr.sameBits 9999 x y)=true
 rw[Bool.and_eq_true]
 exact⟨by rw[e3];simp,e2⟩
theorem Ozv {Mine:Nat->Prop}{M:Mem}{tm:List PVal}{dom:List PVal->Bool}{val:List PVal->PVal}{j:Nat}(hm:MemOk F w ρ Mine M)(h:M.get j=some (.map tm dom val)):
 ∃es clock,w.heap[ρ.blk j]?=some (.map es clock)/\(∀o,¬F (ρ.blk j) o)/\(∀e∈es.toList,∃q,cza tm q=true/\fzs q e.key=true)/\
  (∀p,cza tm p=true->dzi p es.toList=none->dom p=false)/\(∀p v,cza tm p=true->dzi p es.toList=some v->dom p=true/\PRel F w (val p) v):=hm.ok j _ h
theorem Pzw {e:TypeId}{z:PVal}(h:Szk P e=some z):∃v,(zeroValue e).run P w=.ok v w/\PRel F w z v:=by
 unfold Szk at h
 split at h
 ·rename_i i hi
  split at h
  ·rename_i cs hz
   split at h
   ·rename_i ps hps
    cases h
    obtain⟨h1,h2⟩:=gzu hps
    refine⟨.agg cs,by simp[zeroValue,typeInfo,hi,hz],.agg (by simpa using h1.symm) (fun j p v hp hv=>?_)⟩
    obtain⟨a,ha1,ha2⟩:=h2 j p hp
    simp[hv]at ha1
    subst ha1
    exact(eza (F:=F) (w:=w) (ρ:=⟨fun _=>0,fun _=>none⟩) v).toP ha2
   ·cases h
  ·rename_i v _ hz
   exact⟨v,by simp[zeroValue,typeInfo,hi,hz],(eza (F:=F) (w:=w) (ρ:=⟨fun _=>0,fun _=>none⟩) v).toP h⟩
  ·cases h
 ·cases h
theorem Szw {tm cs:List PVal}{ix:AVal}{v:Value}(hx:ix.toP=some (.agg cs))(hr:ARel F w ρ ix v)(ha:cza tm cs=true):fzs cs v=true:=by
 have:=hr.toP hx
 cases this with
 |agg hl h=>exact Cz9 ha (by simpa using hl) (fun j p v hp hv=>h j p v hp (by simpa using hv))
theorem Rzy {t:TypeId}{x ix:Operand}{ok:Bool}{out:Out}(ho:o.op=.lookup t x ix ok)(h:Gzg P t (env x) (env ix) ok m=some out)(hob:holds out.obl):Sound1 P o env m id out:=by
 unfold Gzg at h
 split at h
 ·rename_i k e j hu hx
  split at h
  ·rename_i tm dom val cs hmj hix
   split at h
   ·rename_i ks z hf hz
    split at h
    ·rename_i hc
     simp only[Bool.and_eq_true,decide_eq_true_eq]at hc
     obtain⟨⟨hag,hft⟩,hal⟩:=hc
     cases h
     intro F w ρ Mine M a hm g fr hrd hfe ha
     have hM:=hrd j (by simp)
     obtain⟨es,clock,hb,hF,hkeys,hn,hs⟩:=Ozv hm (hM.trans hmj)
     have hxv:a.eval x=.map (some (ρ.blk j)):=by
      have:=hx▸ha x (by simp[ho,Op.operands])
      generalize a.eval x=v at this
      cases this;rfl
     have hkey:fzs cs (a.eval ix)=true:=Szw hix (ha ix (by simp[ho,Op.operands])) hal
     have hck:∀em,(Instr.checkKey em 10000 k (a.eval ix)).run P w=.ok () w:=fun em=>nzr (F:=fun _ _=>False) em 20 k ks hf 9980 _ cs (oza hag hkey) (nz0 hal hft)
     have hfk:=run_findKey' (w:=w) hf hag hft hal hkey es.toList hkeys
     obtain⟨zv,hzv,hzr⟩:=Pzw (P:=P) (F:=F) (w:=w) hz
     obtain⟨v,b,hv,hdb,hrun⟩:∃v b,PRel F w (val cs) v/\dom cs=b/\(Instr.lookup t (.map (some (ρ.blk j))) (a.eval ix) ok).run P w=.ok (if ok then .tuple #[v,.bool b]else v) w:=by
      cases hp:ezs cs es.toList 0 with
      |none=>
       have hfv:dzi cs es.toList=none:=by rw[←nzw cs _ 0,hp];rfl
       have hd:=hn cs hal hfv
       refine⟨zv,false,(hob hd).rel _ _ _ hzr,hd,?_⟩
       rw[hp]at hfk
       simp[Instr.lookup,run_underlying hu,MapKept.run_getObj_map hb,hck,hfk,hzv]
      |some r=>
       obtain⟨n,v⟩:=r
       have hfv:dzi cs es.toList=some v:=by rw[←nzw cs _ 0,hp];rfl
       obtain⟨hd,hr⟩:=hs cs v hal hfv
       refine⟨v,true,hr,hd,?_⟩
       rw[hp]at hfk
       simp[Instr.lookup,run_underlying hu,MapKept.run_getObj_map hb,hck,hfk]
     refine⟨if ok then .tuple #[v,.bool b]else v,w,F,ρ,.inl (by simp only[execOp,ho,Sem.run_bind,hxv,hrun,Result.andThen_ok,Sem.run_pure]),Step.refl g,fun _ _=>⟨rfl,rfl⟩,?_,hm⟩
     cases ok
     ·exact .pure hv
     ·simp only[if_true]
      refine .tup (by simp) (fun i a' v' h1 h2=>?_)
      match i with
      |0=>simp at h1 h2;subst h1;subst h2;exact .pure hv
      |1=>simp at h1 h2;subst h1;subst h2;rw[hdb];exact .pure .bool
      |n+2=>simp at h1
    ·cases h
   ·cases h
  ·cases h
 ·cases h
theorem Rzg {Mine:Nat->Prop}{M:Mem}{j:Nat}{tm:List PVal}{dom dom':List PVal->Bool}{val val':List PVal->PVal}{es es':Array MapEntry}{clock clock':Nat}(hm:MemOk F w ρ Mine M)(g:Good F w Mine)
 (hM:M.get j=some (.map tm dom val)) (hb:w.heap[ρ.blk j]?=some (.map es clock)) (hF:∀o,¬F (ρ.blk j) o)
 (hk:∀e∈es'.toList,∃q,cza tm q=true/\fzs q e.key=true) (hn:∀p,cza tm p=true->dzi p es'.toList=none->dom' p=false)
 (hs:∀p v,cza tm p=true->dzi p es'.toList=some v->dom' p=true/\PRel F w (val' p) v):
 Step Mine F w F {w with heap:=w.heap.setIfInBounds (ρ.blk j) (.map es' clock')}/\MemOk F {w with heap:=w.heap.setIfInBounds (ρ.blk j) (.map es' clock')} ρ Mine ([(j,.map tm dom' val')]++M):=by
 obtain⟨h1,h2⟩:=MapKept.heap_set (o':=.map es' clock') hb
 have hmine:=hm.mine j _ _ hM (.inl rfl)
 have hcell:∀b o,F b o->({w with heap:=w.heap.setIfInBounds (ρ.blk j) (.map es' clock')}:World).cell? ⟨b,o,none⟩=w.cell? ⟨b,o,none⟩:=by
  intro b o hbo
  have hne:b≠ρ.blk j:=fun e=>hF o (e▸hbo)
  simp only[World.cell?]
  rw[h2 b hne]
 have st:Step Mine F w F {w with heap:=w.heap.setIfInBounds (ρ.blk j) (.map es' clock')}:=by
  refine⟨fun _ _ h=>h,hcell,fun _ _ h=>.inl h,fun b o h=>by simpa using g.lt b o h,⟨rfl,rfl,rfl,by simp,fun k _ hk=>?_⟩⟩
  exact h2 k (fun e=>hk (e▸hmine.1))
 refine⟨st,hm.step st (fun _=>True) (fun _ _=>⟨rfl,rfl⟩) [(j,.map tm dom' val')] (fun i r hi hw=>⟨trivial,fun _ h=>absurd trivial h,fun b hbb=>⟨?_,fun _ h=>h⟩⟩) (fun i r hi=>?_) (fun i i' r r' b hi hi' _ _=>?_)⟩
 ·refine h2 b (fun e=>?_)
  have:=hm.disj i j _ _ b hi hM hbb (by rw[e];exact .inl rfl)
  subst this
  simp[Mem.get]at hw
 ·simp only[Mem.get]at hi
  split at hi
  ·rename_i e;subst e;cases hi
   refine⟨⟨es',clock',h1,hF,hk,hn,fun p v hp hv=>⟨(hs p v hp hv).1,(hs p v hp hv).2.mono (fun _ _ h=>h) hcell⟩⟩,fun b hbb=>?_⟩
   simp only[Owns,hzm,or_false,bzc,Option.some.injEq]at hbb
   subst hbb
   refine⟨hmine.1,by simpa using hmine.2,fun k r' hk' hw' hbk=>?_⟩
   have:=hm.disj k j _ _ _ hk' hM hbk (.inl rfl)
   subst this
   simp[Mem.get]at hw'
  ·cases hi
 ·simp only[Mem.get]at hi hi'
  split at hi
  ·split at hi'
   ·omega
   ·cases hi'
  ·cases hi
theorem Czm {t:TypeId}{x ix y:Operand}{out:Out}(ho:o.op=.mapUpdate t x ix y\/o.op=.insert t x ix y)(h:nzv P t (env x) (env ix) (env y) m=some out):Sound1 P o env m id out:=by
 unfold nzv at h
 split at h
 ·rename_i k e j hu hx
  split at h
  ·rename_i tm dom val cs p hmj hix hy
   split at h
   ·rename_i ks hf
    split at h
    ·rename_i hc
     simp only[Bool.and_eq_true,decide_eq_true_eq]at hc
     obtain⟨⟨hag,hft⟩,hal⟩:=hc
     cases h
     intro F w ρ Mine M a hm g fr hrd hfe ha
     have hM:=hrd j (by simp)
     obtain⟨es,clock,hb,hF,hkeys,hn,hs⟩:=Ozv hm (hM.trans hmj)
     have hopx:x∈o.op.operands/\ix∈o.op.operands/\y∈o.op.operands:=by rcases ho with ho|ho<;>simp[ho,Op.operands]
     have hxv:a.eval x=.map (some (ρ.blk j)):=by
      have:=hx▸ha x hopx.1
      generalize a.eval x=v at this
      cases this;rfl
     have hkey:fzs cs (a.eval ix)=true:=Szw hix (ha ix hopx.2.1) hal
     have hv:=(ha y hopx.2.2).toP hy
     have hck:∀em,(Instr.checkKey em 10000 k (a.eval ix)).run P w=.ok () w:=fun em=>nzr (F:=fun _ _=>False) em 20 k ks hf 9980 _ cs (oza hag hkey) (nz0 hal hft)
     have hfk:=run_findKey' (w:=w) hf hag hft hal hkey es.toList hkeys
     obtain⟨es',clock',hrun,hk',hn',hs'⟩:∃es' clock',(Instr.mapUpdate t (.map (some (ρ.blk j))) (a.eval ix) (a.eval y)).run P w=.ok () {w with heap:=w.heap.setIfInBounds (ρ.blk j) (.map es' clock')}/\
      (∀e∈es'.toList,∃q,cza tm q=true/\fzs q e.key=true)/\(∀q,cza tm q=true->dzi q es'.toList=none->(lzc q cs||dom q)=false)/\
      (∀q v,cza tm q=true->dzi q es'.toList=some v->(lzc q cs||dom q)=true/\PRel F w (if lzc q cs then p else val q) v):=by
      cases hp:ezs cs es.toList 0 with
      |none=>
       have hfv:dzi cs es.toList=none:=by rw[←nzw cs _ 0,hp];rfl
       rw[hp]at hfk
       refine⟨es.push {key:=a.eval ix,val:=a.eval y,born:=clock},clock+1,?_,fun e he=>?_,fun q hq hq'=>?_,fun q v hq hq'=>?_⟩
       ·simp[Instr.mapUpdate,run_underlying hu,MapKept.run_getObj_map hb,hck,hfk,MapKept.run_setObj_map _ hb]
       ·simp only[Array.toList_push,List.mem_append,List.mem_singleton]at he
        rcases he with he|rfl
        ·exact hkeys e he
        ·exact⟨cs,hal,hkey⟩
       ·rw[Array.toList_push,qz2,Option.or_eq_none_iff]at hq'
        rcases oz9 hal hq with⟨h1,rfl⟩|⟨h1,h2⟩
        ·simp[hkey]at hq'
        ·rw[h1,hn q hq hq'.1];rfl
       ·rw[Array.toList_push,qz2]at hq'
        rcases oz9 hal hq with⟨h1,rfl⟩|⟨h1,h2⟩
        ·rw[hfv]at hq'
         simp[hkey]at hq'
         subst hq'
         simp[h1,hv]
        ·rw[h2 _ hkey]at hq'
         simp at hq'
         obtain⟨h3,h4⟩:=hs q v hq hq'
         simp[h1,h3,h4]
      |some r=>
       obtain⟨n,v0⟩:=r
       obtain⟨j',e0,hj',hej,hke,_⟩:=mz2 hp
       rw[Nat.zero_add]at hj';subst hj'
       obtain⟨hee,hsb⟩:=Kz9 hke hkey
       rw[hp]at hfk
       have hp':ezs cs es.toList 0=some (0+n,v0):=by rw[Nat.zero_add];exact hp
       have hes:es[n]?=some e0:=by simpa using hej
       have hkts:(Instr.keyThatStays e0.key (a.eval ix)).run P w=.ok (a.eval ix) w:=by
        unfold Instr.keyThatStays
        rw[hsb];rfl
       refine⟨es.modify n (fun e=>{e with key:=a.eval ix,val:=a.eval y}),clock,?_,fun e he=>?_,fun q hq hq'=>?_,fun q v hq hq'=>?_⟩
       ·simp[Instr.mapUpdate,run_underlying hu,MapKept.run_getObj_map hb,hck,hfk,hes,hkts,MapKept.run_setObj_map _ hb]
       ·rw[Array.toList_modify]at he
        obtain⟨i,hi⟩:=List.mem_iff_getElem?.1 he
        rw[List.getElem?_modify]at hi
        split at hi
        ·simp only[Option.map_eq_map,Option.map_eq_some_iff]at hi
         obtain⟨e1,_,rfl⟩:=hi
         exact⟨cs,hal,hkey⟩
        ·simp at hi
         exact hkeys e (List.mem_iff_getElem?.2 ⟨i,by simpa using hi⟩)
       ·rw[Array.toList_modify]at hq'
        rcases oz9 hal hq with⟨h1,rfl⟩|⟨h1,h2⟩
        ·rw[qz3 hkey _ 0 n v0 hp']at hq';cases hq'
        ·rw[nzx hkey h2 _ 0 n v0 hp']at hq'
         rw[h1,hn q hq hq'];rfl
       ·rw[Array.toList_modify]at hq'
        rcases oz9 hal hq with⟨h1,rfl⟩|⟨h1,h2⟩
        ·rw[qz3 hkey _ 0 n v0 hp']at hq'
         cases hq'
         simp[h1,hv]
        ·rw[nzx hkey h2 _ 0 n v0 hp']at hq'
         obtain⟨h3,h4⟩:=hs q v hq hq'
         simp[h1,h3,h4]
     obtain⟨st,hm'⟩:=Rzg (clock':=clock') hm g (hM.trans hmj) hb hF hk' hn' hs'
     refine⟨undef,_,F,ρ,.inr ⟨?_,rfl⟩,st,fun _ _=>⟨rfl,rfl⟩,.any,hm'⟩
     rcases ho with ho|ho<;>simp only[execOp,ho,Sem.run_bind,hxv,hrun,Result.andThen_ok,Sem.run_pure]
    ·cases h
   ·cases h
  ·cases h
 ·cases h
theorem Pzn {t:TypeId}{out:Out}(ho:o.op=.makeMap t none)(h:Bz7 P t id=some out):Sound1 P o env m id out:=by
 unfold Bz7 at h
 split at h
 ·rename_i k e hu
  split at h
  ·rename_i tm z htm hz
   cases h
   intro F w ρ Mine M a hm g fr _ hfe ha
   have st:Step Mine F w F (w.alloc (.map #[] 0)):=by
    have s:=Step.alloc g (.map #[] 0) (fun _=>False)
    exact⟨fun _ _ h=>h,s.cell,fun _ _ h=>.inl h,fun b o h=>by have:=g.lt b o h;simp;omega,s.keep⟩
   let ρ':=ρ.setBlk id w.heap.size
   have hb:ρ'.blk id=w.heap.size:=if_pos rfl
   have he:czm id ρ ρ':=fun i hi=>⟨if_neg (fun h=>hi ⟨by omega,by omega⟩),rfl⟩
   refine⟨.map (some w.heap.size),w.alloc (.map #[] 0),F,ρ',.inl ?_,st,he,?_,?_⟩
   ·simp[execOp,ho,Instr.makeMap]
   ·rw[←hb];exact .map
   ·refine hm.step st (fun i=>¬Own id i) he [(id,.map tm (fun _=>false) (fun _=>z))] (fun j r hj _=>⟨fun ho=>?_,fun i hi=>fr.has i j r (Classical.not_not.1 hi) hj,fun b hbb=>⟨heap_alloc_old w _ (hm.mine j r b hj hbb).2,fun _ h=>h⟩⟩) (fun j r hj=>?_) (fun j j' r r' b hj hj' _ _=>?_)
    ·have:=fr.none j ho;rw[hj]at this;cases this
    ·simp only[Mem.get]at hj
     split at hj
     ·rename_i e;subst e;cases hj
      refine⟨⟨#[],0,by rw[hb];exact heap_alloc_new w _,fun o ho=>by rw[hb]at ho;exact absurd (g.lt _ _ ho) (by omega),by simp,fun _ _ _=>rfl,fun p v _ h=>by simp[dzi]at h⟩,fun b hbb=>?_⟩
      simp only[Owns,hzm,or_false,bzc,hb,Option.some.injEq]at hbb
      subst hbb
      exact⟨g.mine _ (Nat.le_refl _),by simp,fun q r' hq _ hbq=>absurd (hm.mine q r' _ hq hbq).2 (by omega)⟩
     ·cases hj
    ·simp only[Mem.get]at hj hj'
     split at hj
     ·split at hj'
      ·omega
      ·cases hj'
     ·cases hj
  ·cases h
 ·cases h
end Go.Abs
