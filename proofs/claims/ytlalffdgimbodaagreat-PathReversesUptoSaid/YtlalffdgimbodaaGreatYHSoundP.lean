/-
  SoundP (a part of a claim: our own text).
-/
import Derived.Test.YtlalffdgimbodaaGreatYHSoundJ
import Derived.MapKept
namespace Go.Abs
variable {P:Program} {o:Oper} {env:Operand->AVal} {m:Mem} {id:Nat} {F:Cells} {w:World} {ρ:Env}
theorem Uz9 {p:PVal}{v:Value}(h:Fz0 p v=true):PRel F w p v:=by
 cases p<;>cases v<;>simp[Fz0]at h
 ·subst h;exact .bool
 ·obtain⟨rfl,rfl⟩:=h;exact .int
theorem Hzb:∀ {ps:List PVal} {vs:List Value},fz8 ps vs=true->ps.length=vs.length/\∀ (j:Nat) (p:PVal) (v:Value),ps[j]?=some p->vs[j]?=some v->PRel F w p v
 |[],[],_=>⟨rfl,by simp⟩
 |[],_::_,h=>by simp[fz8]at h
 |_::_,[],h=>by simp[fz8]at h
 |p::ps,v::vs,h=>by
  simp only[fz8,Bool.and_eq_true]at h
  obtain⟨h1,h2⟩:=Hzb h.2
  refine⟨by simp[h1],fun j q u hq hu=>?_⟩
  cases j with
  |zero=>simp at hq hu;subst hq;subst hu;exact Uz9 h.1
  |succ j=>exact h2 j q u (by simpa using hq) (by simpa using hu)
theorem Izo:∀ {tm ps:List PVal} {vs:List Value},cz8 tm ps=true->ps.length=vs.length->(∀ (j:Nat) (p:PVal) (v:Value),ps[j]?=some p->vs[j]?=some v->PRel F w p v)->fz8 ps vs=true
 |[],[],[],_,_,_=>rfl
 |[],[],_::_,_,h,_=>by simp at h
 |[],_::_,_,h,_,_=>by simp[cz8]at h
 |_::_,[],_,h,_,_=>by simp[cz8]at h
 |_::_,_::_,[],_,h,_=>by simp at h
 |t::tm,p::ps,v::vs,h,hl,hr=>by
  simp only[cz8,Bool.and_eq_true]at h
  have h0:=hr 0 p v (by simp) (by simp)
  have ih:=Izo h.2 (by simpa using hl) (fun j q u hq hu=>hr (j+1) q u (by simpa using hq) (by simpa using hu))
  simp only[fz8,ih,Bool.and_true]
  cases h0<;>cases t<;>simp[Hz2]at h<;>simp[Fz0]
theorem Gzl:∀ {tm p q:List PVal},cz8 tm p=true->cz8 tm q=true->∃r,dz9 p q=some r/\∀l,fz8 q l=true->fz8 p l=r
 |[],[],[],_,_=>⟨true,rfl,fun l h=>by cases l<;>simp_all [fz8]⟩
 |[],_::_,_,h,_=>by simp[cz8]at h
 |[],_,_::_,_,h=>by simp[cz8]at h
 |_::_,[],_,h,_=>by simp[cz8]at h
 |_::_,_,[],_,h=>by simp[cz8]at h
 |t::tm,a::p,b::q,h1,h2=>by
  simp only[cz8,Bool.and_eq_true]at h1 h2
  obtain⟨r,hr,hl⟩:=Gzl h1.2 h2.2
  cases t<;>cases a<;>simp[Hz2]at h1<;>cases b<;>simp[Hz2]at h2
  ·rename_i x y
   refine⟨(x==y)&&r,by simp[dz9,hr],fun l hh=>?_⟩
   cases l with
   |nil=>simp[fz8]at hh
   |cons v l=>
    simp only[fz8,Bool.and_eq_true]at hh⊢
    rw[hl l hh.2]
    cases v<;>simp[Fz0]at hh⊢
    rw[hh.1]
  ·rename_i k1 n1 k2 n2 k3 n3
   obtain⟨rfl,h1⟩:=h1
   obtain⟨rfl,h2⟩:=h2
   refine⟨(n2==n3)&&r,by simp[dz9,hr],fun l hh=>?_⟩
   cases l with
   |nil=>simp[fz8]at hh
   |cons v l=>
    simp only[fz8,Bool.and_eq_true]at hh⊢
    rw[hl l hh.2]
    cases v<;>simp[Fz0]at hh⊢
    obtain⟨⟨rfl,rfl⟩,_⟩:=hh
    simp
theorem Nzv {tm p q:List PVal}(hp:cz8 tm p=true)(hq:cz8 tm q=true){v:Value}(hv:hz5 q v=true):dz9 p q=some (hz5 p v):=by
 obtain⟨r,h1,h2⟩:=Gzl hp hq
 cases v<;>simp[hz5]at hv
 rw[h1,hz5,h2 _ hv]
theorem szl:∀ {ks:List Nat} {tm ps:List PVal},cz8 tm ps=true->fits ks tm=true->fits ks ps=true
 |[],[],[],_,_=>rfl
 |_,[],_::_,h,_=>by simp[cz8]at h
 |_,_::_,[],h,_=>by simp[cz8]at h
 |[],_::_,_::_,_,h=>by simp[fits]at h
 |_::_,[],[],_,h=>by simp[fits]at h
 |k::ks,t::tm,p::ps,h,h'=>by
  simp only[cz8,fits,Bool.and_eq_true]at h h'⊢
  refine⟨?_,szl h.2 h'.2⟩
  have h1:=h.1
  have h2:=h'.1
  cases t<;>cases p<;>simp[Hz2]at h1<;>revert h2<;>unfold Fz6<;>split<;>simp_all
theorem Hzd {e:TypeId}{D:Nat}{em:Bool}{ks:List Nat}(ha:Hz0 P e ks)(hs:bzu P e=some ks.length)
 (ih:∀x ps,IsCells P F w e x ps->fits ks ps=true->(Instr.checkKey em D e x).run P w=.ok () w) {xs:Array Value} {ps:List PVal} (hl:ps.length=xs.size)
 (hx:∀ (j:Nat) (p:PVal) (v:Value),ps[j]?=some p->xs[j]?=some v->PRel F w p v) {off:Nat} {ks':List Nat} (h1:fits (ks++ks') (ps.drop off)=true):
 ∃x,(part e xs off).run P w=.ok x w/\(Instr.checkKey em D e x).run P w=.ok () w/\fits ks' (ps.drop (off+ks.length))=true:=by
 obtain⟨f1,f2,f3⟩:=tzx h1
 rw[List.drop_drop]at f2
 simp only[List.length_drop]at f3
 by_cases hle:off+ks.length≤ps.length
 ·obtain⟨x,px,cx⟩:=IsCells.part (P:=P) (F:=F) (w:=w) off hs hl hx (by omega) ha
  exact⟨x,px,ih x _ cx f1,f2⟩
 ·rcases ha with ha|⟨ha,h1⟩
  ·have hk0:ks.length=0:=by omega
   refine⟨_,nzw (.inl ⟨ha,ks.length,hs,rfl⟩),ih _ [] (.inl ⟨ha,_,rfl,by simp;omega,by simp⟩) ?_,f2⟩
   rw[hk0]at f1
   simpa using f1
  ·omega
theorem tzn (em:Bool):∀ (d:Nat) (t:TypeId) (ks:List Nat),pzi P d t=some ks->∀ (D:Nat) (x:Value) (ps:List PVal),IsCells P F w t x ps->fits ks ps=true->
 (Instr.checkKey em (D+d) t x).run P w=.ok () w
 |0,_,_,h,_,_,_,_,_=>by simp[pzi]at h
 |d+1,t,ks,h,D,x,ps,hx,hf=>by
  rw[show D+(d+1)=(D+d)+1 from rfl]
  have hsc:ez0 P t=some false->∃p,ps=[p]/\PRel F w p x:=by
   intro ha
   rcases hx with⟨h1,_⟩|⟨_,h1⟩
   ·rw[ha]at h1;cases h1
   ·exact h1
  have hag:ez0 P t=some true->∃vs:Array Value,x=.agg vs/\ps.length=vs.size/\∀ (j:Nat) (p:PVal) (v:Value),ps[j]?=some p->vs[j]?=some v->PRel F w p v:=by
   intro ha
   rcases hx with⟨_,h1⟩|⟨h1,_⟩
   ·exact h1
   ·rw[ha]at h1;cases h1
  simp only[pzi]at h
  split at h<;>rename_i hu
  ·simp[Instr.checkKey,run_underlying hu]
  ·simp[Instr.checkKey,run_underlying hu]
  ·simp[Instr.checkKey,run_underlying hu]
  ·rename_i n e
   split at h
   ·rename_i k1 he
    split at h
    ·rename_i hs
     simp only[Bool.and_eq_true,decide_eq_true_eq,Bool.not_eq_true']at hs
     simp at h;subst h
     obtain⟨xs,rfl,hl,hx'⟩:=hag (by simp[ez0,hu])
     rw[Instr.checkKey]
     simp only[Sem.run_bind,run_underlying hu,Result.andThen_ok]
     simp only[Std.Legacy.Range.forIn_eq_forIn_range',Std.Legacy.Range.size,Nat.sub_zero,Nat.add_one_sub_one,Nat.div_one]
     have key:∀ (k i:Nat),fits (List.replicate k k1).flatten (ps.drop (i * k1.length))=true->
      (forIn (List.range' i k) PUnit.unit fun i _=>(do
       let a←sizeOf e
       let b←part e xs (i * a)
       Instr.checkKey em (D+d) e b
       pure (ForInStep.yield PUnit.unit):Sem (ForInStep PUnit))).run P w=.ok PUnit.unit w:=by
      intro k
      induction k with
      |zero=>intro i _;simp
      |succ k ih=>
       intro i hfi
       rw[List.replicate_succ,List.flatten_cons]at hfi
       obtain⟨y,p1,p2,p3⟩:=Hzd (em:=em) (D:=D+d) (Gzs he) hs.1 (fun x ps h1 h2=>tzn em d e k1 he D x ps h1 h2) hl hx' hfi
       rw[show i * k1.length+k1.length=(i+1) * k1.length by rw[Nat.add_mul];omega]at p3
       rw[List.range'_succ]
       simp only[List.forIn_cons,Sem.run_bind,czy hs.1,Result.andThen_ok,p1,p2,Sem.run_pure]
       exact ih (i+1) p3
     have:=key n 0 (by simpa using hf)
     simp at this
     simp[this]
    ·cases h
   ·cases h
  ·rename_i fs
   split at h
   ·cases h
   ·obtain⟨xs,rfl,hl,hx'⟩:=hag (by simp[ez0,hu])
    rw[Instr.checkKey]
    simp only[Sem.run_bind,run_underlying hu,Result.andThen_ok]
    rw[←Array.forIn_toList]
    have key:∀ (l:List Field) (off:Nat) (ks:List Nat),Bzs P (pzi P d) l off=some ks->fits ks (ps.drop off)=true->
     (forIn l PUnit.unit fun f _=>(if f.name≠ "_" then(do
      let b←part f.type xs f.offset
      Instr.checkKey em (D+d) f.type b
      pure (ForInStep.yield PUnit.unit))else pure (ForInStep.yield PUnit.unit):Sem (ForInStep PUnit))).run P w=.ok PUnit.unit w:=by
     intro l
     induction l with
     |nil=>intro off ks _ _;simp
     |cons f l ih=>
      intro off ks hfl hfi
      simp only[Bzs]at hfl
      split at hfl
      ·rename_i hc
       simp only[Bool.and_eq_true,decide_eq_true_eq,bne_iff_ne,ne_eq]at hc
       obtain⟨rfl,hname⟩:=hc
       split at hfl
       ·rename_i k1 h1
        split at hfl
        ·rename_i hs
         simp only[Bool.and_eq_true,decide_eq_true_eq,Bool.not_eq_true']at hs
         split at hfl
         ·rename_i k2 h2
          simp at hfl;subst hfl
          obtain⟨y,p1,p2,p3⟩:=Hzd (em:=em) (D:=D+d) (Gzs h1) hs.1 (fun x ps q1 q2=>tzn em d f.type k1 h1 D x ps q1 q2) hl hx' hfi
          simp only[List.forIn_cons,ne_eq,hname,not_false_eq_true,if_true,Sem.run_bind,p1,p2,Result.andThen_ok,Sem.run_pure]
          exact ih _ _ h2 p3
         ·cases hfl
        ·cases hfl
       ·cases hfl
      ·cases hfl
    have:=key fs.toList 0 ks h (by simpa using hf)
    simp at this
    simp[this]
  ·cases h
theorem tzv (p:List PVal):∀ (l:List MapEntry) (i:Nat),(fzn p l i).map (·.2)=dzu p l
 |[],_=>rfl
 |e::l,i=>by
  simp only[fzn,dzu]
  split
  ·rfl
  ·exact tzv p l (i+1)
theorem pzq {p:List PVal}:∀ {l:List MapEntry} {i n:Nat} {v:Value},fzn p l i=some (n,v)->∃j e,n=i+j/\l[j]?=some e/\hz5 p e.key=true/\e.val=v
 |[],i,n,v,h=>by simp[fzn]at h
 |e::l,i,n,v,h=>by
  simp only[fzn]at h
  split at h
  ·rename_i hk
   simp at h
   exact⟨0,e,by omega,by simp,hk,h.2⟩
  ·obtain⟨j,e',h1,h2,h3,h4⟩:=pzq h
   exact⟨j+1,e',by omega,by simpa using h2,h3,h4⟩
theorem uz5 {t:TypeId}(ht:ez0 P t=some true){q:List PVal}{v:Value}(h:hz5 q v=true):IsCells P F w t v q:=by
 cases v<;>simp[hz5]at h
 rename_i vs
 obtain⟨h1,h2⟩:=Hzb (F:=F) (w:=w) h
 exact .inl ⟨ht,vs,rfl,by simpa using h1,fun j p v hp hv=>h2 j p v hp (by simpa using hv)⟩
theorem Tzv {k:TypeId}{ks:List Nat}{tm cs:List PVal}{key:Value}(hf:pzi P 20 k=some ks)(ht:ez0 P k=some true)(htm:fits ks tm=true)(hcs:cz8 tm cs=true)(hkey:hz5 cs key=true):
 ∀ (l:List MapEntry) (i:Nat),(∀e∈l,∃q,cz8 tm q=true/\hz5 q e.key=true)->(Instr.findAsking k key l i).run P w=.ok (fzn cs l i) w
 |[],i,_=>by simp[Instr.findAsking,fzn]
 |e::l,i,hl=>by
  obtain⟨q,h1,h2⟩:=hl e (by simp)
  have he:=Gzo (P:=P) (F:=fun _ _=>False) (w:=w) 20 k ks hf 9980 key e.key cs q (hz5 cs e.key) (uz5 ht hkey) (uz5 ht h2) (szl hcs htm) (szl h1 htm) (Nzv hcs h1 h2)
  have he':(Op.equal k key e.key).run P w=.ok (hz5 cs e.key) w:=he
  simp only[Instr.findAsking,fzn,Sem.run_bind,he',Result.andThen_ok]
  cases hk:hz5 cs e.key with
  |true=>simp
  |false=>
   simp only[Bool.false_eq_true,if_false]
   exact Tzv hf ht htm hcs hkey l (i+1) (fun e he=>hl e (by simp[he]))
theorem run_findKey' {k:TypeId}{ks:List Nat}{tm cs:List PVal}{key:Value}(hf:pzi P 20 k=some ks)(ht:ez0 P k=some true)(htm:fits ks tm=true)(hcs:cz8 tm cs=true)(hkey:hz5 cs key=true)
 (l:List MapEntry) (hl:∀e∈l,∃q,cz8 tm q=true/\hz5 q e.key=true):(Instr.findKey k key l).run P w=.ok (fzn cs l 0) w:=by
 obtain⟨d,hd⟩:∃d,P.underlying k=some d:=by
  cases hu:P.underlying k with
  |none=>simp[ez0,hu]at ht
  |some d=>exact⟨d,rfl⟩
 simp only[Instr.findKey,Sem.run_bind,run_underlying hd,Result.andThen_ok]
 have hagg:∃vs,key=.agg vs:=by cases key<;>simp[hz5]at hkey;exact⟨_,rfl⟩
 obtain⟨vs,rfl⟩:=hagg
 cases l with
 |nil=>simp[Instr.findNow,fzn]
 |cons e l=>
  have hs:Instr.sameNow d (.agg vs) e.key=none:=by cases d<;>rfl
  simp only[Instr.findNow,hs]
  exact Tzv hf ht htm hcs hkey (e::l) 0 hl
theorem wzq (p:List PVal)(e:MapEntry):∀ (l:List MapEntry),dzu p (l++[e])=(dzu p l).or (if hz5 p e.key then some e.val else none)
 |[]=>by simp[dzu]
 |x::l=>by
  simp only[List.cons_append,dzu]
  split
  ·rfl
  ·exact wzq p e l
theorem wzr {p:List PVal}{key v:Value}(hk:hz5 p key=true):∀ (l:List MapEntry) (i n:Nat) (v0:Value),fzn p l i=some (i+n,v0)->
 dzu p (l.modify n (fun e=>{e with key:=key,val:=v}))=some v
 |[],i,n,v0,h=>by simp[fzn]at h
 |e::l,i,n,v0,h=>by
  simp only[fzn]at h
  split at h
  ·simp at h
   obtain⟨rfl,_⟩:=h
   simp[dzu,hk]
  ·rename_i hk'
   obtain⟨j,e',hj,_⟩:=pzq h
   obtain⟨n,rfl⟩:∃n',n=n'+1:=⟨n-1,by omega⟩
   rw[show i+(n+1)=i+1+n by omega]at h
   simp only[List.modify_succ_cons,dzu,hk',Bool.false_eq_true,if_false]
   exact wzr hk l (i+1) n v0 h
theorem tzw {p q:List PVal}{key v:Value}(hk:hz5 p key=true)(hpq:∀u,hz5 p u=true->hz5 q u=false):∀ (l:List MapEntry) (i n:Nat) (v0:Value),fzn p l i=some (i+n,v0)->
 dzu q (l.modify n (fun e=>{e with key:=key,val:=v}))=dzu q l
 |[],i,n,v0,h=>by simp[fzn]at h
 |e::l,i,n,v0,h=>by
  simp only[fzn]at h
  split at h
  ·rename_i hk'
   simp at h
   obtain⟨rfl,_⟩:=h
   simp[dzu,hpq _ hk,hpq _ hk']
  ·obtain⟨j,e',hj,_⟩:=pzq h
   obtain⟨n,rfl⟩:∃n',n=n'+1:=⟨n-1,by omega⟩
   rw[show i+(n+1)=i+1+n by omega]at h
   simp only[List.modify_succ_cons,dzu]
   rw[tzw hk hpq l (i+1) n v0 h]
theorem Dzo:∀ {tm p q:List PVal},cz8 tm p=true->cz8 tm q=true->dz9 p q=some true->p=q
 |[],[],[],_,_,_=>rfl
 |[],_::_,_,h,_,_=>by simp[cz8]at h
 |[],_,_::_,_,h,_=>by simp[cz8]at h
 |_::_,[],_,h,_,_=>by simp[cz8]at h
 |_::_,_,[],_,h,_=>by simp[cz8]at h
 |t::tm,a::p,b::q,h1,h2,h=>by
  simp only[cz8,Bool.and_eq_true]at h1 h2
  obtain⟨r,hr,_⟩:=Gzl h1.2 h2.2
  cases t<;>cases a<;>simp[Hz2]at h1<;>cases b<;>simp[Hz2]at h2
  ·simp[dz9,hr]at h
   obtain⟨rfl,rfl⟩:=h
   rw[Dzo h1 h2 hr]
  ·obtain⟨rfl,h1⟩:=h1
   obtain⟨rfl,h2⟩:=h2
   simp[dz9,hr]at h
   obtain⟨rfl,rfl⟩:=h
   rw[Dzo h1 h2 hr]
theorem uz4 {tm p q:List PVal}(hp:cz8 tm p=true)(hq:cz8 tm q=true):(xz1 q p=true/\q=p)\/(xz1 q p=false/\∀u,hz5 p u=true->hz5 q u=false):=by
 obtain⟨r,h1,_⟩:=Gzl hq hp
 cases r with
 |true=>exact .inl ⟨by simp[xz1,h1],Dzo hq hp h1⟩
 |false=>
  refine .inr ⟨by simp[xz1,h1],fun u hu=>?_⟩
  have:=Nzv hq hp hu
  rw[h1]at this
  simpa using this.symm
theorem Qzd {p:List PVal}{a b:Value}(ha:hz5 p a=true)(hb:hz5 p b=true):a=b/\Instr.sameBits 10000 a b=true:=by
 cases a<;>simp[hz5]at ha
 cases b<;>simp[hz5]at hb
 rename_i xs ys
 have key:∀ (p:List PVal) (xs ys:List Value),fz8 p xs=true->fz8 p ys=true->xs=ys/\((xs.zip ys).all fun (x,y)=>Instr.sameBits 9999 x y)=true:=by
  intro p
  induction p with
  |nil=>intro xs ys h1 h2;cases xs<;>cases ys<;>simp_all [fz8]
  |cons c p ih=>
   intro xs ys h1 h2
   cases xs with
   |nil=>simp[fz8]at h1
   |cons x xs=>
    cases ys with
    |nil=>simp[fz8]at h2
    |cons y ys=>
     simp only[fz8,Bool.and_eq_true]at h1 h2
     obtain⟨e1,e2⟩:=ih xs ys h1.2 h2.2
     have hx:=h1.1
     have hy:=h2.1
     have:x=y/\Instr.sameBits 9999 x y=true:=by
      cases c<;>cases x<;>simp[Fz0]at hx<;>cases y<;>simp[Fz0]at hy
      ·subst hx;subst hy;simp[Instr.sameBits]
      ·obtain⟨rfl,rfl⟩:=hx;obtain⟨rfl,rfl⟩:=hy;simp[Instr.sameBits]
     refine⟨by rw[this.1,e1],?_⟩
     simp only[List.zip_cons_cons,List.all_cons,this.2,Bool.true_and]
     exact e2
 obtain⟨e1,e2⟩:=key p xs.toList ys.toList ha hb
 have e3:xs=ys:=by rw[←Array.toArray_toList (xs:=xs),e1]
 refine⟨by rw[e3],?_⟩
 show(xs.size==ys.size&&(xs.toList.zip ys.toList).all fun (x,y)=>Instr.sameBits 9999 x y)=true
 rw[Bool.and_eq_true]
 exact⟨by rw[e3];simp,e2⟩
theorem Xz9 {Mine:Nat->Prop}{M:Mem}{tm:List PVal}{dom:List PVal->Bool}{val:List PVal->PVal}{j:Nat}(hm:MemOk F w ρ Mine M)(h:M.get j=some (.map tm dom val)):
 ∃es clock,w.heap[ρ.blk j]?=some (.map es clock)/\(∀o,¬F (ρ.blk j) o)/\(∀e∈es.toList,∃q,cz8 tm q=true/\hz5 q e.key=true)/\
  (∀p,cz8 tm p=true->dzu p es.toList=none->dom p=false)/\(∀p v,cz8 tm p=true->dzu p es.toList=some v->dom p=true/\PRel F w (val p) v):=hm.ok j _ h
theorem Zz8 {e:TypeId}{z:PVal}(h:az1n P e=some z):∃v,(zeroValue e).run P w=.ok v w/\PRel F w z v:=by
 unfold az1n at h
 split at h
 ·rename_i i hi
  split at h
  ·rename_i cs hz
   split at h
   ·rename_i ps hps
    cases h
    obtain⟨h1,h2⟩:=lzq hps
    refine⟨.agg cs,by simp[zeroValue,typeInfo,hi,hz],.agg (by simpa using h1.symm) (fun j p v hp hv=>?_)⟩
    obtain⟨a,ha1,ha2⟩:=h2 j p hp
    simp[hv]at ha1
    subst ha1
    exact(gz3 (F:=F) (w:=w) (ρ:=⟨fun _=>0,fun _=>none⟩) v).toP ha2
   ·cases h
  ·rename_i v _ hz
   exact⟨v,by simp[zeroValue,typeInfo,hi,hz],(gz3 (F:=F) (w:=w) (ρ:=⟨fun _=>0,fun _=>none⟩) v).toP h⟩
  ·cases h
 ·cases h
theorem az1y {tm cs:List PVal}{ix:AVal}{v:Value}(hx:ix.toP=some (.agg cs))(hr:ARel F w ρ ix v)(ha:cz8 tm cs=true):hz5 cs v=true:=by
 have:=hr.toP hx
 cases this with
 |agg hl h=>exact Izo ha (by simpa using hl) (fun j p v hp hv=>h j p v hp (by simpa using hv))
theorem az0z {t:TypeId}{x ix:Operand}{ok:Bool}{out:Out}(ho:o.op=.lookup t x ix ok)(h:Lzz P t (env x) (env ix) ok m=some out)(hob:holds out.obl):Sound1 P o env m id out:=by
 unfold Lzz at h
 split at h
 ·rename_i k e j hu hx
  split at h
  ·rename_i tm dom val cs hmj hix
   split at h
   ·rename_i ks z hf hz
    split at h
    ·rename_i hc
     simp only[Bool.and_eq_true,decide_eq_true_eq]at hc
     obtain⟨⟨hag,hft⟩,hal⟩:=hc
     cases h
     intro F w ρ Mine M a hm g fr hrd hfe ha
     have hM:=hrd j (by simp)
     obtain⟨es,clock,hb,hF,hkeys,hn,hs⟩:=Xz9 hm (hM.trans hmj)
     have hxv:a.eval x=.map (some (ρ.blk j)):=by
      have:=hx▸ha x (by simp[ho,Op.operands])
      generalize a.eval x=v at this
      cases this;rfl
     have hkey:hz5 cs (a.eval ix)=true:=az1y hix (ha ix (by simp[ho,Op.operands])) hal
     have hck:∀em,(Instr.checkKey em 10000 k (a.eval ix)).run P w=.ok () w:=fun em=>tzn (F:=fun _ _=>False) em 20 k ks hf 9980 _ cs (uz5 hag hkey) (szl hal hft)
     have hfk:=run_findKey' (w:=w) hf hag hft hal hkey es.toList hkeys
     obtain⟨zv,hzv,hzr⟩:=Zz8 (P:=P) (F:=F) (w:=w) hz
     obtain⟨v,b,hv,hdb,hrun⟩:∃v b,PRel F w (val cs) v/\dom cs=b/\(Instr.lookup t (.map (some (ρ.blk j))) (a.eval ix) ok).run P w=.ok (if ok then .tuple #[v,.bool b]else v) w:=by
      cases hp:fzn cs es.toList 0 with
      |none=>
       have hfv:dzu cs es.toList=none:=by rw[←tzv cs _ 0,hp];rfl
       have hd:=hn cs hal hfv
       refine⟨zv,false,by rw[hob hd];exact hzr,hd,?_⟩
       rw[hp]at hfk
       simp[Instr.lookup,run_underlying hu,MapKept.run_getObj_map hb,hck,hfk,hzv]
      |some r=>
       obtain⟨n,v⟩:=r
       have hfv:dzu cs es.toList=some v:=by rw[←tzv cs _ 0,hp];rfl
       obtain⟨hd,hr⟩:=hs cs v hal hfv
       refine⟨v,true,hr,hd,?_⟩
       rw[hp]at hfk
       simp[Instr.lookup,run_underlying hu,MapKept.run_getObj_map hb,hck,hfk]
     refine⟨if ok then .tuple #[v,.bool b]else v,w,F,ρ,.inl (by simp only[execOp,ho,Sem.run_bind,hxv,hrun,Result.andThen_ok,Sem.run_pure]),Step.refl g,fun _ _=>⟨rfl,rfl⟩,?_,hm⟩
     cases ok
     ·exact .pure hv
     ·simp only[if_true]
      refine .tup (by simp) (fun i a' v' h1 h2=>?_)
      match i with
      |0=>simp at h1 h2;subst h1;subst h2;exact .pure hv
      |1=>simp at h1 h2;subst h1;subst h2;rw[hdb];exact .pure .bool
      |n+2=>simp at h1
    ·cases h
   ·cases h
  ·cases h
 ·cases h
theorem az0g {Mine:Nat->Prop}{M:Mem}{j:Nat}{tm:List PVal}{dom dom':List PVal->Bool}{val val':List PVal->PVal}{es es':Array MapEntry}{clock clock':Nat}(hm:MemOk F w ρ Mine M)(g:Good F w Mine)
 (hM:M.get j=some (.map tm dom val)) (hb:w.heap[ρ.blk j]?=some (.map es clock)) (hF:∀o,¬F (ρ.blk j) o)
 (hk:∀e∈es'.toList,∃q,cz8 tm q=true/\hz5 q e.key=true) (hn:∀p,cz8 tm p=true->dzu p es'.toList=none->dom' p=false)
 (hs:∀p v,cz8 tm p=true->dzu p es'.toList=some v->dom' p=true/\PRel F w (val' p) v):
 Step Mine F w F {w with heap:=w.heap.setIfInBounds (ρ.blk j) (.map es' clock')}/\MemOk F {w with heap:=w.heap.setIfInBounds (ρ.blk j) (.map es' clock')} ρ Mine ([(j,.map tm dom' val')]++M):=by
 obtain⟨h1,h2⟩:=MapKept.heap_set (o':=.map es' clock') hb
 have hmine:=hm.mine j _ _ hM (.inl rfl)
 have hcell:∀b o,F b o->({w with heap:=w.heap.setIfInBounds (ρ.blk j) (.map es' clock')}:World).cell? ⟨b,o,none⟩=w.cell? ⟨b,o,none⟩:=by
  intro b o hbo
  have hne:b≠ρ.blk j:=fun e=>hF o (e▸hbo)
  simp only[World.cell?]
  rw[h2 b hne]
 have st:Step Mine F w F {w with heap:=w.heap.setIfInBounds (ρ.blk j) (.map es' clock')}:=by
  refine⟨fun _ _ h=>h,hcell,fun _ _ h=>.inl h,fun b o h=>by simpa using g.lt b o h,⟨rfl,rfl,rfl,by simp,fun k _ hk=>?_⟩⟩
  exact h2 k (fun e=>hk (e▸hmine.1))
 refine⟨st,hm.step st (fun _=>True) (fun _ _=>⟨rfl,rfl⟩) [(j,.map tm dom' val')] (fun i r hi hw=>⟨trivial,fun _ h=>absurd trivial h,fun b hbb=>⟨?_,fun _ h=>h⟩⟩) (fun i r hi=>?_) (fun i i' r r' b hi hi' _ _=>?_)⟩
 ·refine h2 b (fun e=>?_)
  have:=hm.disj i j _ _ b hi hM hbb (by rw[e];exact .inl rfl)
  subst this
  simp[Mem.get]at hw
 ·simp only[Mem.get]at hi
  split at hi
  ·rename_i e;subst e;cases hi
   refine⟨⟨es',clock',h1,hF,hk,hn,fun p v hp hv=>⟨(hs p v hp hv).1,(hs p v hp hv).2.mono (fun _ _ h=>h) hcell⟩⟩,fun b hbb=>?_⟩
   simp only[Owns,nzi,or_false,bzb,Option.some.injEq]at hbb
   subst hbb
   refine⟨hmine.1,by simpa using hmine.2,fun k r' hk' hw' hbk=>?_⟩
   have:=hm.disj k j _ _ _ hk' hM hbk (.inl rfl)
   subst this
   simp[Mem.get]at hw'
  ·cases hi
 ·simp only[Mem.get]at hi hi'
  split at hi
  ·split at hi'
   ·omega
   ·cases hi'
  ·cases hi
theorem Izw {t:TypeId}{x ix y:Operand}{out:Out}(ho:o.op=.mapUpdate t x ix y\/o.op=.insert t x ix y)(h:tzu P t (env x) (env ix) (env y) m=some out):Sound1 P o env m id out:=by
 unfold tzu at h
 split at h
 ·rename_i k e j hu hx
  split at h
  ·rename_i tm dom val cs p hmj hix hy
   split at h
   ·rename_i ks hf
    split at h
    ·rename_i hc
     simp only[Bool.and_eq_true,decide_eq_true_eq]at hc
     obtain⟨⟨hag,hft⟩,hal⟩:=hc
     cases h
     intro F w ρ Mine M a hm g fr hrd hfe ha
     have hM:=hrd j (by simp)
     obtain⟨es,clock,hb,hF,hkeys,hn,hs⟩:=Xz9 hm (hM.trans hmj)
     have hopx:x∈o.op.operands/\ix∈o.op.operands/\y∈o.op.operands:=by rcases ho with ho|ho<;>simp[ho,Op.operands]
     have hxv:a.eval x=.map (some (ρ.blk j)):=by
      have:=hx▸ha x hopx.1
      generalize a.eval x=v at this
      cases this;rfl
     have hkey:hz5 cs (a.eval ix)=true:=az1y hix (ha ix hopx.2.1) hal
     have hv:=(ha y hopx.2.2).toP hy
     have hck:∀em,(Instr.checkKey em 10000 k (a.eval ix)).run P w=.ok () w:=fun em=>tzn (F:=fun _ _=>False) em 20 k ks hf 9980 _ cs (uz5 hag hkey) (szl hal hft)
     have hfk:=run_findKey' (w:=w) hf hag hft hal hkey es.toList hkeys
     obtain⟨es',clock',hrun,hk',hn',hs'⟩:∃es' clock',(Instr.mapUpdate t (.map (some (ρ.blk j))) (a.eval ix) (a.eval y)).run P w=.ok () {w with heap:=w.heap.setIfInBounds (ρ.blk j) (.map es' clock')}/\
      (∀e∈es'.toList,∃q,cz8 tm q=true/\hz5 q e.key=true)/\(∀q,cz8 tm q=true->dzu q es'.toList=none->(xz1 q cs||dom q)=false)/\
      (∀q v,cz8 tm q=true->dzu q es'.toList=some v->(xz1 q cs||dom q)=true/\PRel F w (if xz1 q cs then p else val q) v):=by
      cases hp:fzn cs es.toList 0 with
      |none=>
       have hfv:dzu cs es.toList=none:=by rw[←tzv cs _ 0,hp];rfl
       rw[hp]at hfk
       refine⟨es.push {key:=a.eval ix,val:=a.eval y,born:=clock},clock+1,?_,fun e he=>?_,fun q hq hq'=>?_,fun q v hq hq'=>?_⟩
       ·simp[Instr.mapUpdate,run_underlying hu,MapKept.run_getObj_map hb,hck,hfk,MapKept.run_setObj_map _ hb]
       ·simp only[Array.toList_push,List.mem_append,List.mem_singleton]at he
        rcases he with he|rfl
        ·exact hkeys e he
        ·exact⟨cs,hal,hkey⟩
       ·rw[Array.toList_push,wzq,Option.or_eq_none_iff]at hq'
        rcases uz4 hal hq with⟨h1,rfl⟩|⟨h1,h2⟩
        ·simp[hkey]at hq'
        ·rw[h1,hn q hq hq'.1];rfl
       ·rw[Array.toList_push,wzq]at hq'
        rcases uz4 hal hq with⟨h1,rfl⟩|⟨h1,h2⟩
        ·rw[hfv]at hq'
         simp[hkey]at hq'
         subst hq'
         simp[h1,hv]
        ·rw[h2 _ hkey]at hq'
         simp at hq'
         obtain⟨h3,h4⟩:=hs q v hq hq'
         simp[h1,h3,h4]
      |some r=>
       obtain⟨n,v0⟩:=r
       obtain⟨j',e0,hj',hej,hke,_⟩:=pzq hp
       rw[Nat.zero_add]at hj';subst hj'
       obtain⟨hee,hsb⟩:=Qzd hke hkey
       rw[hp]at hfk
       have hp':fzn cs es.toList 0=some (0+n,v0):=by rw[Nat.zero_add];exact hp
       have hes:es[n]?=some e0:=by simpa using hej
       have hkts:(Instr.keyThatStays e0.key (a.eval ix)).run P w=.ok (a.eval ix) w:=by
        unfold Instr.keyThatStays
        rw[hsb];rfl
       refine⟨es.modify n (fun e=>{e with key:=a.eval ix,val:=a.eval y}),clock,?_,fun e he=>?_,fun q hq hq'=>?_,fun q v hq hq'=>?_⟩
       ·simp[Instr.mapUpdate,run_underlying hu,MapKept.run_getObj_map hb,hck,hfk,hes,hkts,MapKept.run_setObj_map _ hb]
       ·rw[Array.toList_modify]at he
        obtain⟨i,hi⟩:=List.mem_iff_getElem?.1 he
        rw[List.getElem?_modify]at hi
        split at hi
        ·simp only[Option.map_eq_map,Option.map_eq_some_iff]at hi
         obtain⟨e1,_,rfl⟩:=hi
         exact⟨cs,hal,hkey⟩
        ·simp at hi
         exact hkeys e (List.mem_iff_getElem?.2 ⟨i,by simpa using hi⟩)
       ·rw[Array.toList_modify]at hq'
        rcases uz4 hal hq with⟨h1,rfl⟩|⟨h1,h2⟩
        ·rw[wzr hkey _ 0 n v0 hp']at hq';cases hq'
        ·rw[tzw hkey h2 _ 0 n v0 hp']at hq'
         rw[h1,hn q hq hq'];rfl
       ·rw[Array.toList_modify]at hq'
        rcases uz4 hal hq with⟨h1,rfl⟩|⟨h1,h2⟩
        ·rw[wzr hkey _ 0 n v0 hp']at hq'
         cases hq'
         simp[h1,hv]
        ·rw[tzw hkey h2 _ 0 n v0 hp']at hq'
         obtain⟨h3,h4⟩:=hs q v hq hq'
         simp[h1,h3,h4]
     obtain⟨st,hm'⟩:=az0g (clock':=clock') hm g (hM.trans hmj) hb hF hk' hn' hs'
     refine⟨undef,_,F,ρ,.inr ⟨?_,rfl⟩,st,fun _ _=>⟨rfl,rfl⟩,.any,hm'⟩
     rcases ho with ho|ho<;>simp only[execOp,ho,Sem.run_bind,hxv,hrun,Result.andThen_ok,Sem.run_pure]
    ·cases h
   ·cases h
  ·cases h
 ·cases h
theorem Yzm {t:TypeId}{out:Out}(ho:o.op=.makeMap t none)(h:Hzr P t id=some out):Sound1 P o env m id out:=by
 unfold Hzr at h
 split at h
 ·rename_i k e hu
  split at h
  ·rename_i tm z htm hz
   cases h
   intro F w ρ Mine M a hm g fr _ hfe ha
   have st:Step Mine F w F (w.alloc (.map #[] 0)):=by
    have s:=Step.alloc g (.map #[] 0) (fun _=>False)
    exact⟨fun _ _ h=>h,s.cell,fun _ _ h=>.inl h,fun b o h=>by have:=g.lt b o h;simp;omega,s.keep⟩
   let ρ':=ρ.setBlk id w.heap.size
   have hb:ρ'.blk id=w.heap.size:=if_pos rfl
   have he:czz id ρ ρ':=fun i hi=>⟨if_neg (fun h=>hi ⟨by omega,by omega⟩),rfl⟩
   refine⟨.map (some w.heap.size),w.alloc (.map #[] 0),F,ρ',.inl ?_,st,he,?_,?_⟩
   ·simp[execOp,ho,Instr.makeMap]
   ·rw[←hb];exact .map
   ·refine hm.step st (fun i=>¬Own id i) he [(id,.map tm (fun _=>false) (fun _=>z))] (fun j r hj _=>⟨fun ho=>?_,fun i hi=>fr.has i j r (Classical.not_not.1 hi) hj,fun b hbb=>⟨heap_alloc_old w _ (hm.mine j r b hj hbb).2,fun _ h=>h⟩⟩) (fun j r hj=>?_) (fun j j' r r' b hj hj' _ _=>?_)
    ·have:=fr.none j ho;rw[hj]at this;cases this
    ·simp only[Mem.get]at hj
     split at hj
     ·rename_i e;subst e;cases hj
      refine⟨⟨#[],0,by rw[hb];exact heap_alloc_new w _,fun o ho=>by rw[hb]at ho;exact absurd (g.lt _ _ ho) (by omega),by simp,fun _ _ _=>rfl,fun p v _ h=>by simp[dzu]at h⟩,fun b hbb=>?_⟩
      simp only[Owns,nzi,or_false,bzb,hb,Option.some.injEq]at hbb
      subst hbb
      exact⟨g.mine _ (Nat.le_refl _),by simp,fun q r' hq _ hbq=>absurd (hm.mine q r' _ hq hbq).2 (by omega)⟩
     ·cases hj
    ·simp only[Mem.get]at hj hj'
     split at hj
     ·split at hj'
      ·omega
      ·cases hj'
     ·cases hj
  ·cases h
 ·cases h
end Go.Abs
