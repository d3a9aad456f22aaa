/-
  SoundP (a part of a claim: our own text).
-/
import Derived.Test.YtlmicknhpllbdaaGreatDoorYMSoundJ
import Derived.MapKept
namespace Go.Abs
variable {P:Program} {o:Oper} {env:Operand->AVal} {m:Mem} {id:Nat} {F:Cells} {w:World} {ρ:Env}
theorem az3k {p:PVal}{v:Value}(h:Kzz p v=true):PRel F w p v:=by
 cases p<;>cases v<;>simp[Kzz]at h
 ·subst h;exact .bool
 ·obtain⟨rfl,rfl⟩:=h;exact .int
theorem Nzy:∀ {ps:List PVal} {vs:List Value},fzz ps vs=true->ps.length=vs.length/\∀ (j:Nat) (p:PVal) (v:Value),ps[j]?=some p->vs[j]?=some v->PRel F w p v
 |[],[],_=>⟨rfl,by simp⟩
 |[],_::_,h=>by simp[fzz]at h
 |_::_,[],h=>by simp[fzz]at h
 |p::ps,v::vs,h=>by
  simp only[fzz,Bool.and_eq_true]at h
  obtain⟨a,b⟩:=Nzy h.2
  grind[az3k]
theorem Qz3:∀ {b ps:List PVal} {vs:List Value},cz8 b ps=true->ps.length=vs.length->(∀ (j:Nat) (p:PVal) (v:Value),ps[j]?=some p->vs[j]?=some v->PRel F w p v)->fzz ps vs=true
 |[],[],[],_,_,_=>rfl
 |[],[],_::_,_,h,_=>by grind
 |[],_::_,_,h,_,_=>by simp[cz8]at h
 |_::_,[],_,h,_,_=>by simp[cz8]at h
 |_::_,_::_,[],_,h,_=>by grind
 |t::b,p::ps,v::vs,h,d,a=>by
  simp only[cz8,Bool.and_eq_true]at h
  have c:=a 0 p v (by simp) (by simp)
  have e:=Qz3 h.2 (by simpa using d) (fun j q u f g=>a (j+1) q u (by simp_all) (by simp_all))
  simp only[fzz,e,Bool.and_true]
  cases c<;>cases t<;>simp[Nzq]at h<;>simp[Kzz]
theorem Uz0:∀ {f p q:List PVal},cz8 f p=true->cz8 f q=true->∃r,dzp p q=some r/\∀l,fzz q l=true->fzz p l=r
 |[],[],[],_,_=>⟨true,rfl,fun l h=>by omega⟩
 |[],_::_,_,h,_=>by simp[cz8]at h
 |[],_,_::_,_,h=>by simp[cz8]at h
 |_::_,[],_,h,_=>by simp[cz8]at h
 |_::_,_,[],_,h=>by simp[cz8]at h
 |t::f,a::p,b::q,d,e=>by
  simp only[cz8,Bool.and_eq_true]at d e
  obtain⟨r,g,i⟩:=Uz0 d.2 e.2
  cases t<;>cases a<;>simp[Nzq]at d<;>cases b<;>simp[Nzq]at e
  ·rename_i x y
   refine⟨(x==y)&&r,by simp[dzp,g],fun l c=>?_⟩
   cases l with
   |nil=>simp[fzz]at c
   |cons v l=>
    simp only[fzz,Bool.and_eq_true]at c⊢
    rw[i l c.2]
    cases v<;>simp[Kzz]at c⊢
    rw[c.1]
  ·rename_i o n m k s j
   obtain⟨rfl,d⟩:=d
   obtain⟨rfl,e⟩:=e
   refine⟨(k==j)&&r,by simp[dzp,g],fun l c=>?_⟩
   cases l with
   |nil=>simp[fzz]at c
   |cons v l=>
    simp only[fzz,Bool.and_eq_true]at c⊢
    rw[i l c.2]
    cases v<;>simp[Kzz]at c⊢
    obtain⟨⟨rfl,rfl⟩,_⟩:=c
    simp
theorem Xz0 {a p q:List PVal}(e:cz8 a p=true)(c:cz8 a q=true){v:Value}(b:iz3 q v=true):dzp p q=some (iz3 p v):=by
 obtain⟨r,d,f⟩:=Uz0 e c
 cases v<;>simp[iz3]at b
 rw[d,iz3,f _ b]
theorem vzl:∀ {b:List Nat} {a ps:List PVal},cz8 a ps=true->fits b a=true->fits b ps=true
 |[],[],[],_,_=>rfl
 |_,[],_::_,h,_=>by simp[cz8]at h
 |_,_::_,[],h,_=>by simp[cz8]at h
 |[],_::_,_::_,_,h=>by simp[fits]at h
 |_::_,[],[],_,h=>by omega
 |k::b,t::a,p::ps,h,c=>by
  simp only[cz8,fits,Bool.and_eq_true]at h c⊢
  refine⟨?_,vzl h.2 c.2⟩
  have e:=h.1
  have d:=c.1
  cases t<;>cases p<;>simp[Nzq]at e<;>revert d<;>unfold Lz6<;>split<;>simp_all
theorem Nzz {e:TypeId}{D:Nat}{em:Bool}{a:List Nat}(b:Nzo P e a)(d:bz9 P e=some a.length)
 (l:∀x ps,IsCells P F w e x ps->fits a ps=true->(Instr.checkKey em D e x).run P w=.ok () w) {xs:Array Value} {ps:List PVal} (n:ps.length=xs.size)
 (h:∀ (j:Nat) (p:PVal) (v:Value),ps[j]?=some p->xs[j]?=some v->PRel F w p v) {off:Nat} {c:List Nat} (f:fits (a++c) (ps.drop off)=true):
 ∃x,(part e xs off).run P w=.ok x w/\(Instr.checkKey em D e x).run P w=.ok () w/\fits c (ps.drop (off+a.length))=true:=by
 obtain⟨q,g,i⟩:=wzz f
 rw[List.drop_drop]at g
 simp only[List.length_drop]at i
 by_cases m:off+a.length≤ps.length
 ·obtain⟨x,r,o⟩:=IsCells.part (P:=P) (F:=F) (w:=w) off d n h (by omega) b
  grind
 ·rcases b with b|⟨b,f⟩
  ·have k:a.length=0:=by omega
   refine⟨_,qzd (.inl ⟨b,a.length,d,rfl⟩),l _ [] (.inl ⟨b,_,rfl,by grind,by simp⟩) ?_,g⟩
   simp_all
  omega
theorem wzr (em:Bool):∀ (d:Nat) (t:TypeId) (g:List Nat),szp P d t=some g->∀ (D:Nat) (x:Value) (ps:List PVal),IsCells P F w t x ps->fits g ps=true->
 (Instr.checkKey em (D+d) t x).run P w=.ok () w
 |0,_,_,h,_,_,_,_,_=>by simp[szp]at h
 |d+1,t,g,h,D,x,ps,R,N=>by
  rw[show D+(d+1)=(D+d)+1 from rfl]
  have C:eza P t=some true->∃vs:Array Value,x=.agg vs/\ps.length=vs.size/\∀ (j:Nat) (p:PVal) (v:Value),ps[j]?=some p->vs[j]?=some v->PRel F w p v:=by
   rcases R with⟨_,s⟩|⟨s,_⟩
   all_goals simp_all
  simp only[szp]at h
  split at h<;>rename_i r
  ·simp[Instr.checkKey,run_underlying r]
  ·simp[Instr.checkKey,run_underlying r]
  ·simp[Instr.checkKey,run_underlying r]
  ·rename_i n e
   split at h
   ·rename_i A J
    split at h
    ·rename_i u
     simp only[Bool.and_eq_true,decide_eq_true_eq,Bool.not_eq_true']at u
     obtain⟨xs,rfl,E,m⟩:=C (by simp[eza,r])
     rw[Instr.checkKey]
     simp only[Sem.run_bind,run_underlying r,Result.andThen_ok]
     have z:∀ (k i:Nat),fits (List.replicate k A).flatten (ps.drop (i * A.length))=true->
      (forIn (List.range' i k) PUnit.unit fun i _=>(do
       let a←sizeOf e
       let b←part e xs (i * a)
       Instr.checkKey em (D+d) e b
       pure (ForInStep.yield PUnit.unit):Sem (ForInStep PUnit))).run P w=.ok PUnit.unit w:=by
      intro k
      induction k with
      |zero=>simp_all
      |succ k I=>
       intro i q
       obtain⟨y,H,K,M⟩:=Nzz (em:=em) (D:=D+d) (Nzg J) u.1 (fun x ps s G=>wzr em d e A J D x ps s G) E m q
       simp_all[Nat.add_mul,List.range'_succ,cz3]
     simp_all
    grind
   grind
  ·rename_i O
   split at h
   ·cases h
   ·obtain⟨xs,rfl,E,m⟩:=C (by simp[eza,r])
    rw[Instr.checkKey]
    simp only[Sem.run_bind,run_underlying r,Result.andThen_ok]
    have z:∀ (l:List Field) (off:Nat) (g:List Nat),Gzj P (szp P d) l off=some g->fits g (ps.drop off)=true->
     (forIn l PUnit.unit fun f _=>(if f.name≠ "_" then(do
      let b←part f.type xs f.offset
      Instr.checkKey em (D+d) f.type b
      pure (ForInStep.yield PUnit.unit))else pure (ForInStep.yield PUnit.unit):Sem (ForInStep PUnit))).run P w=.ok PUnit.unit w:=by
     intro l
     induction l with
     |nil=>simp
     |cons f l I=>
      intro off g c q
      simp only[Gzj]at c
      split at c
      ·rename_i L
       simp only[Bool.and_eq_true,decide_eq_true_eq,bne_iff_ne,ne_eq]at L
       obtain⟨rfl,o⟩:=L
       split at c
       ·rename_i A s
        split at c
        ·rename_i u
         simp only[Bool.and_eq_true,decide_eq_true_eq,Bool.not_eq_true']at u
         split at c
         ·rename_i T G
          simp at c;subst c
          obtain⟨y,H,K,M⟩:=Nzz (em:=em) (D:=D+d) (Nzg s) u.1 (fun x ps Q S=>wzr em d f.type A s D x ps Q S) E m q
          simp only[List.forIn_cons,ne_eq,o,not_false_eq_true,if_true,Sem.run_bind,H,K,Result.andThen_ok,Sem.run_pure]
          exact I _ _ G M
         ·cases c
        ·cases c
       ·cases c
      ·cases c
    have:=z O.toList 0 g h (by simpa using N)
    simp at this
    simp[this]
  ·cases h
theorem wzx (p:List PVal):∀ (l:List MapEntry) (i:Nat),(iz1 p l i).map (·.2)=eze p l
 |[],_=>rfl
 |e::l,i=>by
  simp only[iz1,eze]
  split
  ·rfl
  ·exact wzx p l (i+1)
theorem tz4 {p:List PVal}:∀ {l:List MapEntry} {i n:Nat} {v:Value},iz1 p l i=some (n,v)->∃j e,n=i+j/\l[j]?=some e/\iz3 p e.key=true/\e.val=v
 |[],i,n,v,h=>by simp[iz1]at h
 |e::l,i,n,v,h=>by
  simp only[iz1]at h
  split at h
  ·rename_i a
   simp at h
   exact⟨0,e,by omega,by simp,a,h.2⟩
  ·obtain⟨j,f,g,d,c,b⟩:=tz4 h
   exact⟨j+1,f,by omega,by simpa using d,c,b⟩
theorem xzf {t:TypeId}(b:eza P t=some true){q:List PVal}{v:Value}(h:iz3 q v=true):IsCells P F w t v q:=by
 cases v<;>simp[iz3]at h
 rename_i vs
 obtain⟨e,a⟩:=Nzy (F:=F) (w:=w) h
 exact .inl ⟨b,vs,rfl,by omega,fun j p v c d=>a j p v c (by simp_all)⟩
theorem az3a {k:TypeId}{j:List Nat}{m c:List PVal}{a:Value}(p:szp P 20 k=some j)(n:eza P k=some true)(f:fits j m=true)(d:cz8 m c=true)(b:iz3 c a=true):
 ∀ (l:List MapEntry) (i:Nat),(∀e∈l,∃q,cz8 m q=true/\iz3 q e.key=true)->(Instr.findAsking k a l i).run P w=.ok (iz1 c l i) w
 |[],i,_=>by rfl
 |e::l,i,o=>by
  obtain⟨q,r,s⟩:=o e (by simp)
  have g:=Nzd (P:=P) (F:=fun _ _=>False) (w:=w) 20 k j p 9980 a e.key c q (iz3 c e.key) (xzf n b) (xzf n s) (vzl d f) (vzl r f) (Xz0 d r s)
  have h:(Op.equal k a e.key).run P w=.ok (iz3 c e.key) w:=g
  simp only[Instr.findAsking,iz1,Sem.run_bind,h,Result.andThen_ok]
  cases t:iz3 c e.key with
  |true=>simp
  |false=>
   exact az3a p n f d b l (i+1) (fun e g=>o e (by simp[g]))
theorem run_findKey' {k:TypeId}{g:List Nat}{c f:List PVal}{a:Value}(o:szp P 20 k=some g)(n:eza P k=some true)(m:fits g c=true)(i:cz8 c f=true)(b:iz3 f a=true)
 (l:List MapEntry) (p:∀e∈l,∃q,cz8 c q=true/\iz3 q e.key=true):(Instr.findKey k a l).run P w=.ok (iz1 f l 0) w:=by
 obtain⟨d,j⟩:∃d,P.underlying k=some d:=by
  grind[eza]
 simp only[Instr.findKey,Sem.run_bind,run_underlying j,Result.andThen_ok]
 have h:∃vs,a=.agg vs:=by cases a<;>simp[iz3]at b;simp_all
 cases l with
 |nil=>rfl
 |cons e l=>
  grind[Instr.sameNow,Instr.findNow,az3a]
theorem Lz3 (p:List PVal)(e:MapEntry):∀ (l:List MapEntry),eze p (l++[e])=(eze p l).or (if iz3 p e.key then some e.val else none)
 |[]=>by rfl
 |x::l=>by
  simp only[List.cons_append,eze]
  split
  ·rfl
  ·exact Lz3 p e l
theorem Azk {p:List PVal}{a v:Value}(d:iz3 p a=true):∀ (l:List MapEntry) (i n:Nat) (b:Value),iz1 p l i=some (i+n,b)->
 eze p (l.modify n (fun e=>{e with key:=a,val:=v}))=some v
 |[],i,n,b,h=>by simp[iz1]at h
 |e::l,i,n,b,h=>by
  simp only[iz1]at h
  split at h
  ·simp at h
   obtain⟨rfl,_⟩:=h
   simp[eze,d]
  ·rename_i c
   obtain⟨j,g,k,_⟩:=tz4 h
   obtain⟨n,rfl⟩:∃f,n=f+1:=⟨n-1,by omega⟩
   rw[show i+(n+1)=i+1+n by omega]at h
   simp only[List.modify_succ_cons,eze,c,Bool.false_eq_true,if_false]
   exact Azk d l (i+1) n b h
theorem wzy {p q:List PVal}{a v:Value}(d:iz3 p a=true)(c:∀u,iz3 p u=true->iz3 q u=false):∀ (l:List MapEntry) (i n:Nat) (b:Value),iz1 p l i=some (i+n,b)->
 eze q (l.modify n (fun e=>{e with key:=a,val:=v}))=eze q l
 |[],i,n,b,h=>by simp_all
 |e::l,i,n,b,h=>by
  simp only[iz1]at h
  split at h
  ·grind[eze]
  ·obtain⟨j,k,g,_⟩:=tz4 h
   obtain⟨n,rfl⟩:∃f,n=f+1:=⟨n-1,by omega⟩
   rw[show i+(n+1)=i+1+n by omega]at h
   simp only[List.modify_succ_cons,eze]
   rw[wzy d c l (i+1) n b h]
theorem Izv:∀ {f p q:List PVal},cz8 f p=true->cz8 f q=true->dzp p q=some true->p=q
 |[],[],[],_,_,_=>rfl
 |[],_::_,_,h,_,_=>by simp[cz8]at h
 |[],_,_::_,_,h,_=>by simp[cz8]at h
 |_::_,[],_,h,_,_=>by simp[cz8]at h
 |_::_,_,[],_,h,_=>by simp[cz8]at h
 |t::f,a::p,b::q,c,d,h=>by
  simp only[cz8,Bool.and_eq_true]at c d
  obtain⟨r,e,_⟩:=Uz0 c.2 d.2
  cases t<;>cases a<;>simp[Nzq]at c<;>cases b<;>simp[Nzq]at d
  ·simp[dzp,e]at h
   obtain⟨rfl,rfl⟩:=h
   rw[Izv c d e]
  ·obtain⟨rfl,c⟩:=c
   obtain⟨rfl,d⟩:=d
   simp[dzp,e]at h
   obtain⟨rfl,rfl⟩:=h
   rw[Izv c d e]
theorem Fz2 {a p q:List PVal}(c:cz8 a p=true)(b:cz8 a q=true):(szq q p=true/\q=p)\/(szq q p=false/\∀u,iz3 p u=true->iz3 q u=false):=by
 grind[szq,Izv,Xz0]
theorem Zzj {p:List PVal}{a b:Value}(h:iz3 p a=true)(i:iz3 p b=true):a=b/\Instr.sameBits 10000 a b=true:=by
 cases a<;>simp[iz3]at h
 cases b<;>simp[iz3]at i
 rename_i xs d
 have g:∀ (p:List PVal) (xs d:List Value),fzz p xs=true->fzz p d=true->xs=d/\((xs.zip d).all fun (x,y)=>Instr.sameBits 9999 x y)=true:=by
  intro p
  induction p with
  |nil=>intro xs d f e;cases xs<;>cases d<;>simp_all [fzz]
  |cons c p n=>
   intro xs d f e
   cases xs with
   |nil=>simp[fzz]at f
   |cons x xs=>
    cases d with
    |nil=>simp[fzz]at e
    |cons y d=>
     simp only[fzz,Bool.and_eq_true]at f e
     have k:=f.1
     have j:=e.1
     have:x=y/\Instr.sameBits 9999 x y=true:=by
      cases c<;>cases x<;>simp[Kzz]at k<;>cases y<;>simp[Kzz]at j
      all_goals grind[Instr.sameBits]
     grind[List.zip_cons_cons]
 obtain⟨m,l⟩:=g p xs.toList d.toList h i
 simp_all[Instr.sameBits]
theorem az6n {Mine:Nat->Prop}{M:Mem}{d:List PVal}{b:List PVal->Bool}{c:List PVal->PVal}{j:Nat}(g:MemOk F w ρ Mine M)(h:M.get j=some (.map d b c)):
 ∃f a,w.heap[ρ.blk j]?=some (.map f a)/\(∀o,¬F (ρ.blk j) o)/\(∀e∈f.toList,∃q,cz8 d q=true/\iz3 q e.key=true)/\
  (∀p,cz8 d p=true->eze p f.toList=none->b p=false)/\(∀p v,cz8 d p=true->eze p f.toList=some v->b p=true/\PRel F w (c p) v):=g.ok j _ h
theorem az89 {e:TypeId}{z:PVal}(h:azbo P e=some z):∃v,(zeroValue e).run P w=.ok v w/\PRel F w z v:=by
 unfold azbo at h
 split at h
 ·split at h
  ·rename_i k g
   split at h
   ·rename_i ps c
    cases h
    obtain⟨m,f⟩:=kzr c
    refine⟨.agg k,by simp_all[zeroValue,typeInfo],.agg (by simp_all) (fun j p v l i=>?_)⟩
    obtain⟨a,b,d⟩:=f j p l
    simp[i]at b
    subst b
    exact(izj (F:=F) (w:=w) (ρ:=⟨fun _=>0,fun _=>none⟩) v).toP d
   grind
  ·rename_i v _ g
   exact⟨v,by simp_all[zeroValue,typeInfo],(izj (F:=F) (w:=w) (ρ:=⟨fun _=>0,fun _=>none⟩) v).toP h⟩
  grind
 grind
theorem azc7 {i a:List PVal}{b:AVal}{v:Value}(e:b.toP=some (.agg a))(f:ARel F w ρ b v)(d:cz8 i a=true):iz3 a v=true:=by
 have:=f.toP e
 cases this with
 |agg k h=>exact Qz3 d (by omega) (fun j p v g l=>h j p v g (by simp_all))
theorem azax {t:TypeId}{x ix:Operand}{ok:Bool}{out:Out}(ho:o.op=.lookup t x ix ok)(h:Uzo P t (env x) (env ix) ok m=some out)(hob:holds out.obl):Sound1 P o env m id out:=by
 unfold Uzo at h
 split at h
 ·rename_i k e j hu hx
  split at h
  ·rename_i tm dom val cs hmj hix
   split at h
   ·rename_i ks z hf hz
    split at h
    ·rename_i hc
     simp only[Bool.and_eq_true,decide_eq_true_eq]at hc
     obtain⟨⟨hag,hft⟩,hal⟩:=hc
     cases h
     intro F w ρ Mine M a hm g fr hrd hfe ha
     have hM:=hrd j (by simp)
     obtain⟨es,clock,hb,hF,hkeys,hn,hs⟩:=az6n hm (hM.trans hmj)
     have hxv:a.eval x=.map (some (ρ.blk j)):=by
      have:=hx▸ha x (by simp[ho,Op.operands])
      generalize a.eval x=v at this
      cases this;rfl
     have hkey:iz3 cs (a.eval ix)=true:=azc7 hix (ha ix (by simp[ho,Op.operands])) hal
     have hck:∀em,(Instr.checkKey em 10000 k (a.eval ix)).run P w=.ok () w:=fun em=>wzr (F:=fun _ _=>False) em 20 k ks hf 9980 _ cs (xzf hag hkey) (vzl hal hft)
     have hfk:=run_findKey' (w:=w) hf hag hft hal hkey es.toList hkeys
     obtain⟨zv,hzv,hzr⟩:=az89 (P:=P) (F:=F) (w:=w) hz
     obtain⟨v,b,hv,hdb,hrun⟩:∃v b,PRel F w (val cs) v/\dom cs=b/\(Instr.lookup t (.map (some (ρ.blk j))) (a.eval ix) ok).run P w=.ok (if ok then .tuple #[v,.bool b]else v) w:=by
      cases hp:iz1 cs es.toList 0 with
      |none=>
       have hfv:eze cs es.toList=none:=by rw[←wzx cs _ 0,hp];rfl
       have hd:=hn cs hal hfv
       refine⟨zv,false,(hob hd).rel _ _ _ hzr,hd,?_⟩
       rw[hp]at hfk
       simp[Instr.lookup,run_underlying hu,MapKept.run_getObj_map hb,hck,hfk,hzv]
      |some r=>
       obtain⟨n,v⟩:=r
       have hfv:eze cs es.toList=some v:=by rw[←wzx cs _ 0,hp];rfl
       obtain⟨hd,hr⟩:=hs cs v hal hfv
       refine⟨v,true,hr,hd,?_⟩
       rw[hp]at hfk
       simp[Instr.lookup,run_underlying hu,MapKept.run_getObj_map hb,hck,hfk]
     refine⟨if ok then .tuple #[v,.bool b]else v,w,F,ρ,.inl (by simp only[execOp,ho,Sem.run_bind,hxv,hrun,Result.andThen_ok,Sem.run_pure]),Step.refl g,fun _ _=>⟨rfl,rfl⟩,?_,hm⟩
     cases ok
     ·exact .pure hv
     ·simp only[if_true]
      refine .tup (by simp) (fun i a' v' h1 h2=>?_)
      match i with
      |0=>simp at h1 h2;subst h1;subst h2;exact .pure hv
      |1=>simp at h1 h2;subst h1;subst h2;rw[hdb];exact .pure .bool
      |n+2=>simp at h1
    ·cases h
   ·cases h
  ·cases h
 ·cases h
theorem aza8 {Mine:Nat->Prop}{M:Mem}{j:Nat}{s:List PVal}{z c:List PVal->Bool}{u d:List PVal->PVal}{O a:Array MapEntry}{n clock':Nat}(t:MemOk F w ρ Mine M)(g:Good F w Mine)
 (A:M.get j=some (.map s z u)) (P:w.heap[ρ.blk j]?=some (.map O n)) (H:∀o,¬F (ρ.blk j) o)
 (E:∀e∈a.toList,∃q,cz8 s q=true/\iz3 q e.key=true) (K:∀p,cz8 s p=true->eze p a.toList=none->c p=false)
 (C:∀p v,cz8 s p=true->eze p a.toList=some v->c p=true/\PRel F w (d p) v):
 Step Mine F w F {w with heap:=w.heap.setIfInBounds (ρ.blk j) (.map a clock')}/\MemOk F {w with heap:=w.heap.setIfInBounds (ρ.blk j) (.map a clock')} ρ Mine ([(j,.map s c d)]++M):=by
 obtain⟨N,L⟩:=MapKept.heap_set (o':=.map a clock') P
 have m:=t.mine j _ _ A (.inl rfl)
 have f:∀b o,F b o->({w with heap:=w.heap.setIfInBounds (ρ.blk j) (.map a clock')}:World).cell? ⟨b,o,none⟩=w.cell? ⟨b,o,none⟩:=by
  grind[World.cell?]
 have B:Step Mine F w F {w with heap:=w.heap.setIfInBounds (ρ.blk j) (.map a clock')}:=by
  refine⟨fun _ _ h=>h,f,fun _ _ h=>.inl h,fun b o h=>by simpa using g.lt b o h,⟨rfl,rfl,rfl,by simp,fun k _ E=>?_⟩⟩
  grind
 refine⟨B,t.step B (fun _=>True) (fun _ _=>⟨rfl,rfl⟩) [(j,.map s c d)] (fun i r hi R=>⟨trivial,fun _ h=>absurd trivial h,fun b l=>⟨?_,fun _ h=>h⟩⟩) (fun i r hi=>?_) (fun i S r Q b hi I _ _=>?_)⟩
 ·refine L b (fun e=>?_)
  have:=t.disj i j _ _ b hi A l (by rw[e];exact .inl rfl)
  grind[Mem.get]
 ·simp only[Mem.get]at hi
  split at hi
  ·rename_i e;subst e;cases hi
   refine⟨⟨a,clock',N,H,E,K,fun p v G D=>⟨(C p v G D).1,(C p v G D).2.mono (fun _ _ h=>h) f⟩⟩,fun b l=>?_⟩
   simp only[Owns,oz0,or_false,bz4,Option.some.injEq]at l
   subst l
   refine⟨m.1,by simp_all,fun k Q x J y=>?_⟩
   have:=t.disj k j _ _ _ x A y (.inl rfl)
   grind[Mem.get]
  simp_all
 grind[Mem.get]
theorem Qzg {t:TypeId}{x f y:Operand}{out:Out}(ho:o.op=.mapUpdate t x f y\/o.op=.insert t x f y)(h:wzw P t (env x) (env f) (env y) m=some out):Sound1 P o env m id out:=by
 unfold wzw at h
 split at h
 ·rename_i k e j hu hx
  split at h
  ·rename_i S O Z C p I X hy
   split at h
   ·rename_i ks hf
    split at h
    ·rename_i hc
     simp only[Bool.and_eq_true,decide_eq_true_eq]at hc
     obtain⟨⟨N,Q⟩,u⟩:=hc
     cases h
     intro F w ρ Mine M a hm g fr hrd hfe U
     have hM:=hrd j (by simp)
     obtain⟨D,d,E,hF,l,hn,hs⟩:=az6n hm (hM.trans I)
     have z:x∈o.op.operands/\f∈o.op.operands/\y∈o.op.operands:=by grind[Op.operands]
     have hxv:a.eval x=.map (some (ρ.blk j)):=by
      have:=hx▸U x z.1
      generalize a.eval x=v at this
      cases this;rfl
     have b:iz3 C (a.eval f)=true:=azc7 X (U f z.2.1) u
     have hv:=(U y z.2.2).toP hy
     have J:∀em,(Instr.checkKey em 10000 k (a.eval f)).run P w=.ok () w:=fun em=>wzr (F:=fun _ _=>False) em 20 k ks hf 9980 _ C (xzf N b) (vzl u Q)
     have A:=run_findKey' (w:=w) hf N Q u b D.toList l
     obtain⟨s,clock',hrun,T,hn',V⟩:∃s clock',(Instr.mapUpdate t (.map (some (ρ.blk j))) (a.eval f) (a.eval y)).run P w=.ok () {w with heap:=w.heap.setIfInBounds (ρ.blk j) (.map s clock')}/\
      (∀e∈s.toList,∃q,cz8 S q=true/\iz3 q e.key=true)/\(∀q,cz8 S q=true->eze q s.toList=none->(szq q C||O q)=false)/\
      (∀q v,cz8 S q=true->eze q s.toList=some v->(szq q C||O q)=true/\PRel F w (if szq q C then p else Z q) v):=by
      cases R:iz1 C D.toList 0 with
      |none=>
       have hfv:eze C D.toList=none:=by grind[wzx]
       rw[R]at A
       refine⟨D.push {key:=a.eval f,val:=a.eval y,born:=d},d+1,?_,fun e he=>?_,fun q L c=>?_,fun q v L c=>?_⟩
       ·simp[Instr.mapUpdate,run_underlying hu,MapKept.run_getObj_map E,J,A,MapKept.run_setObj_map _ E]
       all_goals grind[Lz3,Fz2]
      |some r=>
       obtain⟨n,H⟩:=r
       obtain⟨j',e0,hj',hej,hke,_⟩:=tz4 R
       obtain⟨hee,hsb⟩:=Zzj hke b
       rw[R]at A
       have B:iz1 C D.toList 0=some (0+n,H):=by simp_all
       have Y:D[n]?=some e0:=by simp_all
       have G:(Instr.keyThatStays e0.key (a.eval f)).run P w=.ok (a.eval f) w:=by
        simp_all[Instr.keyThatStays]
       refine⟨D.modify n (fun e=>{e with key:=a.eval f,val:=a.eval y}),d,?_,fun e he=>?_,fun q L c=>?_,fun q v L c=>?_⟩
       ·simp[Instr.mapUpdate,run_underlying hu,MapKept.run_getObj_map E,J,A,Y,G,MapKept.run_setObj_map _ E]
       ·rw[Array.toList_modify]at he
        obtain⟨i,hi⟩:=List.mem_iff_getElem?.1 he
        rw[List.getElem?_modify]at hi
        split at hi
        ·grind
        ·exact l e (List.mem_iff_getElem?.2 ⟨i,by simp_all⟩)
       ·rw[Array.toList_modify]at c
        rcases Fz2 u L with⟨W,rfl⟩|⟨W,h2⟩
        ·rw[Azk b _ 0 n H B]at c;grind
        ·rw[wzy b h2 _ 0 n H B]at c
         simp_all
       ·rw[Array.toList_modify]at c
        rcases Fz2 u L with⟨W,rfl⟩|⟨W,h2⟩
        ·rw[Azk b _ 0 n H B]at c
         simp_all
        ·rw[wzy b h2 _ 0 n H B]at c
         simp_all
     obtain⟨st,hm'⟩:=aza8 (clock':=clock') hm g (hM.trans I) E hF T hn' V
     refine⟨undef,_,F,ρ,.inr ⟨?_,rfl⟩,st,fun _ _=>⟨rfl,rfl⟩,.any,hm'⟩
     grind[execOp,Sem.run_bind,Result.andThen_ok,Sem.run_pure]
    grind
   grind
  grind
 grind
theorem az7w {t:TypeId}{out:Out}(f:o.op=.makeMap t none)(h:Ozj P t id=some out):Sound1 P o env m id out:=by
 unfold Ozj at h
 split at h
 ·split at h
  ·rename_i D z E H
   cases h
   intro F w ρ Mine M a l g y _ C J
   have n:Step Mine F w F (w.alloc (.map #[] 0)):=by
    have s:=Step.alloc g (.map #[] 0) (fun _=>False)
    simp_all
   let ρ':=ρ.setBlk id w.heap.size
   have u:ρ'.blk id=w.heap.size:=if_pos rfl
   have A:dz3 id ρ ρ':=fun i hi=>⟨if_neg (fun h=>hi ⟨by omega,by omega⟩),rfl⟩
   refine⟨.map (some w.heap.size),w.alloc (.map #[] 0),F,ρ',.inl ?_,n,A,?_,?_⟩
   ·simp[execOp,f,Instr.makeMap]
   ·rw[←u];exact .map
   ·refine l.step n (fun i=>¬Own id i) A [(id,.map D (fun _=>false) (fun _=>z))] (fun j r d _=>⟨fun f=>?_,fun i hi=>y.has i j r (Classical.not_not.1 hi) d,fun b c=>⟨heap_alloc_old w _ (l.mine j r b d c).2,fun _ h=>h⟩⟩) (fun j r d=>?_) (fun j I r x b d G _ _=>?_)
    ·have:=y.none j f;simp_all
    ·simp only[Mem.get]at d
     split at d
     ·rename_i e;subst e;cases d
      refine⟨⟨#[],0,by grind[heap_alloc_new],fun o f=>by exact absurd (g.lt _ _ f) (by omega),by simp,fun _ _ _=>rfl,fun p v _ h=>by simp[eze]at h⟩,fun b c=>?_⟩
      simp only[Owns,oz0,or_false,bz4,u,Option.some.injEq]at c
      subst c
      exact⟨g.mine _ (Nat.le_refl _),by simp,fun q x B _ k=>absurd (l.mine q x _ B k).2 (by omega)⟩
     simp_all
    grind[Mem.get]
  grind
 grind
end Go.Abs
