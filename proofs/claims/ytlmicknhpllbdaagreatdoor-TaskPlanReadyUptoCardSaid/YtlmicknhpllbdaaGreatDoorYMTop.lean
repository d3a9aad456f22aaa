/-
  Top (a part of a claim: our own text).
-/
import Derived.Test.YtlmicknhpllbdaaGreatDoorYMTBase
import Derived.Test.YtlmicknhpllbdaaGreatDoorRows
import Derived.ProofKit
import Derived.OpenShut
import Derived.JoinedCond
import Derived.ReadAgain
import Derived.ChangeReads
import Derived.ChangeStays
import Derived.RowKit3
namespace Go.Abs
open Go.Proofs Go.Proofs.YtlmicknhpllbdaaGreatDoor Go.ChangeShapes Go.WideShapes Go.ChangeAt Go.RowKit
def oldF (w:World):Cells:=fun b _=>b<w.heap.size
def CRel (w:World)(cs:List Value)(ps:List PVal):Prop:=
 cs.length=ps.length/\∀ (j:Nat) (p:PVal) (v:Value),ps[j]?=some p->cs[j]?=some v->v.oneCell'=true/\PRel (oldF w) w p v
def Rep (P:Program)(t:TypeId){α:Type}(cells:α->List PVal)(ok:α->Prop)(bulk:α->Nat):Prop:=
 ∀ (H:Type) (enc:TypeId×Value->H) (w:World) (fuel:Nat) (cs:List Value) (x:DataW H×List MemPlace),
   DataW.trod enc P w 0 (fun _=>true) true fuel t cs=some x->∃a:α,CRel w cs (cells a)/\ok a/\bulk a≤Rows.uptoBulk x.1
theorem CRel.nil {w:World}:CRel w [] []:=⟨rfl,by simp⟩
theorem CRel.one {w:World}{v:Value}{p:PVal}(h1:v.oneCell'=true)(h2:PRel (oldF w) w p v):CRel w [v] [p]:=by
 refine⟨rfl,fun j q u hq hu=>?_⟩
 cases j with
 |zero=>simp at hq hu;subst hq;subst hu;exact⟨h1,h2⟩
 |succ j=>simp at hq
theorem CRel.app {w:World}{cs cs':List Value}{ps ps':List PVal}(h1:CRel w cs ps)(h2:CRel w cs' ps'):CRel w (cs++cs') (ps++ps'):=by
 refine⟨by simp[h1.1,h2.1],fun j p v hp hv=>?_⟩
 by_cases hj:j<ps.length
 ·rw[List.getElem?_append_left hj]at hp
  rw[List.getElem?_append_left (by rw[h1.1];exact hj)]at hv
  exact h1.2 j p v hp hv
 ·rw[List.getElem?_append_right (by omega)]at hp
  rw[List.getElem?_append_right (by rw[h1.1];omega),h1.1]at hv
  exact h2.2 _ p v hp hv
theorem az7g {P:Program}{t:TypeId}{k:IntKind}(ht:P.underlying t=some (.int k)):Rep P t (fun n:Int=>[.int k n]) (fun n=>(Lit.int k n).wf=true) (fun _=>1):=by
 intro H enc w fuel cs x h
 obtain⟨n,rfl,rfl,hw⟩:=DataW.trod_int ht h
 exact⟨n,CRel.one rfl .int,hw,by simp[Rows.uptoBulk]⟩
theorem az46 {P:Program}{t:TypeId}(ht:P.underlying t=some .string):Rep P t (fun b:ByteArray=>[.str b]) (fun _=>True) (fun b=>b.size+1):=by
 intro H enc w fuel cs x h
 obtain⟨n,rfl,rfl,hw⟩:=DataW.trod_string ht h
 exact⟨n,CRel.one rfl .str,trivial,by simp only[Rows.uptoBulk];rw[Array.length_toList];exact Nat.le_refl _⟩
theorem az06 {H:Type}(l:List (DataW H×List MemPlace)):Rows.uptoBulkAll (l.map (·.1))=(l.map (fun x=>Rows.uptoBulk x.1)).sum:=by
 induction l with
 |nil=>simp[Rows.uptoBulkAll]
 |cons a l ih=>simp[Rows.uptoBulkAll,ih]
theorem zz6 {α β:Type}{f:α->Option β}:∀ {l:List α} {r:List β},l.mapM f=some r->r.length=l.length
 |[],r,h=>by simp at h;subst h;rfl
 |a::l,r,h=>by
  simp only[List.mapM_cons,Option.bind_eq_bind,Option.bind_eq_some_iff,Option.pure_def,Option.some.injEq]at h
  obtain⟨y,_,ys,hys,rfl⟩:=h
  simp[zz6 hys]
theorem Gzs {α β:Type}{f:α->Option β}:∀ {l:List α} {r:List β},l.mapM f=some r->∀ {i:Nat} {y:β},r[i]?=some y->∃x,l[i]?=some x/\f x=some y
 |[],r,h,i,y,hy=>by simp at h;subst h;simp at hy
 |a::l,r,h,i,y,hy=>by
  simp only[List.mapM_cons,Option.bind_eq_bind,Option.bind_eq_some_iff,Option.pure_def,Option.some.injEq]at h
  obtain⟨z,hz,ys,hys,rfl⟩:=h
  cases i with
  |zero=>simp at hy;subst hy;exact⟨a,by simp,hz⟩
  |succ i=>obtain⟨x,hx,hf⟩:=Gzs hys (i:=i) (by simpa using hy);exact⟨x,by simpa using hx,hf⟩
theorem Yza {w:World}{b:Nat}{a:Addr}{n:Nat}{cs:List Value}(h:w.cells? b a n=some cs):cs.length=n/\∀j v,cs[j]?=some v->w.cell? (a.add j)=some v:=by
 unfold World.cells? at h
 split at h
 ·have h1:=zz6 h
  refine⟨by simpa using h1,fun j v hv=>?_⟩
  have:=Gzs h (i:=j) (y:=v) hv
  obtain⟨x,hx,hf⟩:=this
  have hj:j<n:=by have:=(List.getElem?_eq_some_iff.1 hx).1;simpa using this
  simp[hj]at hx
  subst hx;exact hf
 ·cases h
theorem az4x {w:World}{a:Addr}{v:Value}(h:w.cell? a=some v):a.spot=none/\a.block<w.heap.size:=by
 unfold World.cell? at h
 split at h
 ·rename_i hb
  split at h
  ·cases h
  ·rename_i hs
   refine⟨by simpa using hs,?_⟩
   exact(Array.getElem?_eq_some_iff.1 hb).1
 ·cases h
theorem jzn {P:Program}{t e:TypeId}{α:Type}[Inhabited α]{cells:α->List PVal}{enc:α->PVal}{ok:α->Prop}{bulk:α->Nat}{sz:Nat}(ht:P.underlying t=some (.slice e))(hs:P.cellsOf e=sz)(hsz:0<sz)
 (hc:∀a,(cells a).length=sz) (he:∀a,(enc a).cells=cells a) (R:Rep P e cells ok bulk):
 Rep P t (fun l:List α=>[encL sz enc l]) (fun l=>∀a∈l,ok a) (fun l=>(l.map bulk).sum+1):=by
 intro H ench w fuel cs x h
 rcases DataW.trod_slice ht h with⟨rfl,rfl⟩|⟨a,len,cap,elems,rest,n,_,rfl,rfl,hb,hl,hm,hlen,hel,hsp,hns⟩
 ·exact⟨[],CRel.one rfl .nil,by simp,by simp[Rows.uptoBulk]⟩
 ·
  have key:∀k,k≤len->∃l:List α,l.length=k/\(∀a∈l,ok a)/\(l.map bulk).sum≤((elems.take k).map (fun x=>Rows.uptoBulk x.1)).sum/\
   ∀i,i<k->∃cs',w.cells? 0 (a.add (i * sz)) sz=some cs'/\CRel w cs' (cells (l.getD i default)):=by
   intro k
   induction k with
   |zero=>intro _;exact⟨[],rfl,by simp,by simp,by omega⟩
   |succ k ih=>
    intro hk
    obtain⟨l,h1,h2,h3,h4⟩:=ih (by omega)
    have h5:=hel k (by omega)
    have hk':k<elems.length:=by omega
    rw[List.getElem?_eq_getElem hk',Option.bind_eq_some_iff,hs]at h5
    obtain⟨cs',q1,q2⟩:=h5
    obtain⟨y,r1,r2,r3⟩:=R H ench w n cs' _ q2
    refine⟨l++[y],by simp[h1],?_,?_,fun i hi=>?_⟩
    ·intro b hb
     rcases List.mem_append.1 hb with hb|hb
     ·exact h2 b hb
     ·simp at hb;subst hb;exact r2
    ·rw[List.take_add_one,List.getElem?_eq_getElem hk']
     simp only[List.map_append,List.sum_append,List.map_cons,List.map_nil,Option.toList_some,List.sum_cons,List.sum_nil]
     omega
    ·by_cases e1:i<k
     ·obtain⟨c1,g1,g2⟩:=h4 i e1
      exact⟨c1,g1,by rw[getD_left (by omega)];exact g2⟩
     ·obtain rfl:i=k:=by omega
      exact⟨cs',q1,by rw[getD_right (by omega),h1];simpa using r1⟩
  obtain⟨l,h1,h2,h3,h4⟩:=key len (Nat.le_refl _)
  refine⟨l,CRel.one rfl ?_,h2,?_⟩
  ·by_cases h0:len=0
   ·subst h0
    obtain rfl:l=[]:=List.eq_nil_of_length_eq_zero h1
    exact .emp hm
   ·
    have hsp0:a.spot=none/\a.block<w.heap.size:=by
     obtain⟨c1,g1,g2⟩:=h4 0 (by omega)
     obtain⟨g3,g4⟩:=Yza g1
     have hlt:0<c1.length:=by omega
     have:=g4 0 _ (List.getElem?_eq_getElem hlt)
     simp only[Nat.zero_mul]at this
     have:=az4x this
     simpa[Addr.add]using this
    obtain⟨b,off,spot⟩:=a
    simp only at hsp0
    obtain⟨rfl,hbk⟩:=hsp0
    have hcell:∀i j p,i<len->(enc (l.getD i default)).cells[j]?=some p->∃v,w.cell? ⟨b,off+(i * sz+j),none⟩=some v/\v.oneCell'=true/\PRel (oldF w) w p v:=by
     intro i j p hi hp
     rw[he]at hp
     obtain⟨c1,g1,g2⟩:=h4 i hi
     obtain⟨g3,g4⟩:=Yza g1
     have hj:j<sz:=by have:=(List.getElem?_eq_some_iff.1 hp).1;rw[hc]at this;exact this
     have hjc:j<c1.length:=by omega
     have q:=g4 j _ (List.getElem?_eq_getElem hjc)
     obtain⟨r1,r2⟩:=g2.2 j p _ hp (List.getElem?_eq_getElem hjc)
     refine⟨_,?_,r1,r2⟩
     rw[ezl,ezl,Nat.add_assoc]at q;exact q
    let c:Nat->Value:=fun q=>(w.cell? ⟨b,off+q,none⟩).getD undef
    have hlen2:len=l.length:=h1.symm
    have hv:Value.slice (some ⟨b,off,none⟩) len cap=.slice (some ⟨b,off,none⟩) l.length cap:=by rw[hlen2]
    rw[hv]
    refine .sl c (by omega) hm (fun i hi=>by show(enc _).cells.length=sz;rw[he,hc]) (fun i j p hi hp=>?_) (fun i j p hi hp=>?_)
    ·obtain⟨v,g1,g2,g3⟩:=hcell i j p (by omega) hp
     exact⟨hbk,by simp[c,g1],by simp[c,g1,g2]⟩
    ·obtain⟨v,g1,g2,g3⟩:=hcell i j p (by omega) hp
     simpa[c,g1]using g3
  ·simp only[Rows.uptoBulk,az06]
   have:(elems.take len)=elems:=List.take_of_length_le (by omega)
   rw[this]at h3
   omega
def RepF (P:Program)(fs:List (TypeId×Nat))(off:Nat){α:Type}(cells:α->List PVal)(ok:α->Prop)(bulk:α->Nat):Prop:=
 ∀ (H:Type) (enc:TypeId×Value->H) (w:World) (n:Nat) (cs:List Value) (xs:List (DataW H×List MemPlace)),
   xs.length=fs.length->cs.length=off+(fs.map (fun f=>P.cellsOf f.1)).sum->
   (∀ (i:Nat) (f:TypeId×Nat),fs[i]?=some f->DataW.trod enc P w 0 (fun _=>true) true n f.1 ((cs.drop f.2).take (P.cellsOf f.1))=xs[i]?)->
   ∃a:α,CRel w (cs.drop off) (cells a)/\ok a/\bulk a≤Rows.uptoBulkAll (xs.map (·.1))
theorem RepF.nil {P:Program}{off:Nat}:RepF P [] off (fun _:Unit=>[]) (fun _=>True) (fun _=>0):=by
 intro H enc w n cs xs h1 h2 h3
 refine⟨(),?_,trivial,Nat.zero_le _⟩
 have:cs.drop off=[]:=List.drop_eq_nil_of_le (by simp at h2;omega)
 rw[this];exact CRel.nil
theorem RepF.cons {P:Program}{t:TypeId}{off sz:Nat}{fs:List (TypeId×Nat)}{α β:Type}{c1:α->List PVal}{c2:β->List PVal}{ok1:α->Prop}{ok2:β->Prop}{b1:α->Nat}{b2:β->Nat}
 (h1:Rep P t c1 ok1 b1) (hs:P.cellsOf t=sz) (h2:RepF P fs (off+sz) c2 ok2 b2):
 RepF P ((t,off)::fs) off (fun a:α×β=>c1 a.1++c2 a.2) (fun a=>ok1 a.1/\ok2 a.2) (fun a=>b1 a.1+b2 a.2):=by
 intro H enc w n cs xs l1 l2 l3
 cases xs with
 |nil=>simp at l1
 |cons x xs=>
  have q:=l3 0 (t,off) (by simp)
  simp only[List.getElem?_cons_zero,hs]at q
  obtain⟨a,r1,r2,r3⟩:=h1 H enc w n _ x q
  simp only[List.map_cons,List.sum_cons,hs]at l2
  obtain⟨b,s1,s2,s3⟩:=h2 H enc w n cs xs (by simpa using l1) (by omega) (fun i f hf=>by simpa using l3 (i+1) f (by simpa using hf))
  refine⟨(a,b),?_,⟨r2,s2⟩,?_⟩
  ·have:cs.drop off=(cs.drop off).take sz++cs.drop (off+sz):=by
    rw[←List.drop_drop,List.take_append_drop]
   rw[this];exact r1.app s1
  ·simp only[List.map_cons,Rows.uptoBulkAll];omega
def fieldsOf (P:Program)(t:TypeId):Array Field:=
 match P.underlying t with
 |some (.struct fs)=>fs
 |_=>#[]
theorem fze {P:Program}{t:TypeId}{fs:List (TypeId×Nat)}{α:Type}{cells:α->List PVal}{ok:α->Prop}{bulk:α->Nat}(ht:P.underlying t=some (.struct (fieldsOf P t)))
 (hf:(fieldsOf P t).toList.map (fun f=>(f.type,f.offset))=fs) (hc:P.cellsOf t=(fs.map (fun f=>P.cellsOf f.1)).sum) (h:RepF P fs 0 cells ok bulk):Rep P t cells ok (fun a=>bulk a+1):=by
 intro H enc w fuel cs x hx
 obtain⟨xs,n,_,rfl,h1,h2,h3⟩:=DataW.trod_struct ht hx
 obtain⟨a,r1,r2,r3⟩:=h H enc w n cs xs (by rw[h2,←hf];simp) (by rw[h1,hc];simp) (fun i f hi=>by
  rw[←hf,List.getElem?_map,Option.map_eq_some_iff]at hi
  obtain⟨g,hg,rfl⟩:=hi
  exact h3 i g (by simpa using hg))
 exact⟨a,by simpa using r1,r2,by simp only[Rows.uptoBulk];omega⟩
theorem az7f {P:Program}{t e:TypeId}{n sz:Nat}{fs:List (TypeId×Nat)}{α:Type}{cells:α->List PVal}{ok:α->Prop}{bulk:α->Nat}(ht:P.underlying t=some (.array n e))(hs:P.cellsOf e=sz)
 (hf:(List.range n).map (fun i=>(e,i * sz))=fs) (hc:P.cellsOf t=(fs.map (fun f=>P.cellsOf f.1)).sum) (h:RepF P fs 0 cells ok bulk):Rep P t cells ok (fun a=>bulk a+1):=by
 intro H enc w fuel cs x hx
 obtain⟨xs,m,_,rfl,h1,h2,h3⟩:=DataW.trod_array ht hx
 obtain⟨a,r1,r2,r3⟩:=h H enc w m cs xs (by rw[h2,←hf];simp) (by rw[h1,hc];simp) (fun i f hi=>by
  rw[←hf,List.getElem?_map,Option.map_eq_some_iff]at hi
  obtain⟨g,hg,rfl⟩:=hi
  have hlt:i<n:=by have:=(List.getElem?_eq_some_iff.1 hg).1;simpa using this
  simp[hlt]at hg;subst hg
  rw[←hs];exact h3 i hlt)
 exact⟨a,by simpa using r1,r2,by simp only[Rows.uptoBulk];omega⟩
theorem Rep.map {P:Program}{t:TypeId}{α β:Type}{c1:α->List PVal}{c2:β->List PVal}{ok1:α->Prop}{ok2:β->Prop}{b1:α->Nat}{b2:β->Nat}(h:Rep P t c1 ok1 b1)(g:α->β)
 (hc:∀a,c2 (g a)=c1 a) (ho:∀a,ok1 a->ok2 (g a)) (hb:∀a,b2 (g a)≤b1 a):Rep P t c2 ok2 b2:=by
 intro H enc w fuel cs x hx
 obtain⟨a,r1,r2,r3⟩:=h H enc w fuel cs x hx
 exact⟨g a,by rw[hc];exact r1,ho a r2,Nat.le_trans (hb a) r3⟩
def az2s (P:Program)(t:TypeId):Bool:=
 match P.underlying t with
 |some (.struct _)=>true
 |some (.array _ _)=>true
 |_=>false
theorem az01 {P:Program}{w:World}{base:Nat}{t:TypeId}{v:Value}{ps:List PVal}(hv:Value.okWide P w .any base t v)(ha:az2s P t=true)(h:CRel w v.cells.toList ps):PRel (oldF w) w (.agg ps) v:=by
 have:∃cs,v=.agg cs:=by
  unfold Value.okWide at hv
  unfold az2s at ha
  split at ha
  ·rename_i hu;rw[hu]at hv;obtain⟨cs,h1,_⟩:=hv;exact⟨cs,h1⟩
  ·rename_i hu;rw[hu]at hv;obtain⟨cs,h1,_⟩:=hv;exact⟨cs,h1⟩
  ·cases ha
 obtain⟨cs,rfl⟩:=this
 exact .agg (by rw[←h.1];simp[Value.cells]) fun j p u hp hu=>(h.2 j p u hp (by simpa[Value.cells]using hu)).2
theorem Vzl {P:Program}{w:World}{base:Nat}{t:TypeId}{v:Value}{p:PVal}(hv:Value.okWide P w .any base t v)(ha:az2s P t=false)(h:CRel w v.cells.toList [p]):PRel (oldF w) w p v:=by
 have hc:v.cells=#[v]:=by
  unfold Value.okWide at hv
  unfold az2s at ha
  split at ha
  ·cases ha
  ·cases ha
  ·rename_i q1 q2
   split at hv
   ·rename_i hu;exact absurd hu (q1 _)
   ·rename_i hu;exact absurd hu (q2 _ _)
   ·unfold Cell.okWide at hv
    split at hv<;>try rfl
    unfold Cell.ok at hv
    split at hv<;>first|rfl|exact hv.elim
 rw[hc]at h
 exact(h.2 0 p v (by simp) (by simp)).2
theorem az4m {F:Cells}{w:World}{ρ:Env}:Ezj F w ρ [] #[]:=⟨rfl,by simp⟩
theorem mzo {F:Cells}{w:World}{ρ:Env}{p:PVal}{v:Value}{l:List AVal}{vs:List Value}(h:PRel F w p v)(hr:Ezj F w ρ l vs.toArray):Ezj F w ρ (.pure p::l) (v::vs).toArray:=by
 refine⟨by have:=hr.1;simp at this⊢;omega,fun j a u ha hu=>?_⟩
 cases j with
 |zero=>simp at ha hu;subst ha;subst hu;exact .pure h
 |succ j=>exact hr.2 j a u (by simpa using ha) (by simpa using hu)
theorem az2a {H:Type}{enc:TypeId×Value->H}{P:Program}{W W':World}:∀ {ts:List TypeId} {vs:List Value} {ds:List (DataW H)} {ps:List MemPlace},DataW.TrodAll enc P W 0 (fun _=>true) true ts vs ds ps->(∀x∈ps,W.sameAt W' x)->DataW.TrodAll enc P W' 0 (fun _=>true) true ts vs ds ps
 |[],[],[],ps,h,_=>h
 |t::ts,v::vs,d::ds,ps,h,hs=>by
  obtain⟨p,q,⟨fuel,h1⟩,h2,rfl⟩:=h
  exact⟨p,q,⟨fuel,DataW.trod_carry fuel t _ _ h1 (fun x hx=>hs x (List.mem_append.2 (.inl hx)))⟩,az2a h2 (fun x hx=>hs x (List.mem_append.2 (.inr hx))),rfl⟩
theorem Yzu {P:Program}{f:FuncId}{fn:Func}{k:Nat}{avs:List AVal}{H:Type}{enc:TypeId×Value->H}{s:ChangeSpec}{W:World}{args:Array Value}{ds gs:List (DataW H)}{before:List MemPlace}{bt:TypeId}
 (hspec:Spec P f k avs [] (.pure (.bool true)) []) (htab:TabOk (oldF W) W) (hrel:∀ρ:Env,Ezj (oldF W) W ρ avs args)
 (hW:DataW.Whole enc P fn.params.toList s.vars false W args.toList ds gs before) (hvars:s.vars=[]) (hs:s.fn H ds={results:=[.lit (.bool true)],args:=ds})
 (hl:laidOutB P=true) (hm:mapsRowed P=true) (hz:∀t e,t<P.types.size->P.underlying t=some (.slice e)->0<P.cellsOf e) (hts:∀t∈fn.params.toList,t<P.types.size)
 (hrt:fn.resultTypes=#[bt]) (hbt:P.underlying bt=some .bool):
 Calls P f args W fun e W'=>∃v,e=.returned v/\s.post enc P fn false true false false W args v W':=by
 have hg:Good (oldF W) W (fun b=>W.heap.size≤b):=⟨fun b o h=>h,fun b h=>h,htab⟩
 have hm0:MemOk (oldF W) W ⟨fun _=>0,fun _=>none⟩ (fun b=>W.heap.size≤b) []:=⟨fun id r h=>by simp[Mem.get]at h,fun id r b h=>by simp[Mem.get]at h,fun id id' r r' b h=>by simp[Mem.get]at h⟩
 refine(hspec.calls (oldF W) W ⟨fun _=>0,fun _=>none⟩ (fun b=>W.heap.size≤b) args hm0 hg (hrel _)).mono ?_
 rintro e W' ⟨v,F',ρ',rfl,hst,_,hv,_⟩
 refine⟨v,rfl,?_⟩
 obtain rfl:v=.bool true:=by
  have:=hv.pure_inv
  cases this;rfl
 have hblk:∀i,i<W.heap.size->W'.heap[i]?=W.heap[i]?:=fun i hi=>hst.keep.block i hi (by omega)
 have hgs:gs=[]/\∀q,DataW.TrodVars enc P W (fun _=>true) s.vars gs q->q=[]:=by
  obtain⟨p,q,_,hV,_,_,_⟩:=hW
  rw[hvars]at hV
  cases gs with
  |nil=>exact⟨rfl,fun q hq=>by rw[hvars]at hq;simpa[DataW.TrodVars]using hq⟩
  |cons _ _=>simp[DataW.TrodVars]at hV
 obtain⟨rfl,hq0⟩:=hgs
 have hW':=hW
 obtain⟨p,q,hA,hV,rfl,hfz,hnd⟩:=hW
 obtain rfl:=hq0 q hV
 have hsame:∀x∈p,W.sameAt W' x:=by
  intro x hx
  have hlt:=hA.lt x hx
  cases x with
  |cell b off=>
   simp only[MemPlace.block]at hlt
   simp only[World.sameAt,World.cell?,hblk b hlt]
  |map b=>
   simp only[MemPlace.block]at hlt
   simp only[World.sameAt,hblk b hlt]
 have hA':∀sp:Nat->Bool,(∀x∈p,sp x.block=true)->DataW.TrodAll enc P W' 0 sp true fn.params.toList args.toList ds p:=by
  intro sp hsp
  refine DataW.TrodAll.respare (kids_rows hl hm) hz hts ?_ hsp
  exact az2a hA hsame
 have hv':∀sp:Nat->Bool,DataW.TrodVars enc P W' sp s.vars ({results:=[.lit (.bool true)],args:=ds}:Left H).vars []:=by intro sp;rw[hvars];rfl
 have hres:∀ (b:Nat) (sp:Nat->Bool) (hd:Bool),DataW.TrodAll enc P W' b sp hd fn.resultTypes.toList ((Value.bool true).resultList fn.resultTypes.size) [.lit (.bool true)] []:=by
  intro b sp hd
  rw[hrt]
  exact trodAll_cons_mk (shut_bool hbt _) trodAll_mk0
 have hold:∀x∈p,(fun b=>decide (b<W.heap.size)) x.block=true:=fun x hx=>by simpa using hA.lt x hx
 have hk:W.keptBut W' (·∈p):=by
  refine⟨hst.keep.os,hst.keep.output,fun i hi=>?_⟩
  rw[hblk i hi]
  cases W.heap[i]? with
  |none=>rfl
  |some o=>cases o<;>first|exact⟨rfl,rfl,rfl,fun _ _=>rfl⟩|exact .inr ⟨rfl,rfl⟩|rfl
 simp only[List.append_nil]at hW'
 have hs':s.fn H (ds++[])={results:=[.lit (.bool true)],args:=ds}:=by rw[List.append_nil];exact hs
 refine⟨ds,[],p,[],p,[],hW',by rw[hs'];exact hres _ _ _,by rw[hs'];exact hA' _ hold,by rw[hs'];exact hv' _,World.keptBut_mono (fun x hx=>⟨hx,.inr (.inl hx)⟩) hk,fun _=>?_⟩
 refine⟨?_,_,_,([]++p)++[],⟨[]++p,[],trodAll_append (hA' _ (fun _ _=>rfl)) (hres _ _ _),hv' _,rfl,?_,?_⟩,?_⟩
 ·intro j t r h1 h2
  rw[hrt]at h1 h2
  cases j with
  |zero=>simp at h1;subst h1;simp[Value.resultList]at h2;subst h2;exact okWide_bool_mk hbt _
  |succ j=>simp at h1
 ·intro b off hp
  have hp':MemPlace.cell b off∈p:=by simpa using hp
  have hlt:=hA.lt _ hp'
  simp only[MemPlace.block]at hlt
  have:=hfz b off (by simpa using hp)
  simpa only[World.frozen?,hblk b hlt]using this
 ·intro ha;cases ha
 ·intro x hx _
  simpa using hx
end Go.Abs
