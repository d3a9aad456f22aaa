import Derived.Test.YtnfbbidmdkfilaaGreatDoorZDTBase
import Derived.Test.YtnfbbidmdkfilaaGreatDoorRows
import Derived.ProofKit
import Derived.OpenShut
import Derived.JoinedCond
import Derived.ReadAgain
import Derived.ChangeReads
import Derived.ChangeStays
import Derived.RowKit3
open Go renaming TypeId->qq,Value->qr,World->qn,Program->qo
open List renaming mapM_cons->xS,getElem?_eq_some_iff->zt,getElem?_eq_getElem->wZ,mem_append->wW,getElem?_map->zy,append_nil->wL
open Option renaming bind_eq_bind->zX,bind_eq_some_iff->x7,pure_def->zY,map_eq_some_iff->x9
namespace Go.Abs
open Go.Proofs Go.Proofs.YtnfbbidmdkfilaaGreatDoor Go.ChangeShapes Go.WideShapes Go.ChangeAt Go.RowKit
def oldF (w:qn):Cells:=λb _=>b<w.heap.size
def CRel (w:qn)(cs:List qr)(ps:List PVal):Prop:=
 cs.length=ps.length/\∀ (j:Nat) (p:PVal) (v:qr),ps[j]?=some p->cs[j]?=some v->v.oneCell'=true/\PRel (oldF w) w p v
def Rep (P:qo)(t:qq){α:Type}(cells:α->List PVal)(ok:α->Prop)(bulk:α->Nat):Prop:=
 ∀ (H:Type) (enc:qq×qr->H) (w:qn) (fuel:Nat) (cs:List qr) (x:DataW H×List MemPlace),
   DataW.trod enc P w 0 (λ_=>true) true fuel t cs=some x->∃a:α,CRel w cs (cells a)/\ok a/\bulk a<=Rows.uptoBulk x.1
theorem CRel.one {w:qn}{v:qr}{p:PVal}(h1:v.oneCell'=true)(h2:PRel (oldF w) w p v):CRel w [v] [p]:=by
 refine⟨rfl,λj q u hq hu=>?_⟩;cases j with
 |zero=>simp at hq hu;subst hq;subst hu;exact⟨h1,h2⟩
 |succ j=>simp at hq
theorem aze6 {P:qo}{t:qq}{k:IntKind}(ht:P.underlying t=some (.int k)):Rep P t (λn:Int=>[.int k n]) (λn=>(Lit.int k n).wf=true) (λ_=>1):=by
 intro H enc w fuel cs x h;obtain⟨n,rfl,rfl,hw⟩:=DataW.trod_int ht h;exact⟨n,CRel.one rfl .int,hw,by simp[Rows.uptoBulk]⟩
theorem az9g {P:qo}{t:qq}(ht:P.underlying t=some .string):Rep P t (λb:ByteArray=>[.str b]) (λ_=>True) (λb=>b.size+1):=by
 intro H enc w fuel cs x h;obtain⟨n,rfl,rfl,hw⟩:=DataW.trod_string ht h;exact⟨n,CRel.one rfl .str,trivial,by simp only[Rows.uptoBulk];rw[Array.length_toList];exact Nat.le_refl _⟩
theorem az43 {H:Type}(l:List (DataW H×List MemPlace)):Rows.uptoBulkAll (l.map (·.1))=(l.map (λx=>Rows.uptoBulk x.1)).sum:=by
 induction l with
 |nil=>simp[Rows.uptoBulkAll]
 |cons a l ih=>simp[Rows.uptoBulkAll,ih]
theorem Cz2 {α β:Type}{f:α->Option β}:∀ {l:List α} {r:List β},l.mapM f=some r->r.length=l.length
 |[],r,h=>by simp at h;subst h;rfl
 |a::l,r,h=>by
  simp only[xS,zX,x7,zY,Option.some.injEq]at h;obtain⟨y,_,ys,hys,rfl⟩:=h;simp[Cz2 hys]
theorem Kz8 {α β:Type}{f:α->Option β}:∀ {l:List α} {r:List β},l.mapM f=some r->∀ {i:Nat} {y:β},r[i]?=some y->∃x,l[i]?=some x/\f x=some y
 |[],r,h,i,y,hy=>by simp at h;subst h;simp at hy
 |a::l,r,h,i,y,hy=>by
  simp only[xS,zX,x7,zY,Option.some.injEq]at h;obtain⟨z,hz,ys,hys,rfl⟩:=h;cases i with
  |zero=>simp at hy;subst hy;exact⟨a,jq,hz⟩
  |succ i=>obtain⟨x,hx,hf⟩:=Kz8 hys (i:=i) (by simpa using hy);exact⟨x,by simpa using hx,hf⟩
theorem az1q {w:qn}{b:Nat}{a:Addr}{n:Nat}{cs:List qr}(h:w.cells? b a n=some cs):cs.length=n/\∀j v,cs[j]?=some v->w.cell? (a.add j)=some v:=by
 unfold World.cells? at h;split at h
 ·have h1:=Cz2 h;refine⟨by simpa using h1,λj v hv=>?_⟩;have:=Kz8 h (i:=j) (y:=v) hv;obtain⟨x,hx,hf⟩:=this;have hj:j<n:=by have:=(zt.1 hx).1;simpa using this
  simp[hj]at hx;subst hx;exact hf
 ·cases h
theorem azab {w:qn}{a:Addr}{v:qr}(h:w.cell? a=some v):a.spot=none/\a.block<w.heap.size:=by
 unfold World.cell? at h;split at h
 ·rename_i hb;split at h
  ·cases h
  ·rename_i hs;refine⟨by simpa using hs,?_⟩;exact(Array.getElem?_eq_some_iff.1 hb).1
 ·cases h
theorem fzv {P:qo}{t e:qq}{α:Type}[Inhabited α]{cells:α->List PVal}{enc:α->PVal}{ok:α->Prop}{bulk:α->Nat}{sz:Nat}(ht:P.underlying t=some (.slice e))(hs:P.cellsOf e=sz)(hsz:0<sz)
 (hc:∀a,(cells a).length=sz) (he:∀a,(enc a).cells=cells a) (R:Rep P e cells ok bulk):
 Rep P t (λl:List α=>[encL sz enc l]) (λl=>∀a∈l,ok a) (λl=>(l.map bulk).sum+1):=by
 intro H ench w fuel cs x h;rcases DataW.trod_slice ht h with⟨rfl,rfl⟩|⟨a,len,cap,elems,rest,n,_,rfl,rfl,hb,hl,hm,hlen,hel,hsp,hns⟩
 ·exact⟨[],CRel.one rfl .nil,jq,by simp[Rows.uptoBulk]⟩
 ·
  have key:∀k,k<=len->∃l:List α,l.length=k/\(∀a∈l,ok a)/\(l.map bulk).sum<=((elems.take k).map (λx=>Rows.uptoBulk x.1)).sum/\
   ∀i,i<k->∃cs',w.cells? 0 (a.add (i * sz)) sz=some cs'/\CRel w cs' (cells (l.getD i default)):=by
   intro k;induction k with
   |zero=>intro _;exact⟨[],rfl,jq,jq,qa⟩
   |succ k ih=>
    intro hk;obtain⟨l,h1,h2,h3,h4⟩:=ih qa;have h5:=hel k qa;have hk':k<elems.length:=qa
    rw[wZ hk',x7,hs]at h5;obtain⟨cs',q1,q2⟩:=h5;obtain⟨y,r1,r2,r3⟩:=R H ench w n cs' _ q2;refine⟨l++[y],by simp[h1],?_,?_,λi hi=>?_⟩
    ·intro b hb;rcases wW.1 hb with hb|hb
     ·exact h2 b hb
     ·simp at hb;subst hb;exact r2
    ·rw[List.take_add_one,wZ hk'];simp only[List.map_append,List.sum_append,List.map_cons,List.map_nil,Option.toList_some,List.sum_cons,List.sum_nil];omega
    ·by_cases e1:i<k
     ·obtain⟨c1,g1,g2⟩:=h4 i e1;exact⟨c1,g1,by rw[getD_left qa];exact g2⟩
     ·obtain rfl:i=k:=qa
      exact⟨cs',q1,by rw[getD_right qa,h1];simpa using r1⟩
  obtain⟨l,h1,h2,h3,h4⟩:=key len (Nat.le_refl _);refine⟨l,CRel.one rfl ?_,h2,?_⟩
  ·by_cases h0:len=0
   ·subst h0;obtain rfl:l=[]:=List.eq_nil_of_length_eq_zero h1;exact .emp hm
   ·
    have hsp0:a.spot=none/\a.block<w.heap.size:=by
     obtain⟨c1,g1,g2⟩:=h4 0 qa;obtain⟨g3,g4⟩:=az1q g1;have hlt:0<c1.length:=qa
     have:=g4 0 _ (wZ hlt);simp only[Nat.zero_mul]at this;have:=azab this;simpa[Addr.add]using this
    obtain⟨b,off,spot⟩:=a;simp only at hsp0;obtain⟨rfl,hbk⟩:=hsp0;have hcell:∀i j p,i<len->(enc (l.getD i default)).cells[j]?=some p->∃v,w.cell? ⟨b,off+(i * sz+j),none⟩=some v/\v.oneCell'=true/\PRel (oldF w) w p v:=by
     intro i j p hi hp;rw[he]at hp;obtain⟨c1,g1,g2⟩:=h4 i hi;obtain⟨g3,g4⟩:=az1q g1;have hj:j<sz:=by have:=(zt.1 hp).1;rw[hc]at this;exact this
     have hjc:j<c1.length:=qa
     have q:=g4 j _ (wZ hjc);obtain⟨r1,r2⟩:=g2.2 j p _ hp (wZ hjc);refine⟨_,?_,r1,r2⟩;rw[eze,eze,Nat.add_assoc]at q;exact q
    let c:Nat->qr:=λq=>(w.cell? ⟨b,off+q,none⟩).getD undef
    have hlen2:len=l.length:=h1.symm;have hv:Value.slice (some ⟨b,off,none⟩) len cap=.slice (some ⟨b,off,none⟩) l.length cap:=by rw[hlen2]
    rw[hv];refine .sl c qa hm (λi hi=>by show(enc _).cells.length=sz;rw[he,hc]) (λi j p hi hp=>?_) (λi j p hi hp=>?_)
    ·obtain⟨v,g1,g2,g3⟩:=hcell i j p qa hp;exact⟨hbk,by simp[c,g1],by simp[c,g1,g2]⟩
    ·obtain⟨v,g1,g2,g3⟩:=hcell i j p qa hp;simpa[c,g1]using g3
  ·simp only[Rows.uptoBulk,az43];have:(elems.take len)=elems:=List.take_of_length_le qa;rw[this]at h3;omega
def RepF (P:qo)(fs:List (qq×Nat))(off:Nat){α:Type}(cells:α->List PVal)(ok:α->Prop)(bulk:α->Nat):Prop:=
 ∀ (H:Type) (enc:qq×qr->H) (w:qn) (n:Nat) (cs:List qr) (xs:List (DataW H×List MemPlace)),
   xs.length=fs.length->cs.length=off+(fs.map (λf=>P.cellsOf f.1)).sum->
   (∀ (i:Nat) (f:qq×Nat),fs[i]?=some f->DataW.trod enc P w 0 (λ_=>true) true n f.1 ((cs.drop f.2).take (P.cellsOf f.1))=xs[i]?)->
   ∃a:α,CRel w (cs.drop off) (cells a)/\ok a/\bulk a<=Rows.uptoBulkAll (xs.map (·.1))
theorem CRel.nil {w : World} : CRel w [] [] := ⟨rfl, by simp⟩
theorem CRel.app {w : World} {cs cs' : List Value} {ps ps' : List PVal} (h1 : CRel w cs ps) (h2 : CRel w cs' ps') : CRel w (cs ++ cs') (ps ++ ps') := by
  refine ⟨by simp [h1.1, h2.1], fun j p v hp hv => ?_⟩
  by_cases hj : j < ps.length
  · rw [List.getElem?_append_left hj] at hp
    rw [List.getElem?_append_left (by rw [h1.1]; exact hj)] at hv
    exact h1.2 j p v hp hv
  · rw [List.getElem?_append_right (by omega)] at hp
    rw [List.getElem?_append_right (by rw [h1.1]; omega), h1.1] at hv
    exact h2.2 _ p v hp hv
theorem RepF.nil {P : Program} {off : Nat} : RepF P [] off (fun _ : Unit => []) (fun _ => True) (fun _ => 0) := by
  intro H enc w n cs xs h1 h2 h3
  refine ⟨(), ?_, trivial, Nat.zero_le _⟩
  have : cs.drop off = [] := List.drop_eq_nil_of_le (by simp at h2; omega)
  rw [this]; exact CRel.nil
theorem RepF.cons {P : Program} {t : TypeId} {off sz : Nat} {fs : List (TypeId × Nat)} {α β : Type} {c1 : α → List PVal} {c2 : β → List PVal} {ok1 : α → Prop} {ok2 : β → Prop} {b1 : α → Nat} {b2 : β → Nat}
    (h1 : Rep P t c1 ok1 b1) (hs : P.cellsOf t = sz) (h2 : RepF P fs (off + sz) c2 ok2 b2) :
    RepF P ((t, off) :: fs) off (fun a : α × β => c1 a.1 ++ c2 a.2) (fun a => ok1 a.1 ∧ ok2 a.2) (fun a => b1 a.1 + b2 a.2) := by
  intro H enc w n cs xs l1 l2 l3
  cases xs with
  | nil => simp at l1
  | cons x xs =>
    have q := l3 0 (t, off) (by simp)
    simp only [List.getElem?_cons_zero, hs] at q
    obtain ⟨a, r1, r2, r3⟩ := h1 H enc w n _ x q
    simp only [List.map_cons, List.sum_cons, hs] at l2
    obtain ⟨b, s1, s2, s3⟩ := h2 H enc w n cs xs (by simpa using l1) (by omega) (fun i f hf => by simpa using l3 (i + 1) f (by simpa using hf))
    refine ⟨(a, b), ?_, ⟨r2, s2⟩, ?_⟩
    · have : cs.drop off = (cs.drop off).take sz ++ cs.drop (off + sz) := by
        rw [← List.drop_drop, List.take_append_drop]
      rw [this]; exact r1.app s1
    · simp only [List.map_cons, Rows.uptoBulkAll]; omega
theorem Rep.map {P : Program} {t : TypeId} {α β : Type} {c1 : α → List PVal} {c2 : β → List PVal} {ok1 : α → Prop} {ok2 : β → Prop} {b1 : α → Nat} {b2 : β → Nat} (h : Rep P t c1 ok1 b1) (g : α → β)
    (hc : ∀ a, c2 (g a) = c1 a) (ho : ∀ a, ok1 a → ok2 (g a)) (hb : ∀ a, b2 (g a) ≤ b1 a) : Rep P t c2 ok2 b2 := by
  intro H enc w fuel cs x hx
  obtain ⟨a, r1, r2, r3⟩ := h H enc w fuel cs x hx
  exact ⟨g a, by rw [hc]; exact r1, ho a r2, Nat.le_trans (hb a) r3⟩
def fieldsOf (P:qo)(t:qq):Array Field:=
 match P.underlying t with
 |some (.struct fs)=>fs
 |_=>#[]
theorem ez0 {P:qo}{t:qq}{fs:List (qq×Nat)}{α:Type}{cells:α->List PVal}{ok:α->Prop}{bulk:α->Nat}(ht:P.underlying t=some (.struct (fieldsOf P t)))
 (hf:(fieldsOf P t).toList.map (λf=>(f.type,f.offset))=fs) (hc:P.cellsOf t=(fs.map (λf=>P.cellsOf f.1)).sum) (h:RepF P fs 0 cells ok bulk):Rep P t cells ok (λa=>bulk a+1):=by
 intro H enc w fuel cs x hx;obtain⟨xs,n,_,rfl,h1,h2,h3⟩:=DataW.trod_struct ht hx;obtain⟨a,r1,r2,r3⟩:=h H enc w n cs xs (by rw[h2,<-hf];simp) (by rw[h1,hc];simp) (λi f hi=>by
  rw[<-hf,zy,x9]at hi;obtain⟨g,hg,rfl⟩:=hi;exact h3 i g (by simpa using hg))
 exact⟨a,by simpa using r1,r2,by simp only[Rows.uptoBulk];omega⟩
theorem aze5 {P:qo}{t e:qq}{n sz:Nat}{fs:List (qq×Nat)}{α:Type}{cells:α->List PVal}{ok:α->Prop}{bulk:α->Nat}(ht:P.underlying t=some (.array n e))(hs:P.cellsOf e=sz)
 (hf:(List.range n).map (λi=>(e,i * sz))=fs) (hc:P.cellsOf t=(fs.map (λf=>P.cellsOf f.1)).sum) (h:RepF P fs 0 cells ok bulk):Rep P t cells ok (λa=>bulk a+1):=by
 intro H enc w fuel cs x hx;obtain⟨xs,m,_,rfl,h1,h2,h3⟩:=DataW.trod_array ht hx;obtain⟨a,r1,r2,r3⟩:=h H enc w m cs xs (by rw[h2,<-hf];simp) (by rw[h1,hc];simp) (λi f hi=>by
  rw[<-hf,zy,x9]at hi;obtain⟨g,hg,rfl⟩:=hi;have hlt:i<n:=by have:=(zt.1 hg).1;simpa using this
  simp[hlt]at hg;subst hg;rw[<-hs];exact h3 i hlt)
 exact⟨a,by simpa using r1,r2,by simp only[Rows.uptoBulk];omega⟩
def az75 (P:qo)(t:qq):Bool:=
 match P.underlying t with
 |some (.struct _)=>true
 |some (.array _ _)=>true
 |_=>false
theorem az9w {P:qo}{w:qn}{base:Nat}{t:qq}{v:qr}{ps:List PVal}(hv:Value.okWide P w .any base t v)(ha:az75 P t=true)(h:CRel w v.cells.toList ps):PRel (oldF w) w (.agg ps) v:=by
 have:∃cs,v=.agg cs:=by
  unfold Value.okWide at hv;unfold az75 at ha;split at ha
  ·rename_i hu;rw[hu]at hv;obtain⟨cs,h1,_⟩:=hv;exact⟨cs,h1⟩
  ·rename_i hu;rw[hu]at hv;obtain⟨cs,h1,_⟩:=hv;exact⟨cs,h1⟩
  ·cases ha
 obtain⟨cs,rfl⟩:=this;exact .agg (by rw[<-h.1];simp[Value.cells]) λj p u hp hu=>(h.2 j p u hp (by simpa[Value.cells]using hu)).2
theorem vzy {P:qo}{w:qn}{base:Nat}{t:qq}{v:qr}{p:PVal}(hv:Value.okWide P w .any base t v)(ha:az75 P t=false)(h:CRel w v.cells.toList [p]):PRel (oldF w) w p v:=by
 have hc:v.cells=#[v]:=by
  unfold Value.okWide at hv;unfold az75 at ha;split at ha
  ·cases ha
  ·cases ha
  ·rename_i q1 q2;split at hv
   ·rename_i hu;exact absurd hu (q1 _)
   ·rename_i hu;exact absurd hu (q2 _ _)
   ·unfold Cell.okWide at hv;split at hv<;>try rfl
    unfold Cell.ok at hv;split at hv<;>first|rfl|exact hv.elim
 rw[hc]at h;exact(h.2 0 p v jq jq).2
theorem az9z {F:Cells}{w:qn}{ρ:Env}:Hzu F w ρ [] #[]:=⟨rfl,jq⟩
theorem fzp {F:Cells}{w:qn}{ρ:Env}{p:PVal}{v:qr}{l:List AVal}{vs:List qr}(h:PRel F w p v)(hr:Hzu F w ρ l vs.toArray):Hzu F w ρ (.pure p::l) (v::vs).toArray:=by
 refine⟨by have:=hr.1;simp at this⊢;omega,λj a u ha hu=>?_⟩;cases j with
 |zero=>simp at ha hu;subst ha;subst hu;exact .pure h
 |succ j=>exact hr.2 j a u (by simpa using ha) (by simpa using hu)
theorem az6j {H:Type}{enc:qq×qr->H}{P:qo}{W W':qn}:∀ {ts:List qq} {vs:List qr} {ds:List (DataW H)} {ps:List MemPlace},DataW.TrodAll enc P W 0 (λ_=>true) true ts vs ds ps->(∀x∈ps,W.sameAt W' x)->DataW.TrodAll enc P W' 0 (λ_=>true) true ts vs ds ps
 |[],[],[],ps,h,_=>h
 |t::ts,v::vs,d::ds,ps,h,hs=>by
  obtain⟨p,q,⟨fuel,h1⟩,h2,rfl⟩:=h;exact⟨p,q,⟨fuel,DataW.trod_carry fuel t _ _ h1 (λx hx=>hs x (wW.2 (.inl hx)))⟩,az6j h2 (λx hx=>hs x (wW.2 (.inr hx))),rfl⟩
theorem az2i {P:qo}{f:FuncId}{fn:Func}{k:Nat}{avs:List AVal}{H:Type}{enc:qq×qr->H}{s:ChangeSpec}{W:qn}{args:Array qr}{ds gs:List (DataW H)}{before:List MemPlace}{bt:qq}
 (hspec:Spec P f k avs [] (.pure (.bool true)) []) (htab:TabOk (oldF W) W) (hrel:∀ρ:Env,Hzu (oldF W) W ρ avs args)
 (hW:DataW.Whole enc P fn.params.toList s.vars false W args.toList ds gs before) (hvars:s.vars=[]) (hs:s.fn H ds={results:=[.lit (.bool true)],args:=ds})
 (hl:laidOutB P=true) (hm:mapsRowed P=true) (hz:∀t e,t<P.types.size->P.underlying t=some (.slice e)->0<P.cellsOf e) (hts:∀t∈fn.params.toList,t<P.types.size)
 (hrt:fn.resultTypes=#[bt]) (hbt:P.underlying bt=some .bool):
 Calls P f args W λe W'=>∃v,e=.returned v/\s.post enc P fn false true false false W args v W':=by
 have hg:Good (oldF W) W (λb=>W.heap.size<=b):=⟨λb o h=>h,λb h=>h,htab⟩;have hm0:MemOk (oldF W) W ⟨λ_=>0,λ_=>none⟩ (λb=>W.heap.size<=b) []:=⟨λid r h=>by simp[Mem.get]at h,λid r b h=>by simp[Mem.get]at h,λid id' r r' b h=>by simp[Mem.get]at h⟩;refine(hspec.calls (oldF W) W ⟨λ_=>0,λ_=>none⟩ (λb=>W.heap.size<=b) args hm0 hg (hrel _)).mono ?_;rintro e W' ⟨v,F',ρ',rfl,hst,_,hv,_⟩;refine⟨v,rfl,?_⟩;obtain rfl:v=.bool true:=by
  have:=hv.pure_inv;cases this;rfl
 have hblk:∀i,i<W.heap.size->W'.heap[i]?=W.heap[i]?:=λi hi=>hst.keep.block i hi qa
 have hgs:gs=[]/\∀q,DataW.TrodVars enc P W (λ_=>true) s.vars gs q->q=[]:=by
  obtain⟨p,q,_,hV,_,_,_⟩:=hW;rw[hvars]at hV;cases gs with
  |nil=>exact⟨rfl,λq hq=>by rw[hvars]at hq;simpa[DataW.TrodVars]using hq⟩
  |cons _ _=>simp[DataW.TrodVars]at hV
 obtain⟨rfl,hq0⟩:=hgs;have hW':=hW;obtain⟨p,q,hA,hV,rfl,hfz,hnd⟩:=hW;obtain rfl:=hq0 q hV;have hsame:∀x∈p,W.sameAt W' x:=by
  intro x hx;have hlt:=hA.lt x hx;cases x with
  |cell b off=>
   simp only[MemPlace.block]at hlt;simp only[World.sameAt,World.cell?,hblk b hlt]
  |map b=>
   simp only[MemPlace.block]at hlt;simp only[World.sameAt,hblk b hlt]
 have hA':∀sp:Nat->Bool,(∀x∈p,sp x.block=true)->DataW.TrodAll enc P W' 0 sp true fn.params.toList args.toList ds p:=by
  intro sp hsp;refine DataW.TrodAll.respare (kids_rows hl hm) hz hts ?_ hsp;exact az6j hA hsame
 have hv':∀sp:Nat->Bool,DataW.TrodVars enc P W' sp s.vars ({results:=[.lit (.bool true)],args:=ds}:Left H).vars []:=by intro sp;rw[hvars];rfl
 have hres:∀ (b:Nat) (sp:Nat->Bool) (hd:Bool),DataW.TrodAll enc P W' b sp hd fn.resultTypes.toList ((Value.bool true).resultList fn.resultTypes.size) [.lit (.bool true)] []:=by
  intro b sp hd;rw[hrt];exact trodAll_cons_mk (shut_bool hbt _) trodAll_mk0
 have hold:∀x∈p,(λb=>decide (b<W.heap.size)) x.block=true:=λx hx=>by simpa using hA.lt x hx
 have hk:W.keptBut W' (·∈p):=by
  refine⟨hst.keep.os,hst.keep.output,λi hi=>?_⟩;rw[hblk i hi];cases W.heap[i]? with
  |none=>rfl
  |some o=>cases o<;>first|exact⟨rfl,rfl,rfl,λ_ _=>rfl⟩|exact .inr ⟨rfl,rfl⟩|rfl
 simp only[wL]at hW';have hs':s.fn H (ds++[])={results:=[.lit (.bool true)],args:=ds}:=by rw[wL];exact hs
 refine⟨ds,[],p,[],p,[],hW',by rw[hs'];exact hres _ _ _,by rw[hs'];exact hA' _ hold,by rw[hs'];exact hv' _,World.keptBut_mono (λx hx=>⟨hx,.inr (.inl hx)⟩) hk,λ_=>?_⟩;refine⟨?_,_,_,([]++p)++[],⟨[]++p,[],trodAll_append (hA' _ (λ_ _=>rfl)) (hres _ _ _),hv' _,rfl,?_,?_⟩,?_⟩
 ·intro j t r h1 h2;rw[hrt]at h1 h2;cases j with
  |zero=>simp at h1;subst h1;simp[Value.resultList]at h2;subst h2;exact okWide_bool_mk hbt _
  |succ j=>simp at h1
 ·intro b off hp;have hp':MemPlace.cell b off∈p:=by simpa using hp
  have hlt:=hA.lt _ hp';simp only[MemPlace.block]at hlt;have:=hfz b off (by simpa using hp);simpa only[World.frozen?,hblk b hlt]using this
 ·intro ha;cases ha
 ·intro x hx _;simpa using hx
end Go.Abs
