import Derived.Test.YtagmfmidaochlaaGreatDoorZITBase
import Derived.Test.YtagmfmidaochlaaGreatDoorRows
import Derived.ProofKit
import Derived.OpenShut
import Derived.JoinedCond
import Derived.ReadAgain
import Derived.ChangeReads
import Derived.ChangeStays
import Derived.RowKit3
open Bool renaming true->D,false->E
open List renaming length->A
open Option renaming some->B,none->C
open Go renaming TypeId->qp,Value->qq,World->qm,Program->qn
open List renaming mapM_cons->zy,getElem?_eq_some_iff->zZ,getElem?_eq_getElem->w6,map_cons->wY,sum_cons->jD,mem_append->wH,append_nil->xl
open Nat renaming le_trans->zJ
open Option renaming bind_eq_bind->jB,bind_eq_some_iff->zI,pure_def->jC
namespace Go.Abs
open Go.Proofs Go.Proofs.YtagmfmidaochlaaGreatDoor Go.ChangeShapes Go.WideShapes Go.ChangeAt Go.RowKit
def oldF (w:qm):Cells:=λb _=>b<w.heap.size
def CRel (w:qm)(cs:List qq)(a:List ae):Prop:=
 (A cs)=A a/\∀ (j:Nat) (p:ae) (v:qq),a[j]?=B p->cs[j]?=B v->v.oneCell'=D/\aH (oldF w) w p v
def Rep (P:qn)(t:qp){α:Type}(cells:α->List ae)(b:α->Nat):Prop:=
 ∀ (H:Type) (d:qp×qq->H) (w:qm) (c:Nat) (cs:List qq) (x:DataW H×List MemPlace),
   DataW.trod d P w 0 (λ_=>D) D c t cs=B x->∃a:α,CRel w cs (cells a)/\b a<=Rows.uptoBulk x.1
variable {w:qm}
theorem CRel.nil:CRel w [] []:=⟨rfl,jV⟩
variable {p:ae}
theorem CRel.one{w:qm}{v:qq}(c:v.oneCell'=D)(d:aH (oldF w) w p v):CRel w [v] [p]:=by
 refine⟨rfl,λj q u a b=>?_⟩;cases j with
 |zero=>simp at a b;subst a;subst b;exact⟨c,d⟩
 |succ j=>simp at a
theorem CRel.app {w : World} {cs a : List Value} {d c : List ae} (b : CRel w cs d) (e : CRel w a c) : CRel w (cs ++ a) (d ++ c) := by
  refine ⟨by simp [b.1, e.1], fun j p v hp hv => ?_⟩;by_cases f : j < A d
  · rw [List.getElem?_append_left f] at hp
    rw [List.getElem?_append_left (by rw [b.1]; exact f)] at hv;exact b.2 j p v hp hv
  · rw [List.getElem?_append_right (by omega)] at hp
    rw [List.getElem?_append_right (by rw [b.1]; omega), b.1] at hv;exact e.2 _ p v hp hv
structure RB (P:qn) (t:qp) (α:Type) [En α]where
 b:α->Nat
 rep:Rep P t (λa:α=>(En.e a).cells) b
def RB.int {P:qn}{t:qp}(c:P.underlying t=B (.int .i64):=by kernel_rfl):RB P t Int:=⟨λ_=>1,by
 intro H b w a cs x h;obtain⟨n,rfl,rfl,d⟩:=DataW.trod_int c h;exact⟨n,CRel.one rfl .int,by simp[Rows.uptoBulk]⟩⟩
def RB.bool {P:qn}{t:qp}(c:P.underlying t=B .bool:=by kernel_rfl):RB P t Bool:=⟨λ_=>1,by
 intro H b w a cs x h;obtain⟨n,rfl,rfl⟩:=DataW.trod_bool c h;exact⟨n,CRel.one rfl .bool,by simp[Rows.uptoBulk]⟩⟩
theorem abh {H:Type}(l:List (DataW H×List MemPlace)):Rows.uptoBulkAll (l.map (·.1))=(l.map (λx=>Rows.uptoBulk x.1)).sum:=by
 induction l with
 |nil=>simp[Rows.uptoBulkAll]
 |cons a l b=>simp[Rows.uptoBulkAll,b]
theorem MZ {α β:Type}{f:α->Option β}:∀ {l:List α} {r:List β},l.mapM f=B r->A r=A l
 |[],r,h=>by simp at h;subst h;rfl
 |a::l,r,h=>by
  simp only[zy,jB,zI,jC,Option.some.injEq]at h;obtain⟨y,_,c,b,rfl⟩:=h;simp[MZ b]
theorem OI {α β:Type}{f:α->Option β}:∀ {l:List α} {r:List β},l.mapM f=B r->∀ {i:Nat} {y:β},r[i]?=B y->∃x,l[i]?=B x/\f x=B y
 |[],r,h,i,y,b=>by simp at h;subst h;simp at b
 |a::l,r,h,i,y,b=>by
  simp only[zy,jB,zI,jC,Option.some.injEq]at h;obtain⟨z,g,j,c,rfl⟩:=h;cases i with
  |zero=>simp at b;subst b;exact⟨a,jV,g⟩
  |succ i=>obtain⟨x,e,d⟩:=OI c (i:=i) (by simpa using b);exact⟨x,by simpa using e,d⟩
variable {b:Nat}
theorem Rv{a:Addr}{n:Nat}{cs:List qq}(h:w.cells? b a n=B cs):A cs=n/\∀j v,cs[j]?=B v->w.cell? (a.add j)=B v:=by
 unfold World.cells? at h;split at h
 ·have d:=MZ h;refine⟨by simpa using d,λj v hv=>?_⟩;have:=OI h (i:=j) (y:=v) hv;obtain⟨x,c,e⟩:=this;have f:j<n:=by have:=(zZ.1 c).1;simpa using this
  simp[f]at c;subst c;exact e
 cases h
theorem S8{a:Addr}{v:qq}(h:w.cell? a=B v):a.spot=C/\a.block<w.heap.size:=by
 unfold World.cell? at h;split at h
 ·rename_i b;split at h;{cases h};rename_i c;refine⟨by simpa using c,?_⟩;exact(Array.getElem?_eq_some_iff.1 b).1
 cases h
variable {P:qn}
theorem adW{t e:qp}{α:Type}[Inhabited α]{cells:α->List ae}{r:α->ae}{f:α->Nat}(ht:P.underlying t=B (.slice e))(hs:P.cellsOf e=b)(hsz:0<b)
 (hc:∀a,A (cells a)=b) (he:∀a,(r a).cells=cells a) (R:Rep P e cells f):
 Rep P t (λl:List α=>[encL b r l]) (λl=>(l.map f).sum+1):=by
 intro H M w fuel cs x h;rcases DataW.trod_slice ht h with⟨rfl,rfl⟩|⟨a,len,L,d,rest,n,_,rfl,rfl,hb,hl,hm,hlen,Z,hsp,hns⟩
 {exact⟨[],CRel.one rfl .nil,by simp[Rows.uptoBulk]⟩}
 ·
  have key:∀k,k<=len->∃l:List α,A l=k/\(l.map f).sum<=((d.take k).map (λx=>Rows.uptoBulk x.1)).sum/\
   ∀i,i<k->∃g,w.cells? 0 (a.add (i * b)) b=B g/\CRel w g (cells (l.getD i default)):=by
   intro k;induction k with
   |zero=>intro _;exact⟨[],rfl,jV,qa⟩
   |succ k ih=>
    intro hk;obtain⟨l,N,h3,V⟩:=ih qa;have h5:=Z k qa;have S:k<A d:=qa;rw[w6 S,zI,hs]at h5;obtain⟨g,q1,q2⟩:=h5;obtain⟨y,r1,r3⟩:=R H M w n g _ q2;refine⟨l++[y],by simp[N],?_,λi O=>?_⟩;{rw[List.take_add_one,w6 S];simp only[List.map_append,List.sum_append,wY,List.map_nil,Option.toList_some,jD,List.sum_nil];omega};by_cases e1:i<k;{obtain⟨K,o,G⟩:=V i e1;exact⟨K,o,by rw[getD_left qa];exact G⟩};obtain rfl:i=k:=qa;exact⟨g,q1,by rw[getD_right qa,N];simpa using r1⟩
  obtain⟨l,N,h3,V⟩:=key len (Nat.le_refl _);refine⟨l,CRel.one rfl ?_,?_⟩
  ·by_cases h0:len=0;{subst h0;obtain rfl:l=[]:=List.eq_nil_of_length_eq_zero N;exact .emp hm}
   ·
    have F:a.spot=C/\a.block<w.heap.size:=by
     obtain⟨K,o,G⟩:=V 0 qa;obtain⟨U,X⟩:=Rv o;have hlt:0<A K:=qa;have:=X 0 _ (w6 hlt);simp only[Nat.zero_mul]at this;have:=S8 this;simpa[Addr.add]using this
    obtain⟨z,s,spot⟩:=a;simp only at F;obtain⟨rfl,Y⟩:=F;have m:∀i j p,i<len->(r (l.getD i default)).cells[j]?=B p->∃v,w.cell? ⟨z,s+(i * b+j),C⟩=B v/\v.oneCell'=D/\aH (oldF w) w p v:=by
     intro i j p O J;rw[he]at J;obtain⟨K,o,G⟩:=V i O;obtain⟨U,X⟩:=Rv o;have hj:j<b:=by have:=(zZ.1 J).1;rw[hc]at this;exact this
     have Q:j<A K:=qa;have q:=X j _ (w6 Q);obtain⟨r1,r2⟩:=G.2 j p _ J (w6 Q);refine⟨_,?_,r1,r2⟩;rw[dg,dg,Nat.add_assoc]at q;exact q
    let c:Nat->qq:=λq=>(w.cell? ⟨z,s+q,C⟩).getD undef
    have I:len=A l:=N.symm;have hv:Value.slice (B ⟨z,s,C⟩) len L=.slice (B ⟨z,s,C⟩) (A l) L:=by rw[I]
    rw[hv];refine .sl c qa hm (λi O=>by show(r _).cells.length=b;rw[he,hc]) (λi j p O J=>?_) (λi j p O J=>?_);{obtain⟨v,o,G,U⟩:=m i j p qa J;exact⟨Y,by simp[c,o],by simp[c,o,G]⟩};obtain⟨v,o,G,U⟩:=m i j p qa J;simpa[c,o]using U
  simp only[Rows.uptoBulk,abh];have:(d.take len)=d:=List.take_of_length_le qa;rw[this]at h3;omega
def RB.lst {P:qn}{t e:qp}{α:Type}[Inhabited α][En α](r:RB P e α)(g:P.underlying t=B (.slice e):=by kernel_rfl)(f:P.cellsOf e=En.n α:=by kernel_rfl)(c:0<En.n α:=by(decide))
    (d:∀a:α,(En.e a).cells.length=En.n α:=by intro _;rfl):RB P t (List α):=⟨λl=>(l.map r.b).sum+1,adW g f c d (λ_=>rfl) r.rep⟩
structure RF (P:qn) (fs:List (qp×Nat)) (off:Nat) (α:Type)where
 c:α->List ae
 b:α->Nat
 rep:∀ (H:Type) (enc:qp×qq->H) (w:qm) (n:Nat) (cs:List qq) (xs:List (DataW H×List MemPlace)),
  (A xs)=A fs->A cs=off+(fs.map (λf=>P.cellsOf f.1)).sum->
  (∀ (i:Nat) (f:qp×Nat),fs[i]?=B f->DataW.trod enc P w 0 (λ_=>D) D n f.1 ((cs.drop f.2).take (P.cellsOf f.1))=xs[i]?)->
  ∃a:α,CRel w (cs.drop off) (c a)/\b a<=Rows.uptoBulkAll (xs.map (·.1))
def RF.zz {P:qn}{a:Nat}:RF P [] a Unit:=⟨λ_=>[],λ_=>0,by
 intro H b w n cs f d c e;refine⟨(),?_,Nat.zero_le _⟩;have:cs.drop a=[]:=List.drop_eq_nil_of_le (by simp at c;omega);rw[this];exact CRel.nil⟩
def RF.cs {P:qn}{t:qp}{d:Nat}{j:List (qp×Nat)}{α β:Type}[En α]
    (r:RB P t α) (f:RF P j (d+En.n α) β) (k:P.cellsOf t=En.n α:=by kernel_rfl):RF P ((t,d)::j) d (α×β):=⟨λa=>(En.e a.1).cells++f.c a.2,λa=>r.b a.1+f.b a.2,by
 intro H g w n cs h l p m;cases h with
 |nil=>simp at l
 |cons x h=>
  have q:=m 0 (t,d) jV;simp only[List.getElem?_cons_zero,k]at q;obtain⟨a,s,r3⟩:=r.rep H g w n _ x q;simp only[wY,jD,k]at p;obtain⟨b,y,z⟩:=f.rep H g w n cs h (by simpa using l) qa (λi f o=>by simpa using m (i+1) f (by simpa using o));refine⟨(a,b),?_,?_⟩
  ·have:cs.drop d=(cs.drop d).take (En.n α)++cs.drop (d+En.n α):=by
    rw[<-List.drop_drop,List.take_append_drop]
   rw[this];exact s.app y
  simp only[wY,Rows.uptoBulkAll];omega⟩
def mU (P:qn)(t:qp):Bool:=
 match P.underlying t with
 |some (.struct _)=>D
 |some (.array _ _)=>D
 |_=>E
variable {e:List ae}
theorem agt{t:qp}{v:qq}(hv:Value.okWide P w .any b t v)(d:mU P t=D)(h:CRel w v.cells.toList e):aH (oldF w) w (.agg e) v:=by
 have:∃cs,v=.agg cs:=by
  unfold Value.okWide at hv;unfold mU at d;split at d;{rename_i a;rw[a]at hv;obtain⟨cs,c,_⟩:=hv;exact⟨cs,c⟩};{rename_i a;rw[a]at hv;obtain⟨cs,c,_⟩:=hv;exact⟨cs,c⟩};cases d
 obtain⟨cs,rfl⟩:=this;exact .agg (by rw[<-h.1];simp[Value.cells]) λj p u f a=>(h.2 j p u f (by simpa[Value.cells]using a)).2
theorem ahn{t:qp}{v:qq}(hv:Value.okWide P w .any b t v)(a:mU P t=E)(h:CRel w v.cells.toList [p]):aH (oldF w) w p v:=by
 have d:v.cells=#[v]:=by
  unfold Value.okWide at hv;unfold mU at a;split at a;{cases a};{cases a};rename_i e f;split at hv;{rename_i c;exact absurd c (e _)};{rename_i c;exact absurd c (f _ _)};unfold Cell.okWide at hv;split at hv<;>try rfl
  unfold Cell.ok at hv;split at hv<;>first|rfl|exact hv.elim
 rw[d]at h;exact(h.2 0 p v jV jV).2
theorem acX{F:Cells}{ρ:Env}:eh F w ρ [] #[]:=⟨rfl,jV⟩
theorem ac3{F:Cells}{ρ:Env}{v:qq}{l:List ac}{e:List qq}(h:aH F w p v)(d:eh F w ρ l e.toArray):eh F w ρ (.pure p::l) (v::e).toArray:=by
 refine⟨by have:=d.1;simp at this⊢;omega,λj a u b c=>?_⟩;cases j with
 |zero=>simp at b c;subst b;subst c;exact .pure h
 |succ j=>exact d.2 j a u (by simpa using b) (by simpa using c)
structure RP (P:qn) (ts:List qp) (α:Type)where
 av:α->List ac
 b:α->Nat
 rep:∀ {H:Type} {enc:qp×qq->H} {W:qm} {base:Nat} {vs:List qq} {ds:List (DataW H)} {ps:List MemPlace},DataW.TrodAll enc P W 0 (λ_=>D) D ts vs ds ps->
  (∀ (j:Nat) t v,ts[j]?=B t->vs[j]?=B v->Value.okWide P W .any base t v)->∃a,(∀ρ,eh (oldF W) W ρ (av a) vs.toArray)/\b a<=Rows.uptoBulkAll ds
def RP.zz {P:qn}:RP P [] Unit:=⟨λ_=>[],λ_=>0,by
 intro H b W a e c d h _;obtain⟨rfl,rfl,rfl⟩:=trodAll_nil h;exact⟨(),λ_=>acX,Nat.zero_le _⟩⟩
def RP.cs {P:qn}{t:qp}{s:List qp}{α β:Type}[En α](r:RB P t α)(f:RP P s β)
    (g:(mU P t=D/\∀a:α,En.e a=.agg (En.e a).cells)\/(mU P t=E/\∀a:α,(En.e a).cells=[En.e a]):=by first|exact .inr ⟨by kernel_rfl,λ_=>rfl⟩|exact .inl ⟨by kernel_rfl,λ_=>rfl⟩):RP P (t::s) (α×β):=
 ⟨λa=>q a.1::f.av a.2,λa=>r.b a.1+f.b a.2,by
 intro H l W o K I J h hv;obtain⟨v,G,d,w,p,q,rfl,rfl,rfl,⟨n,z⟩,F⟩:=trodAll_cons h;obtain⟨a,c,e⟩:=r.rep H l W n _ _ z;obtain⟨b,i,k⟩:=f.rep F λj t v x y=>hv (j+1) t v x y
 refine⟨(a,b),λρ=>ac3 ?_ (i ρ),by have:_<=Rows.uptoBulk d:=e;simp only[Rows.uptoBulkAll];omega⟩;rcases g with⟨g,m⟩|⟨g,m⟩
 {rw[m];exact agt (hv 0 t v rfl rfl) g c};have c:CRel W v.cells.toList (En.e a).cells:=c;rw[m]at c;exact ahn (hv 0 t v rfl rfl) g c⟩
theorem R5 {H:Type}{b:qp×qq->H}{P:qn}{W j:qm}:∀ {g:List qp} {i:List qq} {e:List (DataW H)} {c:List MemPlace},DataW.TrodAll b P W 0 (λ_=>D) D g i e c->(∀x∈c,W.sameAt j x)->DataW.TrodAll b P j 0 (λ_=>D) D g i e c
 |[],[],[],c,h,_=>h
 |t::g,v::i,d::e,c,h,k=>by
  obtain⟨p,q,⟨a,l⟩,m,rfl⟩:=h;exact⟨p,q,⟨a,DataW.trod_carry a t _ _ l (λx f=>k x (wH.2 (.inl f)))⟩,R5 m (λx f=>k x (wH.2 (.inr f))),rfl⟩
theorem R4 {H:Type}:∀a b:List (DataW H),Rows.uptoBulkAll a<=Rows.uptoBulkAll (a++b)
 |[],_=>by simp[Rows.uptoBulkAll]
 |_::a,b=>by have:=R4 a b;simp only[List.cons_append,Rows.uptoBulkAll];omega
theorem aaM{f:FuncId}{fn:Func}{α:Type}{ts:List qp}(rp:RP P ts α)(g:∀a,rp.b a<=1048576->∃k,eD P f k (rp.av a) [] (.pure (.bool D)) [])(Y:fn.params.toList=ts)
 {H:Type} {w:qp×qq->H} {s:ChangeSpec} {W:qm}  {c:Array qq} {F N:List (DataW H)} {G:List MemPlace} {bt:qp}
 (hval:∀ (j:Nat) t v,fn.params[j]?=B t->c[j]?=B v->Value.okWide P W .any b t v) (hW:DataW.Whole w P fn.params.toList s.vars E W c.toList F N G)
 (hk:Rows.uptoSmall H (F++N)=D) (htab:TabOk (oldF W) W) (l:s.vars=[]) (hs:s.fn H F={results:=[.lit (.bool D)],args:=F})
 (hl:laidOutB P=D) (hm:mapsRowed P=D) (hz:∀t e,t<P.types.size->P.underlying t=B (.slice e)->0<P.cellsOf e) (U:ts.all λt=>t<P.types.size)
 (hrt:fn.resultTypes=#[bt]) (hbt:P.underlying bt=B .bool):
 Calls P f c W λe J=>∃v,e=.returned v/\s.post w P fn E D E E W c v J:=by
 have U:∀t∈fn.params.toList,t<P.types.size:=by rw[Y];simpa using U
 obtain⟨k,M,g,hrel⟩:∃k M,eD P f k M [] (.pure (.bool D)) []/\∀ρ,eh (oldF W) W ρ M c:=by
  obtain⟨p,q,O,-,-,-,-⟩:=hW;rw[Y]at O;obtain⟨a,X,Z⟩:=rp.rep O (base:=b) λj t v x y=>hval j t v (by rw[<-Array.getElem?_toList,Y];exact x) (by simpa using y)
  have hb:Rows.uptoBulkAll (F++N)<=1048576:=of_decide_eq_true hk;obtain⟨k,h⟩:=g a (zJ Z (zJ (R4 F N) hb));exact⟨k,_,h,λρ=>by simpa using X ρ⟩
 have hg:bM (oldF W) W (λz=>W.heap.size<=z):=⟨λz o h=>h,λz h=>h,htab⟩;have hm0:aG (oldF W) W ⟨λ_=>0,λ_=>C⟩ (λz=>W.heap.size<=z) []:=⟨λid r h=>by simp[Mem.get]at h,λid r z h=>by simp[Mem.get]at h,λid id' r r' z h=>by simp[Mem.get]at h⟩;refine(g.calls (oldF W) W ⟨λ_=>0,λ_=>C⟩ (λz=>W.heap.size<=z) c hm0 hg (hrel _)).mono ?_;rintro e J ⟨v,F',ρ',rfl,S,_,hv,_⟩;refine⟨v,rfl,?_⟩;obtain rfl:v=.bool true:=by
  have:=hv.pure_inv;cases this;rfl
 have m:∀i,i<W.heap.size->J.heap[i]?=W.heap[i]?:=λi hi=>S.keep.block i hi qa
 have hgs:N=[]/\∀q,DataW.TrodVars w P W (λ_=>D) s.vars N q->q=[]:=by
  obtain⟨p,q,_,hV,_,_,_⟩:=hW;rw[l]at hV;cases N with
  |nil=>exact⟨rfl,λq hq=>by rw[l]at hq;simpa[DataW.TrodVars]using hq⟩
  |cons _ _=>simp[DataW.TrodVars]at hV
 obtain⟨rfl,hq0⟩:=hgs;have hW':=hW;obtain⟨p,q,O,hV,rfl,hfz,hnd⟩:=hW;obtain rfl:=hq0 q hV;have R:∀x∈p,W.sameAt J x:=by
  intro x L;have d:=O.lt x L;cases x with
  |cell z V=>
   simp only[MemPlace.block]at d;simp only[World.sameAt,World.cell?,m z d]
  |map z=>
   simp only[MemPlace.block]at d;simp only[World.sameAt,m z d]
 have hA':∀I:Nat->Bool,(∀x∈p,I x.block=D)->DataW.TrodAll w P J 0 I D fn.params.toList c.toList F p:=by
  intro I hsp;refine DataW.TrodAll.respare (kids_rows hl hm) hz U ?_ hsp;exact R5 O R
 have hv':∀I:Nat->Bool,DataW.TrodVars w P J I s.vars ({results:=[.lit (.bool D)],args:=F}:Left H).vars []:=by intro I;rw[l];rfl
 have K:∀ (z:Nat) (I:Nat->Bool) (hd:Bool),DataW.TrodAll w P J z I hd fn.resultTypes.toList ((Value.bool D).resultList fn.resultTypes.size) [.lit (.bool D)] []:=by
  intro z I hd;rw[hrt];exact trodAll_cons_mk (shut_bool hbt _) trodAll_mk0
 have hold:∀x∈p,(λz=>decide (z<W.heap.size)) x.block=true:=λx L=>by simpa using O.lt x L
 have hk:W.keptBut J (·∈p):=by
  refine⟨S.keep.os,S.keep.output,λi hi=>?_⟩;rw[m i hi];cases W.heap[i]? with
  |none=>rfl
  |some o=>cases o<;>first|exact⟨rfl,rfl,rfl,λ_ _=>rfl⟩|exact .inr ⟨rfl,rfl⟩|rfl
 simp only[xl]at hW';have Q:s.fn H (F++[])={results:=[.lit (.bool D)],args:=F}:=by rw[xl];exact hs
 refine⟨F,[],p,[],p,[],hW',by rw[Q];exact K _ _ _,by rw[Q];exact hA' _ hold,by rw[Q];exact hv' _,World.keptBut_mono (λx L=>⟨L,.inr (.inl L)⟩) hk,λ_=>?_⟩;refine⟨?_,_,_,([]++p)++[],⟨[]++p,[],trodAll_append (hA' _ (λ_ _=>rfl)) (K _ _ _),hv' _,rfl,?_,?_⟩,?_⟩
 ·intro j t r X Z;rw[hrt]at X Z;cases j with
  |zero=>simp at X;subst X;simp[Value.resultList]at Z;subst Z;exact okWide_bool_mk hbt _
  |succ j=>simp at X
 ·intro z V Y;have hp':MemPlace.cell z V∈p:=by simpa using Y
  have d:=O.lt _ hp';simp only[MemPlace.block]at d;have:=hfz z V (by simpa using Y);simpa only[World.frozen?,m z d]using this
 {intro ha;cases ha};intro x L _;simpa using L
end Go.Abs
