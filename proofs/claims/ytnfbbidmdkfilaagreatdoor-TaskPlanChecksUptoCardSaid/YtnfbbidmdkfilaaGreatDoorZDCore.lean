import Derived.Calls
import Derived.Defers
import Derived.Recover
import Derived.Orders
import Derived.Laws.AppendOwn
import Derived.Laws.Tables
import Derived.Laws.Rows
import Derived.Laws.Entries
import Derived.RangeFuncKeeps
import Derived.OrdersIn
open Bool renaming or_eq_false_iff->qp
open Go renaming TypeId->qq,Value->qr,World->qn
namespace Go.Abs
theorem jy{p:Prop}(h:p:=by simpa using h):p:=h
theorem jx{p:Prop}(h:p:=by dsimp only;omega):p:=h
theorem jw{p:Prop}(h:p:=by simp only;omega):p:=h
theorem jv{p:Prop}(h:p:=by simp;omega):p:=h
theorem jt{p:Prop}(h:p:=by grind):p:=h
theorem jr{p:Prop}(h:p:=by simp_all):p:=h
theorem jq{p:Prop}(h:p:=by simp):p:=h
theorem jp{p:Prop}(h:p:=by decide):p:=h
theorem qb.{u} {c:Prop}{h:Decidable c}(k:¬c){α:Sort u}{t e:α}:ite c t e=e:=if_neg k
theorem qc.{u} {c:Prop}{h:Decidable c}(k:c){α:Sort u}{t e:α}:ite c t e=t:=if_pos k
theorem qd.{u} {α:Sort u}(a b:α):(bif false then a else b)=b:=rfl
theorem qe.{u} {α:Sort u}(a b:α):(bif true then a else b)=a:=rfl
theorem qf{p:Prop}[Decidable p]:(decide p=true)=p:=decide_eq_true_eq
theorem qg{p:Prop}[i:Decidable p]:p->decide p=true:=decide_eq_true
theorem qh{p:Prop}[i:Decidable p]:¬p->decide p=false:=decide_eq_false
theorem qi{p:Prop}{i:Decidable p}:decide p=false↔¬p:=decide_eq_false_iff_not
theorem qa{p:Prop}(h:p:=by omega):p:=h
inductive PVal where
 |unk
 |bool (b:Bool)
 |int (k:IntKind) (n:Int)
 |str (s:ByteArray)
 |nilI
 |agg (cs:List PVal)
 |lst (sz n:Nat) (f:Nat->PVal)
def PVal.cells:PVal->List PVal
 | .agg a=>a
 |p=>[p]
def PVal.scalar:PVal->Bool
 | .agg _=>false
 |_=>true
inductive AVal where
 |any
 |pure (p:PVal)
 |tt
 |ff
 |agg (cs:List AVal)
 |tup (cs:List AVal)
 |vec (id:Nat)
 |ptr (id off:Nat)
 |eptr (id sz i off:Nat)
 |ref (p:PVal)
 |func (f:Nat) (first cap:List AVal)
 |map (id:Nat)
 |bsl (id n:Nat)
 |iface (t:qq) (a:AVal)
 |anyb
 |view (id sz lo n:Nat)
 |yld (l:Nat)
 |clip (p:PVal)
 |nilp
abbrev Cells:=Nat->Nat->Prop
structure Tok where
 B:Nat->Prop
 J:PVal->Cells->qn->Prop
 keep:∀ {p:PVal} {F F':Cells} {w w':qn},J p F w->(∀b o,F b o->F' b o)->(∀b o,F b o->w'.cell? ⟨b,o,none⟩=w.cell? ⟨b,o,none⟩)->
  (∀b,B b->w'.heap[b]?=w.heap[b]?/\∀o,F' b o->F b o)->J p F' w'
inductive Res where
 |box (cs:List AVal)
 |nilv
 |vec (sz n:Nat) (f:Nat->PVal) (k:Nat) (e:qq)
 |vecT (sz n:Nat) (f:Nat->PVal) (e e':qq) (h:Option Nat)
 |vecX (sz n:Nat) (f:Nat->PVal) (e:qq) (h off id':Nat)
 |vecU (sz n:Nat) (f:Nat->PVal) (k:Nat) (e:qq) (off s':Nat) (e':qq) (hs:List (Nat×Nat))
 |map (tm:List PVal) (dom:List PVal->Bool) (val:List PVal->PVal)
 |iter (s:ByteArray) (pos:Nat)
 |tok (τ:Tok) (p:PVal)
 |dat (sz n:Nat) (f:Nat->PVal)
 |gone
def Qzt:PVal->PVal->Bool
 | .int k _,.int k' _=>decide (k=k')
 | .bool _,.bool _=>true
 |_,_=>false
def czm:List PVal->List PVal->Bool
 |[],[]=>true
 |a::l,b::c=>Qzt a b&&czm l c
 |_,_=>false
def Nzz:PVal->qr->Bool
 | .int k a,.int k' b=>decide (k=k')&&a==b
 | .bool a,.bool b=>a==b
 |_,_=>false
def gze:List PVal->List qr->Bool
 |[],[]=>true
 |a::l,b::c=>Nzz a b&&gze l c
 |_,_=>false
def iz1 (p:List PVal):qr->Bool
 | .agg vs=>gze p vs.toList
 |_=>false
def iz0 (p:List PVal):List MapEntry->Nat->Option (Nat×qr)
 |[],_=>none
 |e::l,i=>if iz1 p e.key then some (i,e.val)else iz0 p l (i+1)
def ezr (p:List PVal):List MapEntry->Option qr
 |[]=>none
 |e::l=>if iz1 p e.key then some e.val else ezr p l
structure Env where
 blk:Nat->Nat
 vec:Nat->Option (Nat×Nat×Nat)
abbrev Mem:=List (Nat×Res)
def Mem.get:Mem->Nat->Option Res
 |[],_=>none
 |(i,r)::m,id=>if i=id then some r else Mem.get m id
section
variable (F:Cells) (w:qn)
inductive PRel:PVal->qr->Prop
 |unk {v:qr} (h:v.oneCell'=true):PRel .unk v
 |bool {b:Bool}:PRel (.bool b) (.bool b)
 |int {k:IntKind} {n:Int}:PRel (.int k n) (.int k n)
 |str {s:ByteArray}:PRel (.str s) (.string s)
 |nilI:PRel .nilI .nilIface
 |agg {cs:List PVal} {vs:Array qr} (hl:cs.length=vs.size)
  (h:∀ (j:Nat) (p:PVal) (v:qr),cs[j]?=some p->vs[j]?=some v->PRel p v):PRel (.agg cs) (.agg vs)
 |nil {sz:Nat} {f:Nat->PVal}:PRel (.lst sz 0 f) (.slice none 0 0)
 |emp {sz cap:Nat} {f:Nat->PVal} {a:Addr} (hcap:cap<=maxLen):PRel (.lst sz 0 f) (.slice (some a) 0 cap)
 |sl {sz n:Nat} {f:Nat->PVal} {b o cap:Nat} (c:Nat->qr) (hn:n<=cap) (hcap:cap<=maxLen)
  (hsz:∀i,i<n->(f i).cells.length=sz)
  (hc:∀ (i j:Nat) (p:PVal),i<n->(f i).cells[j]?=some p->F b (o+(i * sz+j))/\w.cell? ⟨b,o+(i * sz+j),none⟩=some (c (i * sz+j))/\(c (i * sz+j)).oneCell'=true)
  (h:∀ (i j:Nat) (p:PVal),i<n->(f i).cells[j]?=some p->PRel p (c (i * sz+j))):PRel (.lst sz n f) (.slice (some ⟨b,o,none⟩) n cap)
def PAt (p:PVal)(b o:Nat):Prop:=
 ∃c:Nat->qr,∀ (j:Nat) (q:PVal),p.cells[j]?=some q->F b (o+j)/\w.cell? ⟨b,o+j,none⟩=some (c j)/\(c j).oneCell'=true/\PRel F w q (c j)
variable (ρ:Env)
inductive ARel:AVal->qr->Prop
 |any {v:qr}:ARel .any v
 |pure {p:PVal} {v:qr} (h:PRel F w p v):ARel (.pure p) v
 |tt:ARel .tt (.bool true)
 |ff:ARel .ff (.bool false)
 |agg {cs:List AVal} {vs:Array qr} (hl:cs.length=vs.size)
  (h:∀ (j:Nat) (a:AVal) (v:qr),cs[j]?=some a->vs[j]?=some v->ARel a v):ARel (.agg cs) (.agg vs)
 |tup {cs:List AVal} {vs:Array qr} (hl:cs.length=vs.size)
  (h:∀ (j:Nat) (a:AVal) (v:qr),cs[j]?=some a->vs[j]?=some v->ARel a v):ARel (.tup cs) (.tuple vs)
 |vnil {id:Nat} (h:ρ.vec id=none):ARel (.vec id) (.slice none 0 0)
 |vec {id b n cap:Nat} (h:ρ.vec id=some (b,n,cap)):ARel (.vec id) (.slice (some ⟨b,0,none⟩) n cap)
 |ptr {id off:Nat}:ARel (.ptr id off) (.pointer (some ⟨ρ.blk id,off,none⟩))
 |eptr {id sz i off b n cap:Nat} (h:ρ.vec id=some (b,n,cap)):ARel (.eptr id sz i off) (.pointer (some ⟨b,i * sz+off,none⟩))
 |ref {p:PVal} {b o:Nat} (h:PAt F w p b o):ARel (.ref p) (.pointer (some ⟨b,o,none⟩))
 |func {f:Nat} {first cap:List AVal} {v1 v2:Array qr} (h1:first.length=v1.size)
  (h1':∀ (j:Nat) (a:AVal) (v:qr),first[j]?=some a->v1[j]?=some v->ARel a v) (h2:cap.length=v2.size)
  (h2':∀ (j:Nat) (a:AVal) (v:qr),cap[j]?=some a->v2[j]?=some v->ARel a v):ARel (.func f first cap) (.func (.func f) v1 v2)
 |map {id:Nat}:ARel (.map id) (.map (some (ρ.blk id)))
 |bsl {id n:Nat}:ARel (.bsl id n) (.slice (some ⟨ρ.blk id,0,none⟩) n n)
 |iface {t:qq} {a:AVal} {v:qr} (h:ARel a v):ARel (.iface t a) (.iface t v)
 |anyb {b:Bool}:ARel .anyb (.bool b)
 |clip {p:PVal} {a:Option Addr} {n:Nat} (h:PRel F w p (.slice a n n)):ARel (.clip p) (.slice a n n)
 |nilp:ARel .nilp (.pointer none)
 |yld {l:Nat}:ARel (.yld l) (.func (.yield l) #[] #[])
 |view {id sz lo n b n0 cap:Nat} {a:Addr} (h:ρ.vec id=some (b,n0,cap)) (hle:lo+n<=n0) (ha:lo<n0\/lo=0->a=⟨b,lo * sz,none⟩):ARel (.view id sz lo n) (.slice (some a) n (cap-lo))
 |viewN {id sz lo n:Nat} (h:ρ.vec id=none) (hn:n=0):ARel (.view id sz lo n) (.slice none 0 0)
def VecAt (sz n:Nat)(f:Nat->PVal)(k:Nat)(e:qq)(x:Option (Nat×Nat×Nat)):Prop:=
 k<=n/\((x=none/\n=0)\/∃b cap c,x=some (b,n,cap)/\w.heap[b]?=some (.cells c e (0,0))/\n<=cap/\cap<=maxLen/\
   c.size=cap * sz/\(∀o,F b o->o<k * sz)/\(∀i,i<n->(f i).cells.length=sz)/\
   ∀ (i j:Nat) (p:PVal),i<n->(f i).cells[j]?=some p->∃v,c[i * sz+j]?=some v/\v.oneCell'=true/\PRel F w p v)
def Hz7:PVal->List PVal->PVal
 | .agg _,a=>.agg a
 |_,[q]=>q
 |_,_=>.unk
def hz0 (f:Nat->PVal)(h off:Nat)(p:PVal):Nat->PVal:=λj=>if j=h then Hz7 (f h) ((f h).cells.take off++[p]++(f h).cells.drop (off+1))else f j
def gzs:Option (Nat×Nat×Nat)->qr
 |none=>.slice none 0 0
 |some (b,n,cap)=>.slice (some ⟨b,0,none⟩) n cap
def Inn (c:Array qr)(n:Nat)(h:Option Nat)(i b:Nat):Prop:=
 i<n/\h≠some i/\∃d a,c[i]?=some (.slice (some ⟨b,0,none⟩) d a)
def aznv (sz:Nat)(b:qq)(p:PVal)(v:qr):Prop:=
 ∃x a g,p=.lst sz a g/\v=gzs x/\VecAt F w sz a g 0 b x
def sz8 (a:List (Nat×Nat))(i:Nat):Bool:=a.any λx=>x.1==i
def InnU (c:Array qr)(sz n off k:Nat)(d:List (Nat×Nat))(i b:Nat):Prop:=
 i<n/\i<k/\sz8 d i=false/\∃e a,c[i * sz+off]?=some (.slice (some ⟨b,0,none⟩) e a)
structure UOk (c:Array qr) (sz n:Nat) (f:Nat->PVal) (k off s':Nat) (e':qq) (hs:List (Nat×Nat)):Prop where
 len:∀i,i<n->(f i).cells.length=sz
 cell:∀ (i j:Nat) (p:PVal),i<n->j≠off->(f i).cells[j]?=some p->∃v,c[i * sz+j]?=some v/\v.oneCell'=true/\PRel F w p v
 own:∀ (i:Nat) (p:PVal),i<n->sz8 hs i=false->(f i).cells[off]?=some p->∃v,c[i * sz+off]?=some v/\v.oneCell'=true/\(i<k->aznv F w s' e' p v)/\(k<=i->PRel F w p v)
 hole:∀x∈hs,x.1<n/\c[x.1 * sz+off]?=some (gzs (ρ.vec x.2))
 nodup:(hs.map (·.1)).Nodup
 inj:∀i i' b,InnU c sz n off k hs i b->InnU c sz n off k hs i' b->i=i'
def bz8 (id:Nat):Res->Option Nat
 | .box _=>some (ρ.blk id)
 | .nilv=>none
 | .vec ..=>(ρ.vec id).map (·.1)
 | .vecT ..=>(ρ.vec id).map (·.1)
 | .vecX ..=>(ρ.vec id).map (·.1)
 | .vecU ..=>(ρ.vec id).map (·.1)
 | .map ..=>some (ρ.blk id)
 | .iter ..=>some (ρ.blk id)
 | .tok ..=>none
 | .dat ..=>none
 | .gone=>none
def mzh (id:Nat)(r:Res)(b:Nat):Prop:=
 match r with
 | .vecT _ n _ _ _ h=>∃a d cap c e i,ρ.vec id=some (a,d,cap)/\w.heap[a]?=some (.cells c e (0,0))/\Inn c n h i b
 | .vecU sz n _ k _ off _ _ f=>∃a d cap c e i,ρ.vec id=some (a,d,cap)/\w.heap[a]?=some (.cells c e (0,0))/\InnU c sz n off k f i b
 | .tok τ _=>τ.B b
 |_=>False
def Owns (id:Nat)(r:Res)(b:Nat):Prop:=bz8 ρ id r=some b\/mzh w ρ id r b
def ResOk (id:Nat):Res->Prop
 | .gone=>True
 | .dat sz n f=>PRel F w (.lst sz n f) (gzs (ρ.vec id))
 | .tok τ p=>τ.J p F w
 | .iter s x=>w.heap[ρ.blk id]?=some (.stringIter s x)/\∀o,¬F (ρ.blk id) o
 | .nilv=>ρ.vec id=none
 | .box A=>∃c e,w.heap[ρ.blk id]?=some (.cells c e (0,0))/\c.size=A.length/\(∀o,¬F (ρ.blk id) o)/\
  ∀ (j:Nat) (a:AVal) (v:qr),A[j]?=some a->c[j]?=some v->ARel F w ρ a v/\v.oneCell'=true
 | .vec sz n f k e=>k<=n/\((ρ.vec id=none/\n=0)\/∃b cap c,ρ.vec id=some (b,n,cap)/\w.heap[b]?=some (.cells c e (0,0))/\n<=cap/\cap<=maxLen/\
  c.size=cap * sz/\(∀o,F b o->o<k * sz)/\(∀i,i<n->(f i).cells.length=sz)/\
  ∀ (i j:Nat) (p:PVal),i<n->(f i).cells[j]?=some p->∃v,c[i * sz+j]?=some v/\v.oneCell'=true/\PRel F w p v)
 | .vecT sz n f e t h=>∃b cap c,ρ.vec id=some (b,n,cap)/\w.heap[b]?=some (.cells c e (0,0))/\n<=cap/\cap<=maxLen/\c.size=cap/\(∀o,¬F b o)/\
  (∀i,i<n->∃v,c[i]?=some v/\v.oneCell'=true/\(h=some i\/aznv F w sz t (f i) v))/\(∀i B z,Inn c n h i z->Inn c n h B z->i=B)/\∀i,¬Inn c n h i b
 | .vecX sz n f e h off m=>VecAt F w sz n (hz0 f h off .unk) 0 e (ρ.vec id)/\∃b cap c,ρ.vec id=some (b,n,cap)/\w.heap[b]?=some (.cells c e (0,0))/\h<n/\off<sz/\(f h).cells.length=sz/\c[h * sz+off]?=some (gzs (ρ.vec m))
 | .vecU sz n f k e off C t y=>off<sz/\k<=n/\((ρ.vec id=none/\n=0/\y=[])\/∃b cap c,ρ.vec id=some (b,n,cap)/\w.heap[b]?=some (.cells c e (0,0))/\n<=cap/\cap<=maxLen/\
  c.size=cap * sz/\(∀o,¬F b o)/\UOk F w ρ c sz n f k off C t y/\∀i,¬InnU c sz n off k y i b)
 | .map r g u=>∃l d,w.heap[ρ.blk id]?=some (.map l d)/\(∀o,¬F (ρ.blk id) o)/\(∀e∈l.toList,∃q,czm r q=true/\iz1 q e.key=true)/\
  (∀p,czm r p=true->ezr p l.toList=none->g p=false)/\(∀p v,czm r p=true->ezr p l.toList=some v->g p=true/\PRel F w (u p) v)
structure MemOk (Mine:Nat->Prop) (m:Mem):Prop where
 ok:∀id r,m.get id=some r->ResOk F w ρ id r
 mine:∀id r b,m.get id=some r->Owns w ρ id r b->Mine b/\b<w.heap.size
 disj:∀id id' r r' b,m.get id=some r->m.get id'=some r'->Owns w ρ id r b->Owns w ρ id' r' b->id=id'
end
structure PSub (p q:PVal):Prop where
 rel:∀ (F:Cells) (w:qn) (v:qr),PRel F w p v->PRel F w q v
def gTab (g:Nat):Option (IntKind×List Int):=
 match g with
 |0=>some (.u64,[2,3,5,7,11,13,17,19,23,29])
 |_=>none
def TabOk (F:Cells)(w:qn):Prop:=∀g k l,gTab g=some (k,l)->∀i n,l[i]?=some n->F g i/\w.cell? ⟨g,i,none⟩=some (.int k n)
mutual
def AVal.has (id:Nat):AVal->Bool
 | .agg cs| .tup cs=>hasL id cs
 | .vec i| .ptr i _| .eptr i _ _ _| .map i| .bsl i _| .view i _ _ _=>i==id
 | .iface _ a=>AVal.has id a
 | .func _ a b=>hasL id a||hasL id b
 | .any| .pure _| .tt| .ff| .ref _| .anyb| .yld _| .clip _| .nilp=>false
def AVal.hasL (id:Nat):List AVal->Bool
 |[]=>false
 |a::l=>AVal.has id a||AVal.hasL id l
end
def Res.has (id:Nat):Res->Bool
 | .box b=>AVal.hasL id b
 | .vecX _ _ _ _ _ _ i=>i==id
 | .vecU _ _ _ _ _ _ _ _ a=>a.any λx=>x.2==id
 |_=>false
theorem PRel.mono {F F':Cells}{w f:qn}(l:∀b o,F b o->F' b o)(m:∀b o,F b o->f.cell? ⟨b,o,none⟩=w.cell? ⟨b,o,none⟩)
 {p:PVal} {v:qr} (h:PRel F w p v):PRel F' f p v:=by
 induction h with
 |unk h=>exact .unk h
 |bool=>exact .bool
 |int=>exact .int
 |str=>exact .str
 |nilI=>exact .nilI
 |agg k _ e=>exact .agg k e
 |nil=>exact .nil
 |emp h=>exact .emp h
 |sl c g a d q _ e=>
  refine .sl c g a d (λi j p hi n=>?_) e
  simp_all
theorem PAt.mono {F F':Cells}{w a:qn}(f:∀b o,F b o->F' b o)(e:∀b o,F b o->a.cell? ⟨b,o,none⟩=w.cell? ⟨b,o,none⟩)
 {p:PVal} {b o:Nat} (h:PAt F w p b o):PAt F' a p b o:=by
 obtain⟨c,h⟩:=h;refine⟨c,λj q k=>?_⟩;obtain⟨d,i,g,l⟩:=h j q k;exact⟨f _ _ d,(e _ _ d).trans i,g,l.mono f e⟩
theorem qzl {id:Nat}:∀ {l:List AVal} {a:AVal} {j:Nat},AVal.hasL id l=false->l[j]?=some a->AVal.has id a=false
 |[],_,_,_,h=>jt
 |x::l,a,0,h,b=>by
  grind[AVal.hasL]
 |x::l,a,j+1,h,b=>by
  simp only[AVal.hasL,qp]at h;exact qzl (l:=l) (j:=j) h.2 (by simpa using b)
theorem ARel.mono {F F':Cells}{w w':qn}{ρ ρ':Env}(N:Nat->Prop)(hF:∀b o,F b o->F' b o)
 (hw:∀b o,F b o->w'.cell? ⟨b,o,none⟩=w.cell? ⟨b,o,none⟩) (hρ:∀id,N id->ρ'.blk id=ρ.blk id/\ρ'.vec id=ρ.vec id)
 {a:AVal} {v:qr} (h:ARel F w ρ a v) (ha:∀id,¬N id->a.has id=false):ARel F' w' ρ' a v:=by
 induction h with
 |any=>exact .any
 |pure h=>exact .pure (h.mono hF hw)
 |tt=>exact .tt
 |ff=>exact .ff
 |agg hl _ ih=>exact .agg hl λj a v hj hv=>ih j a v hj hv λid hid=>qzl (by simpa[AVal.has]using ha id hid) hj
 |tup hl _ ih=>exact .tup hl λj a v hj hv=>ih j a v hj hv λid hid=>qzl (by simpa[AVal.has]using ha id hid) hj
 |@vnil id h=>
  refine .vnil ?_;by_cases hN:N id
  ·rw[(hρ id hN).2];exact h
  ·have:=ha id hN;simp[AVal.has]at this
 |@vec id b n cap h=>
  refine .vec ?_;by_cases hN:N id
  ·rw[(hρ id hN).2];exact h
  ·have:=ha id hN;simp[AVal.has]at this
 |@ptr id off=>
  by_cases hN:N id
  ·rw[<-(hρ id hN).1];exact .ptr
  ·have:=ha id hN;simp[AVal.has]at this
 |@eptr id sz i off b n cap h=>
  refine .eptr ?_ (n:=n) (cap:=cap);by_cases hN:N id
  ·rw[(hρ id hN).2];exact h
  ·have:=ha id hN;simp[AVal.has]at this
 |ref h=>exact .ref (h.mono hF hw)
 |func h1 _ h2 _ ih1 ih2=>
  have key:∀id,¬N id->AVal.hasL id _=false/\AVal.hasL id _=false:=λid hid=>by
   have:=ha id hid;simp only[AVal.has,qp]at this;exact this
  exact .func h1 (λj a v hj hv=>ih1 j a v hj hv λid hid=>qzl (key id hid).1 hj) h2
   (λj a v hj hv=>ih2 j a v hj hv λid hid=>qzl (key id hid).2 hj)
 |@map id=>
  by_cases hN:N id
  ·rw[<-(hρ id hN).1];exact .map
  ·have:=ha id hN;simp[AVal.has]at this
 |@bsl id n=>
  by_cases hN:N id
  ·rw[<-(hρ id hN).1];exact .bsl
  ·have:=ha id hN;simp[AVal.has]at this
 |iface _ ih=>exact .iface (ih λid hid=>by simpa[AVal.has]using ha id hid)
 |anyb=>exact .anyb
 |nilp=>exact .nilp
 |clip h=>exact .clip (h.mono hF hw)
 |yld=>exact .yld
 |@view id sz lo n b n0 cap a h hle hab=>
  refine .view ?_ hle hab;by_cases hN:N id
  ·rw[(hρ id hN).2];exact h
  ·have:=ha id hN;simp[AVal.has]at this
 |@viewN id sz lo n h hn=>
  refine .viewN ?_ hn;by_cases hN:N id
  ·rw[(hρ id hN).2];exact h
  ·have:=ha id hN;simp[AVal.has]at this
theorem ARel.mono' {F F':Cells}{w c:qn}{ρ:Env}(e:∀b o,F b o->F' b o)
 (d:∀b o,F b o->c.cell? ⟨b,o,none⟩=w.cell? ⟨b,o,none⟩) {a:AVal} {v:qr} (h:ARel F w ρ a v):ARel F' c ρ a v:=
 h.mono (λ_=>True) e d (λ_ _=>⟨rfl,rfl⟩) (λ_ h=>absurd trivial h)
end Go.Abs
