import Derived.Calls
import Derived.Defers
import Derived.Recover
import Derived.Orders
import Derived.Laws.AppendOwn
import Derived.Laws.Tables
import Derived.Laws.Rows
import Derived.Laws.Entries
import Derived.RangeFuncKeeps
import Derived.OrdersIn
open Bool renaming true->G,false->H
open Option renaming some->D,none->E
open Bool renaming or_eq_false_iff->qo
open Go renaming TypeId->qp,Value->qq,World->qm
namespace Go.Abs
variable {p:Prop}
theorem kc(h:p:=by simpa using h):p:=h
theorem kb(h:p:=by simpa using hi):p:=h
theorem ka(h:p:=by simpa using hj):p:=h
theorem j9(h:p:=by dsimp only;omega):p:=h
theorem j8(h:p:=by simp only;omega):p:=h
theorem jZ(h:p:=by simp;omega):p:=h
theorem jX(h:p:=by grind):p:=h
theorem jW(h:p:=by simp_all):p:=h
theorem jV(h:p:=by simp):p:=h
theorem jU(h:p:=by decide):p:=h
theorem qb.{u} {c:Prop}{h:Decidable c}(k:¬c){α:Sort u}{t e:α}:ite c t e=e:=if_neg k
theorem qc.{u} {c:Prop}{h:Decidable c}(k:c){α:Sort u}{t e:α}:ite c t e=t:=if_pos k
theorem qd.{u} {α:Sort u}(a b:α):(bif H then a else b)=b:=rfl
theorem qe.{u} {α:Sort u}(a b:α):(bif G then a else b)=a:=rfl
theorem qf[Decidable p]:(decide p=G)=p:=decide_eq_true_eq
theorem qg{p:Prop}[i:Decidable p]:p->decide p=true:=decide_eq_true
theorem qh{p:Prop}[i:Decidable p]:¬p->decide p=false:=decide_eq_false
theorem qi{i:Decidable p}:decide p=H↔¬p:=decide_eq_false_iff_not
theorem qa{p:Prop}(h:p:=by omega):p:=h
inductive ae where
 |unk
 |bool (b:Bool)
 |int (k:IntKind) (n:Int)
 |str (s:ByteArray)
 |nilI
 |agg (cs:List ae)
 |lst (sz n:Nat) (f:Nat->ae)
def ae.cells:ae->List ae
 | .agg a=>a
 |p=>[p]
def ae.scalar:ae->Bool
 | .agg _=>H
 |_=>G
inductive ac where
 |any
 |pure (p:ae)
 |tt
 |ff
 |agg (cs:List ac)
 |tup (cs:List ac)
 |vec (id:Nat)
 |ptr (id off:Nat)
 |eptr (id sz i off:Nat)
 |ref (p:ae)
 |func (f:Nat) (first cap:List ac)
 |map (id:Nat)
 |bsl (id n:Nat)
 |iface (t:qp) (a:ac)
 |anyb
 |view (id sz lo n:Nat)
 |yld (l:Nat)
 |clip (p:ae)
 |nilp
abbrev Cells:=Nat->Nat->Prop
structure Tok where
 B:Nat->Prop
 J:ae->Cells->qm->Prop
 keep:∀ {p:ae} {F F':Cells} {w w':qm},J p F w->(∀b o,F b o->F' b o)->(∀b o,F b o->w'.cell? ⟨b,o,E⟩=w.cell? ⟨b,o,E⟩)->
  (∀b,B b->w'.heap[b]?=w.heap[b]?/\∀o,F' b o->F b o)->J p F' w'
inductive Res where
 |box (cs:List ac)
 |nilv
 |vec (sz n:Nat) (f:Nat->ae) (k:Nat) (e:qp)
 |vecT (sz n:Nat) (f:Nat->ae) (e e':qp) (h:Option Nat)
 |vecX (sz n:Nat) (f:Nat->ae) (e:qp) (h off id':Nat)
 |vecU (sz n:Nat) (f:Nat->ae) (k:Nat) (e:qp) (off s':Nat) (e':qp) (hs:List (Nat×Nat))
 |map (tm:List ae) (dom:List ae->Bool) (val:List ae->ae)
 |iter (s:ByteArray) (pos:Nat)
 |tok (τ:Tok) (p:ae)
 |dat (sz n:Nat) (f:Nat->ae)
 |gone
def lr:ae->ae->Bool
 | .int k _,.int a _=>decide (k=a)
 | .bool _,.bool _=>G
 |_,_=>H
def bE:List ae->List ae->Bool
 |[],[]=>G
 |a::l,b::c=>lr a b&&bE l c
 |_,_=>H
def iV:ae->qq->Bool
 | .int k a,.int c b=>decide (k=c)&&a==b
 | .bool a,.bool b=>a==b
 |_,_=>H
def dE:List ae->List qq->Bool
 |[],[]=>G
 |a::l,b::c=>iV a b&&dE l c
 |_,_=>H
def b8 (p:List ae):qq->Bool
 | .agg a=>dE p a.toList
 |_=>H
def d9 (p:List ae):List MapEntry->Nat->Option (Nat×qq)
 |[],_=>E
 |e::l,i=>if b8 p e.key then D (i,e.val)else d9 p l (i+1)
def c7 (p:List ae):List MapEntry->Option qq
 |[]=>E
 |e::l=>if b8 p e.key then D e.val else c7 p l
structure Env where
 blk:Nat->Nat
 vec:Nat->Option (Nat×Nat×Nat)
abbrev Mem:=List (Nat×Res)
def Mem.get:Mem->Nat->Option Res
 |[],_=>E
 |(i,r)::m,id=>if i=id then D r else Mem.get m id
section
variable (F:Cells) (w:qm)
inductive aH:ae->qq->Prop
 |unk {v:qq} (h:v.oneCell'=G):aH .unk v
 |bool {b:Bool}:aH (.bool b) (.bool b)
 |int {k:IntKind} {n:Int}:aH (.int k n) (.int k n)
 |str {s:ByteArray}:aH (.str s) (.string s)
 |nilI:aH .nilI .nilIface
 |agg {cs:List ae} {vs:Array qq} (hl:cs.length=vs.size)
  (h:∀ (j:Nat) (p:ae) (v:qq),cs[j]?=D p->vs[j]?=D v->aH p v):aH (.agg cs) (.agg vs)
 |nil {sz:Nat} {f:Nat->ae}:aH (.lst sz 0 f) (.slice E 0 0)
 |emp {sz cap:Nat} {f:Nat->ae} {a:Addr} (hcap:cap<=maxLen):aH (.lst sz 0 f) (.slice (D a) 0 cap)
 |sl {sz n:Nat} {f:Nat->ae} {b o cap:Nat} (c:Nat->qq) (hn:n<=cap) (hcap:cap<=maxLen)
  (hsz:∀i,i<n->(f i).cells.length=sz)
  (hc:∀ (i j:Nat) (p:ae),i<n->(f i).cells[j]?=D p->F b (o+(i * sz+j))/\w.cell? ⟨b,o+(i * sz+j),E⟩=D (c (i * sz+j))/\(c (i * sz+j)).oneCell'=G)
  (h:∀ (i j:Nat) (p:ae),i<n->(f i).cells[j]?=D p->aH p (c (i * sz+j))):aH (.lst sz n f) (.slice (D ⟨b,o,E⟩) n cap)
def PAt (p:ae)(b o:Nat):Prop:=
 ∃c:Nat->qq,∀ (j:Nat) (q:ae),p.cells[j]?=D q->F b (o+j)/\w.cell? ⟨b,o+j,E⟩=D (c j)/\(c j).oneCell'=G/\aH F w q (c j)
variable (ρ:Env)
inductive ak:ac->qq->Prop
 |any {v:qq}:ak .any v
 |pure {p:ae} {v:qq} (h:aH F w p v):ak (.pure p) v
 |tt:ak .tt (.bool G)
 |ff:ak .ff (.bool H)
 |agg {cs:List ac} {vs:Array qq} (hl:cs.length=vs.size)
  (h:∀ (j:Nat) (a:ac) (v:qq),cs[j]?=D a->vs[j]?=D v->ak a v):ak (.agg cs) (.agg vs)
 |tup {cs:List ac} {vs:Array qq} (hl:cs.length=vs.size)
  (h:∀ (j:Nat) (a:ac) (v:qq),cs[j]?=D a->vs[j]?=D v->ak a v):ak (.tup cs) (.tuple vs)
 |vnil {id:Nat} (h:ρ.vec id=E):ak (.vec id) (.slice E 0 0)
 |vec {id b n cap:Nat} (h:ρ.vec id=D (b,n,cap)):ak (.vec id) (.slice (D ⟨b,0,E⟩) n cap)
 |ptr {id off:Nat}:ak (.ptr id off) (.pointer (D ⟨ρ.blk id,off,E⟩))
 |eptr {id sz i off b n cap:Nat} (h:ρ.vec id=D (b,n,cap)):ak (.eptr id sz i off) (.pointer (D ⟨b,i * sz+off,E⟩))
 |ref {p:ae} {b o:Nat} (h:PAt F w p b o):ak (.ref p) (.pointer (D ⟨b,o,E⟩))
 |func {f:Nat} {first cap:List ac} {v1 v2:Array qq} (h1:first.length=v1.size)
  (h1':∀ (j:Nat) (a:ac) (v:qq),first[j]?=D a->v1[j]?=D v->ak a v) (h2:cap.length=v2.size)
  (h2':∀ (j:Nat) (a:ac) (v:qq),cap[j]?=D a->v2[j]?=D v->ak a v):ak (.func f first cap) (.func (.func f) v1 v2)
 |map {id:Nat}:ak (.map id) (.map (D (ρ.blk id)))
 |bsl {id n:Nat}:ak (.bsl id n) (.slice (D ⟨ρ.blk id,0,E⟩) n n)
 |iface {t:qp} {a:ac} {v:qq} (h:ak a v):ak (.iface t a) (.iface t v)
 |anyb {b:Bool}:ak .anyb (.bool b)
 |clip {p:ae} {a:Option Addr} {n:Nat} (h:aH F w p (.slice a n n)):ak (.clip p) (.slice a n n)
 |nilp:ak .nilp (.pointer E)
 |yld {l:Nat}:ak (.yld l) (.func (.yield l) #[] #[])
 |view {id sz lo n b n0 cap:Nat} {a:Addr} (h:ρ.vec id=D (b,n0,cap)) (hle:lo+n<=n0) (ha:lo<n0\/lo=0->a=⟨b,lo * sz,E⟩):ak (.view id sz lo n) (.slice (D a) n (cap-lo))
 |viewN {id sz lo n:Nat} (h:ρ.vec id=E) (hn:n=0):ak (.view id sz lo n) (.slice E 0 0)
def jo (d n:Nat)(f:Nat->ae)(k:Nat)(e:qp)(x:Option (Nat×Nat×Nat)):Prop:=
 k<=n/\((x=E/\n=0)\/∃b a c,x=D (b,n,a)/\w.heap[b]?=D (.cells c e (0,0))/\n<=a/\a<=maxLen/\
   c.size=a * d/\(∀o,F b o->o<k * d)/\(∀i,i<n->(f i).cells.length=d)/\
   ∀ (i j:Nat) (p:ae),i<n->(f i).cells[j]?=D p->∃v,c[i * d+j]?=D v/\v.oneCell'=G/\aH F w p v)
def lu:ae->List ae->ae
 | .agg _,a=>.agg a
 |_,[q]=>q
 |_,_=>.unk
def c9 (f:Nat->ae)(h a:Nat)(p:ae):Nat->ae:=λj=>if j=h then lu (f h) ((f h).cells.take a++[p]++(f h).cells.drop (a+1))else f j
def dA:Option (Nat×Nat×Nat)->qq
 |none=>.slice E 0 0
 |some (b,n,a)=>.slice (D ⟨b,0,E⟩) n a
def Inn (c:Array qq)(n:Nat)(h:Option Nat)(i b:Nat):Prop:=
 i<n/\h≠D i/\∃d a,c[i]?=D (.slice (D ⟨b,0,E⟩) d a)
def Ut (c:Nat)(b:qp)(p:ae)(v:qq):Prop:=
 ∃x a g,p=.lst c a g/\v=dA x/\jo F w c a g 0 b x
def dj (a:List (Nat×Nat))(i:Nat):Bool:=a.any λx=>x.1==i
def InnU (c:Array qq)(g n f k:Nat)(d:List (Nat×Nat))(i b:Nat):Prop:=
 i<n/\i<k/\dj d i=H/\∃e a,c[i * g+f]?=D (.slice (D ⟨b,0,E⟩) e a)
structure UOk (c:Array qq) (sz n:Nat) (f:Nat->ae) (k off s':Nat) (e':qp) (hs:List (Nat×Nat)):Prop where
 len:∀i,i<n->(f i).cells.length=sz
 cell:∀ (i j:Nat) (p:ae),i<n->j≠off->(f i).cells[j]?=D p->∃v,c[i * sz+j]?=D v/\v.oneCell'=G/\aH F w p v
 own:∀ (i:Nat) (p:ae),i<n->dj hs i=false->(f i).cells[off]?=D p->∃v,c[i * sz+off]?=D v/\v.oneCell'=G/\(i<k->Ut F w s' e' p v)/\(k<=i->aH F w p v)
 hole:∀x∈hs,x.1<n/\c[x.1 * sz+off]?=D (dA (ρ.vec x.2))
 nodup:(hs.map (·.1)).Nodup
 inj:∀i i' b,InnU c sz n off k hs i b->InnU c sz n off k hs i' b->i=i'
def aX (id:Nat):Res->Option Nat
 | .box _=>D (ρ.blk id)
 | .nilv=>E
 | .vec ..=>(ρ.vec id).map (·.1)
 | .vecT ..=>(ρ.vec id).map (·.1)
 | .vecX ..=>(ρ.vec id).map (·.1)
 | .vecU ..=>(ρ.vec id).map (·.1)
 | .map ..=>D (ρ.blk id)
 | .iter ..=>D (ρ.blk id)
 | .tok ..=>E
 | .dat ..=>E
 | .gone=>E
def cX (id:Nat)(r:Res)(b:Nat):Prop:=
 match r with
 | .vecT _ n _ _ _ h=>∃a d g c e i,ρ.vec id=D (a,d,g)/\w.heap[a]?=D (.cells c e (0,0))/\Inn c n h i b
 | .vecU l n _ k _ j _ _ f=>∃a d g c e i,ρ.vec id=D (a,d,g)/\w.heap[a]?=D (.cells c e (0,0))/\InnU c l n j k f i b
 | .tok τ _=>τ.B b
 |_=>False
def aE (id:Nat)(r:Res)(b:Nat):Prop:=aX ρ id r=D b\/cX w ρ id r b
def cH (id:Nat):Res->Prop
 | .gone=>True
 | .dat K n f=>aH F w (.lst K n f) (dA (ρ.vec id))
 | .tok τ p=>τ.J p F w
 | .iter s x=>w.heap[ρ.blk id]?=D (.stringIter s x)/\∀o,¬F (ρ.blk id) o
 | .nilv=>ρ.vec id=E
 | .box A=>∃c e,w.heap[ρ.blk id]?=D (.cells c e (0,0))/\c.size=A.length/\(∀o,¬F (ρ.blk id) o)/\
  ∀ (j:Nat) (a:ac) (v:qq),A[j]?=D a->c[j]?=D v->ak F w ρ a v/\v.oneCell'=G
 | .vec K n f k e=>k<=n/\((ρ.vec id=E/\n=0)\/∃b I c,ρ.vec id=D (b,n,I)/\w.heap[b]?=D (.cells c e (0,0))/\n<=I/\I<=maxLen/\
  c.size=I * K/\(∀o,F b o->o<k * K)/\(∀i,i<n->(f i).cells.length=K)/\
  ∀ (i j:Nat) (p:ae),i<n->(f i).cells[j]?=D p->∃v,c[i * K+j]?=D v/\v.oneCell'=G/\aH F w p v)
 | .vecT K n f e t h=>∃b I c,ρ.vec id=D (b,n,I)/\w.heap[b]?=D (.cells c e (0,0))/\n<=I/\I<=maxLen/\c.size=I/\(∀o,¬F b o)/\
  (∀i,i<n->∃v,c[i]?=D v/\v.oneCell'=G/\(h=D i\/Ut F w K t (f i) v))/\(∀i B z,Inn c n h i z->Inn c n h B z->i=B)/\∀i,¬Inn c n h i b
 | .vecX K n f e h L m=>jo F w K n (c9 f h L .unk) 0 e (ρ.vec id)/\∃b I c,ρ.vec id=D (b,n,I)/\w.heap[b]?=D (.cells c e (0,0))/\h<n/\L<K/\(f h).cells.length=K/\c[h * K+L]?=D (dA (ρ.vec m))
 | .vecU K n f k e L C t y=>L<K/\k<=n/\((ρ.vec id=E/\n=0/\y=[])\/∃b I c,ρ.vec id=D (b,n,I)/\w.heap[b]?=D (.cells c e (0,0))/\n<=I/\I<=maxLen/\
  c.size=I * K/\(∀o,¬F b o)/\UOk F w ρ c K n f k L C t y/\∀i,¬InnU c K n L k y i b)
 | .map r g u=>∃l d,w.heap[ρ.blk id]?=D (.map l d)/\(∀o,¬F (ρ.blk id) o)/\(∀e∈l.toList,∃q,bE r q=G/\b8 q e.key=G)/\
  (∀p,bE r p=true->c7 p l.toList=none->g p=H)/\(∀p v,bE r p=true->c7 p l.toList=D v->g p=G/\aH F w (u p) v)
structure aG (Mine:Nat->Prop) (m:Mem):Prop where
 ok:∀id r,m.get id=D r->cH F w ρ id r
 mine:∀id r b,m.get id=D r->aE w ρ id r b->Mine b/\b<w.heap.size
 disj:∀id id' r r' b,m.get id=D r->m.get id'=D r'->aE w ρ id r b->aE w ρ id' r' b->id=id'
end
structure PSub (p q:ae):Prop where
 rel:∀ (F:Cells) (w:qm) (v:qq),aH F w p v->aH F w q v
def gTab (g:Nat):Option (IntKind×List Int):=
 match g with
 |0=>D (.u64,[2,3,5,7,11,13,17,19,23,29])
 |_=>E
def TabOk (F:Cells)(w:qm):Prop:=∀g k l,gTab g=D (k,l)->∀i n,l[i]?=D n->F g i/\w.cell? ⟨g,i,E⟩=D (.int k n)
mutual
def ac.has (id:Nat):ac->Bool
 | .agg cs| .tup cs=>hasL id cs
 | .vec i| .ptr i _| .eptr i _ _ _| .map i| .bsl i _| .view i _ _ _=>i==id
 | .iface _ a=>ac.has id a
 | .func _ a b=>hasL id a||hasL id b
 | .any| .pure _| .tt| .ff| .ref _| .anyb| .yld _| .clip _| .nilp=>H
def ac.hasL (id:Nat):List ac->Bool
 |[]=>H
 |a::l=>ac.has id a||ac.hasL id l
end
def Res.has (id:Nat):Res->Bool
 | .box b=>ac.hasL id b
 | .vecX _ _ _ _ _ _ i=>i==id
 | .vecU _ _ _ _ _ _ _ _ a=>a.any λx=>x.2==id
 |_=>H
theorem aH.mono {F F':Cells}{w f:qm}(l:∀b o,F b o->F' b o)(m:∀b o,F b o->f.cell? ⟨b,o,E⟩=w.cell? ⟨b,o,E⟩)
 {p:ae} {v:qq} (h:aH F w p v):aH F' f p v:=by
 induction h with
 |unk h=>exact .unk h
 |bool=>exact .bool
 |int=>exact .int
 |str=>exact .str
 |nilI=>exact .nilI
 |agg k _ e=>exact .agg k e
 |nil=>exact .nil
 |emp h=>exact .emp h
 |sl c g a d q _ e=>
  refine .sl c g a d (λi j p r n=>?_) e;simp_all
theorem PAt.mono {F F':Cells}{w a:qm}(f:∀b o,F b o->F' b o)(e:∀b o,F b o->a.cell? ⟨b,o,E⟩=w.cell? ⟨b,o,E⟩)
 {p:ae} {b o:Nat} (h:PAt F w p b o):PAt F' a p b o:=by
 obtain⟨c,h⟩:=h;refine⟨c,λj q k=>?_⟩;obtain⟨d,i,g,l⟩:=h j q k;exact⟨f _ _ d,(e _ _ d).trans i,g,l.mono f e⟩
theorem iO {id:Nat}:∀ {l:List ac} {a:ac} {j:Nat},ac.hasL id l=false->l[j]?=D a->ac.has id a=H
 |[],_,_,_,h=>jX
 |x::l,a,0,h,b=>by
  grind[ac.hasL]
 |x::l,a,j+1,h,b=>by
  simp only[ac.hasL,qo]at h;exact iO (l:=l) (j:=j) h.2 (by simpa using b)
theorem ak.mono {F F':Cells}{w B:qm}{ρ ρ':Env}(N:Nat->Prop)(m:∀b o,F b o->F' b o)
 (t:∀b o,F b o->B.cell? ⟨b,o,E⟩=w.cell? ⟨b,o,E⟩) (k:∀id,N id->ρ'.blk id=ρ.blk id/\ρ'.vec id=ρ.vec id)
 {a:ac} {v:qq} (h:ak F w ρ a v) (e:∀id,¬N id->a.has id=H):ak F' B ρ' a v:=by
 induction h with
 |any=>exact .any
 |pure h=>exact .pure (h.mono m t)
 |tt=>exact .tt
 |ff=>exact .ff
 |agg r _ l=>exact .agg r λj a v f hv=>l j a v f hv λid d=>iO (by simpa[ac.has]using e id d) f
 |tup r _ l=>exact .tup r λj a v f hv=>l j a v f hv λid d=>iO (by simpa[ac.has]using e id d) f
 |@vnil id h=>
  refine .vnil ?_;by_cases c:N id;{rw[(k id c).2];exact h};have:=e id c;simp[ac.has]at this
 |@vec id b n g h=>
  refine .vec ?_;by_cases c:N id;{rw[(k id c).2];exact h};have:=e id c;simp[ac.has]at this
 |@ptr id z=>
  by_cases c:N id;{rw[<-(k id c).1];exact .ptr};have:=e id c;simp[ac.has]at this
 |@eptr id A i z b n g h=>
  refine .eptr ?_ (n:=n) (cap:=g);by_cases c:N id;{rw[(k id c).2];exact h};have:=e id c;simp[ac.has]at this
 |ref h=>exact .ref (h.mono m t)
 |func C _ I _ x y=>
  have key:∀id,¬N id->ac.hasL id _=H/\ac.hasL id _=false:=λid d=>by
   have:=e id d;simp only[ac.has,qo]at this;exact this
  exact .func C (λj a v f hv=>x j a v f hv λid d=>iO (key id d).1 f) I
   (λj a v f hv=>y j a v f hv λid d=>iO (key id d).2 f)
 |@map id=>
  by_cases c:N id;{rw[<-(k id c).1];exact .map};have:=e id c;simp[ac.has]at this
 |@bsl id n=>
  by_cases c:N id;{rw[<-(k id c).1];exact .bsl};have:=e id c;simp[ac.has]at this
 |iface _ l=>exact .iface (l λid d=>by simpa[ac.has]using e id d)
 |anyb=>exact .anyb
 |nilp=>exact .nilp
 |clip h=>exact .clip (h.mono m t)
 |yld=>exact .yld
 |@view id A K n b L g a h s p=>
  refine .view ?_ s p;by_cases c:N id;{rw[(k id c).2];exact h};have:=e id c;simp[ac.has]at this
 |@viewN id A K n h J=>
  refine .viewN ?_ J;by_cases c:N id;{rw[(k id c).2];exact h};have:=e id c;simp[ac.has]at this
theorem ak.mono' {F f:Cells}{w c:qm}{ρ:Env}(e:∀b o,F b o->f b o)
 (d:∀b o,F b o->c.cell? ⟨b,o,E⟩=w.cell? ⟨b,o,E⟩) {a:ac} {v:qq} (h:ak F w ρ a v):ak f c ρ a v:=
 h.mono (λ_=>True) e d (λ_ _=>⟨rfl,rfl⟩) (λ_ h=>absurd trivial h)
end Go.Abs
