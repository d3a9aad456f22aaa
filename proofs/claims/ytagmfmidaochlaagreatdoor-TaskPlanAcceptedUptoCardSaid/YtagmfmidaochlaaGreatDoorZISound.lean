import Derived.Test.YtagmfmidaochlaaGreatDoorZIEval
open Option renaming some->A,none->B
open Go renaming Value->qq,World->qm
open Nat renaming le_trans->zJ
namespace Go.Abs
structure Keep (Mine:Nat->Prop) (w w':qm):Prop where
 os:w'.os=w.os
 tape:w'.tape=w.tape
 output:w'.output=w.output
 size:w.heap.size<=w'.heap.size
 block:∀k,k<w.heap.size->¬Mine k->w'.heap[k]?=w.heap[k]?
theorem Keep.refl (a:Nat->Prop)(w:qm):Keep a w w:=⟨rfl,rfl,rfl,Nat.le_refl _,λ_ _ _=>rfl⟩
theorem Keep.trans {e:Nat->Prop}{a b c:qm}(h:Keep e a b)(k:Keep e b c):Keep e a c:=
 ⟨k.os.trans h.os,k.tape.trans h.tape,k.output.trans h.output,zJ h.size k.size,
  λi hi d=>(k.block i (Nat.lt_of_lt_of_le hi h.size) d).trans (h.block i hi d)⟩
theorem TabOk.step {F d:Cells}{w e:qm}(h:TabOk F w)(f:∀b o,F b o->d b o)(g:∀b o,F b o->e.cell? ⟨b,o,B⟩=w.cell? ⟨b,o,B⟩):TabOk d e:=
 λq k l c i n a=>⟨f _ _ (h q k l c i n a).1,(g _ _ (h q k l c i n a).1).trans (h q k l c i n a).2⟩
structure bM (F:Cells) (w:qm) (Mine:Nat->Prop):Prop where
 lt:∀b o,F b o->b<w.heap.size
 mine:∀b,w.heap.size<=b->Mine b
 tab:TabOk F w
structure Step (Mine:Nat->Prop) (F:Cells) (w:qm) (F':Cells) (w':qm):Prop where
 sub:∀b o,F b o->F' b o
 cell:∀b o,F b o->w'.cell? ⟨b,o,B⟩=w.cell? ⟨b,o,B⟩
 new:∀b o,F' b o->F b o\/Mine b
 lt:∀b o,F' b o->b<w'.heap.size
 keep:Keep Mine w w'
theorem Step.refl {a:Nat->Prop}{F:Cells}{w:qm}(h:bM F w a):Step a F w F w:=
 ⟨λ_ _ h=>h,λ_ _ _=>rfl,λ_ _ h=>.inl h,h.lt,Keep.refl _ _⟩
theorem Step.trans {e:Nat->Prop}{F f c:Cells}{w d a:qm}(h:Step e F w f d)(k:Step e f d c a):Step e F w c a:=
 ⟨λb o x=>k.sub b o (h.sub b o x),λb o x=>(k.cell b o (h.sub b o x)).trans (h.cell b o x),
  λb o x=>(k.new b o x).elim (h.new b o) .inr,k.lt,h.keep.trans k.keep⟩
theorem Step.good {a:Nat->Prop}{F c:Cells}{w d:qm}(h:Step a F w c d)(g:bM F w a):bM c d a:=
 ⟨h.lt,λb e=>g.mine b (zJ h.keep.size e),g.tab.step h.sub h.cell⟩
def Own (id i:Nat):Prop:=id<=i/\i<id+64
structure dN (id:Nat) (M:Mem):Prop where
 none:∀i,Own id i->M.get i=B
 has:∀i j r,Own id i->M.get j=A r->r.has i=false
def cA (id:Nat)(ρ ρ':Env):Prop:=∀i,¬Own id i->ρ'.blk i=ρ.blk i/\ρ'.vec i=ρ.vec i
def Ran (P:Program)(o:Oper)(a:Act)(w:qm)(v:qq)(b:qm):Prop:=
 (execOp a.eval o).run P w=.ok (.value v) b\/((execOp a.eval o).run P w=.ok .skip b/\v=undef)
def aq (P:Program)(o:Oper)(env:Operand->ac)(m:Mem)(id:Nat)(out:Out):Prop:=
 ∀ (F:Cells) (w:qm) (ρ:Env) (c:Nat->Prop) (M:Mem) (a:Act),
   aG F w ρ c M->bM F w c->dN id M->(∀i∈out.rd,M.get i=m.get i)->
   (∀x∈o.op.operands,∀i,Own id i->(env x).has i=false)->
   (∀x∈o.op.operands,ak F w ρ (env x) (a.eval x))->
   ∃v b d ρ',Ran P o a w v b/\Step c F w d b/\cA id ρ ρ'/\ak d b ρ' out.val v/\aG d b ρ' c (out.wr++M)
theorem aq.still {P:Program}{o:Oper}{env:Operand->ac}{m:Mem}{id:Nat}{b:ac}{d:List Nat}{p:Option Prop}
 (h:∀ (F:Cells) (w:qm) (ρ:Env) (l:Nat->Prop) (M:Mem) (a:Act),aG F w ρ l M->(∀i∈d,M.get i=m.get i)->
  (∀x∈o.op.operands,ak F w ρ (env x) (a.eval x))->∃v,Ran P o a w v w/\ak F w ρ b v):aq P o env m id ⟨b,d,[],p⟩:=by
 intro F w ρ l M a k j _ c _ f;obtain⟨v,g,e⟩:=h F w ρ l M a k c f;exact⟨v,w,F,ρ,g,Step.refl j,λ_ _=>⟨rfl,rfl⟩,e,jW⟩
section inversion
variable {F:Cells} {w:qm} {ρ:Env}
theorem aH.int_inv {k:IntKind}{n:Int}{v:qq}(h:aH F w (.int k n) v):v=.int k n:=by cases h;rfl
theorem aH.bool_inv {b:Bool}{v:qq}(h:aH F w (.bool b) v):v=.bool b:=by cases h;rfl
theorem aH.str_inv {s:ByteArray}{v:qq}(h:aH F w (.str s) v):v=.string s:=by cases h;rfl
theorem aH.agg_inv {a:List ae}{v:qq}(h:aH F w (.agg a) v):
 ∃b:Array qq,v=.agg b/\a.length=b.size/\∀ (j:Nat) (p:ae) (v:qq),a[j]?=A p->b[j]?=A v->aH F w p v:=by
 cases h<;>grind
theorem aH.one {p:ae}{v:qq}(h:aH F w p v)(a:p.scalar=true):v.oneCell'=true:=by cases h<;>first|rfl|assumption|(simp[ae.scalar]at a)
theorem aH.lst_inv {l n:Nat}{f:Nat->ae}{v:qq}(h:aH F w (.lst l n f) v):
 (v=.slice B 0 0/\n=0)\/(∃a cap,v=.slice (A a) 0 cap/\n=0/\cap<=maxLen)\/∃b o cap,∃c:Nat->qq,v=.slice (A ⟨b,o,B⟩) n cap/\n<=cap/\cap<=maxLen/\(∀i,i<n->(f i).cells.length=l)/\
  (∀ (i j:Nat) (p:ae),i<n->(f i).cells[j]?=A p->F b (o+(i * l+j))/\w.cell? ⟨b,o+(i * l+j),B⟩=A (c (i * l+j))/\(c (i * l+j)).oneCell'=true)/\
  (∀ (i j:Nat) (p:ae),i<n->(f i).cells[j]?=A p->aH F w p (c (i * l+j))):=by
 cases h with
 |nil=>simp_all
 |emp d=>grind
 |sl c k d e g h=>exact .inr (.inr ⟨_,_,_,c,rfl,k,d,e,g,h⟩)
theorem ak.pure_inv {p:ae}{v:qq}(h:ak F w ρ (.pure p) v):aH F w p v:=by cases h;omega
theorem ak.toP {a:ac}{p:ae}{v:qq}(b:a.toP=A p)(h:ak F w ρ a v):aH F w p v:=by cases h<;>simp[ac.toP]at b<;>subst b<;>first|assumption|exact .bool
theorem ak.one {a:ac}{v:qq}(h:ak F w ρ a v)(c:a.scalar=true):v.oneCell'=true:=by
 cases h<;>first|rfl|(simp[ac.scalar]at c;done)|skip
 rename_i p b;exact b.one (by cases p<;>simp_all [ac.scalar,ae.scalar])
theorem gp:∀ {l:List ac} {i:List ae},allP l=A i->l.length=i.length/\∀ (j:Nat) (p:ae),i[j]?=A p->∃a,l[j]?=A a/\a.toP=A p
 |[],i,h=>by grind[allP]
 |a::l,i,h=>by
  simp only[allP]at h;split at h
  ·rename_i p d;split at h
   ·rename_i g b;simp at h;subst h;obtain⟨f,e⟩:=gp b;refine⟨by simp[f],λj q c=>?_⟩;cases j with
    |zero=>simp at c;subst c;exact⟨a,jV,d⟩
    |succ j=>simpa using e j q (by simpa using c)
   cases h
  cases h
theorem ak.mkAgg {b:List ac}{k:Array qq}(d:b.length=k.size)
 (h:∀ (j:Nat) (a:ac) (v:qq),b[j]?=A a->k[j]?=A v->ak F w ρ a v):ak F w ρ (mkAgg b) (.agg k):=by
 unfold Go.Abs.mkAgg;split
 ·rename_i l c;obtain⟨e,i⟩:=gp c;refine .pure (.agg (e▸d) λj p v g f=>?_);grind[toP]
 exact .agg d h
theorem ak.cells {a:ac}{v:qq}(h:ak F w ρ a v)(c:a.cells.all (·.scalar)=true):
 a.cells.length=v.cells.size/\∀ (j:Nat) (x:ac) (u:qq),a.cells[j]?=A x->v.cells[j]?=A u->ak F w ρ x u/\u.oneCell'=true:=by
 have fin:∀ {l:List ac} {k:Array qq},l.all (·.scalar)=true->l.length=k.size->(∀ (j:Nat) (a:ac) (v:qq),l[j]?=A a->k[j]?=A v->ak F w ρ a v)->
  l.length=k.size/\∀ (j:Nat) (x:ac) (u:qq),l[j]?=A x->k[j]?=A u->ak F w ρ x u/\u.oneCell'=true:=λc e h=>
  ⟨e,λj x u r f=>⟨h j x u r f,(h j x u r f).one (List.all_eq_true.1 c x (List.mem_of_getElem? r))⟩⟩
 have one:∀ {b:ac} {u:qq},ak F w ρ b u->[b].all (·.scalar)=true->u.cells=#[u]->[b].length=u.cells.size/\∀ (j:Nat) (x:ac) (t:qq),[b][j]?=A x->u.cells[j]?=A t->ak F w ρ x t/\t.oneCell'=true:=by
  intro b u y c f;rw[f];refine fin c rfl λj a v d hv=>?_
  cases j with
  |zero=>simp at d hv;subst d;subst hv;exact y
  |succ j=>simp at d
 cases h with
 |any=>simp[ac.cells,ac.scalar]at c
 |agg e h=>exact fin c e h
 |tup e h=>simp[ac.cells,ac.scalar]at c
 |pure z=>
  rename_i p;cases z with
  |agg e h=>
   refine fin c (by simpa[ac.cells,Value.cells]using e) λj a v d hv=>?_
   simp[ac.cells,List.getElem?_map,Option.map_eq_some_iff]at d;obtain⟨q,C,rfl⟩:=d;exact .pure (h j q v C hv)
  |unk f=>exact one (.pure (.unk f)) c (by cases v<;>simp_all [Value.cells,Value.oneCell'])
  |_=>exact one (.pure (by first|exact .bool|exact .int|exact .str|exact .nilI|exact .nil|exact .emp ‹_›|(apply aH.sl<;>assumption))) c rfl
 |tt=>exact one .tt c rfl
 |ff=>exact one .ff c rfl
 |vnil h=>exact one (.vnil h) c rfl
 |vec h=>exact one (.vec h) c rfl
 |ptr=>exact one .ptr c rfl
 |eptr h=>exact one (.eptr h) c rfl
 |ref h=>exact one (.ref h) c rfl
 |func g m i o=>exact one (.func g m i o) c rfl
 |map=>exact one .map c rfl
 |bsl=>exact one .bsl c rfl
 |iface h=>exact one (.iface h) c rfl
 |anyb=>exact one .anyb c rfl
 |nilp=>exact one .nilp c rfl
 |clip h=>exact one (.clip h) c rfl
 |yld=>exact one .yld c rfl
 |view g i s=>exact one (.view g i s) c rfl
 |viewN g i=>exact one (.viewN g i) c rfl
end inversion
theorem Mem.get_append (a b:Mem)(id:Nat):Mem.get (a++b) id=(Mem.get a id).or (Mem.get b id):=by induction a<;>grind[Mem.get]
end Go.Abs
