import Derived.Test.YtnfbbidmdkfilaaGreatDoorZDEval
open Go renaming Value->qr,World->qn
open Nat renaming le_trans->x8
namespace Go.Abs
structure Keep (Mine:Nat->Prop) (w w':qn):Prop where
 os:w'.os=w.os
 tape:w'.tape=w.tape
 output:w'.output=w.output
 size:w.heap.size<=w'.heap.size
 block:∀k,k<w.heap.size->¬Mine k->w'.heap[k]?=w.heap[k]?
theorem Keep.refl (Mine:Nat->Prop)(w:qn):Keep Mine w w:=⟨rfl,rfl,rfl,Nat.le_refl _,λ_ _ _=>rfl⟩
theorem Keep.trans {Mine:Nat->Prop}{a b c:qn}(h:Keep Mine a b)(k:Keep Mine b c):Keep Mine a c:=
 ⟨k.os.trans h.os,k.tape.trans h.tape,k.output.trans h.output,x8 h.size k.size,
  λi hi d=>(k.block i (Nat.lt_of_lt_of_le hi h.size) d).trans (h.block i hi d)⟩
theorem TabOk.step {F F':Cells}{w w':qn}(h:TabOk F w)(hF:∀b o,F b o->F' b o)(hw:∀b o,F b o->w'.cell? ⟨b,o,none⟩=w.cell? ⟨b,o,none⟩):TabOk F' w':=
 λq k l hq i n hn=>⟨hF _ _ (h q k l hq i n hn).1,(hw _ _ (h q k l hq i n hn).1).trans (h q k l hq i n hn).2⟩
structure Good (F:Cells) (w:qn) (Mine:Nat->Prop):Prop where
 lt:∀b o,F b o->b<w.heap.size
 mine:∀b,w.heap.size<=b->Mine b
 tab:TabOk F w
structure Step (Mine:Nat->Prop) (F:Cells) (w:qn) (F':Cells) (w':qn):Prop where
 sub:∀b o,F b o->F' b o
 cell:∀b o,F b o->w'.cell? ⟨b,o,none⟩=w.cell? ⟨b,o,none⟩
 new:∀b o,F' b o->F b o\/Mine b
 lt:∀b o,F' b o->b<w'.heap.size
 keep:Keep Mine w w'
theorem Step.refl {Mine:Nat->Prop}{F:Cells}{w:qn}(h:Good F w Mine):Step Mine F w F w:=
 ⟨λ_ _ h=>h,λ_ _ _=>rfl,λ_ _ h=>.inl h,h.lt,Keep.refl _ _⟩
theorem Step.trans {Mine:Nat->Prop}{F F' c:Cells}{w d a:qn}(h:Step Mine F w F' d)(k:Step Mine F' d c a):Step Mine F w c a:=
 ⟨λb o x=>k.sub b o (h.sub b o x),λb o x=>(k.cell b o (h.sub b o x)).trans (h.cell b o x),
  λb o x=>(k.new b o x).elim (h.new b o) .inr,k.lt,h.keep.trans k.keep⟩
theorem Step.good {Mine:Nat->Prop}{F F':Cells}{w w':qn}(h:Step Mine F w F' w')(g:Good F w Mine):Good F' w' Mine:=
 ⟨h.lt,λb hb=>g.mine b (x8 h.keep.size hb),g.tab.step h.sub h.cell⟩
def Own (id i:Nat):Prop:=id<=i/\i<id+64
structure Fresh (id:Nat) (M:Mem):Prop where
 none:∀i,Own id i->M.get i=none
 has:∀i j r,Own id i->M.get j=some r->r.has i=false
def dz4 (id:Nat)(ρ ρ':Env):Prop:=∀i,¬Own id i->ρ'.blk i=ρ.blk i/\ρ'.vec i=ρ.vec i
def Ran (P:Program)(o:Oper)(a:Act)(w:qn)(v:qr)(b:qn):Prop:=
 (execOp a.eval o).run P w=.ok (.value v) b\/((execOp a.eval o).run P w=.ok .skip b/\v=undef)
def Sound1 (P:Program)(o:Oper)(env:Operand->AVal)(m:Mem)(id:Nat)(out:Out):Prop:=
 ∀ (F:Cells) (w:qn) (ρ:Env) (Mine:Nat->Prop) (M:Mem) (a:Act),
   MemOk F w ρ Mine M->Good F w Mine->Fresh id M->(∀i∈out.rd,M.get i=m.get i)->
   (∀x∈o.op.operands,∀i,Own id i->(env x).has i=false)->
   (∀x∈o.op.operands,ARel F w ρ (env x) (a.eval x))->
   ∃v b F' ρ',Ran P o a w v b/\Step Mine F w F' b/\dz4 id ρ ρ'/\ARel F' b ρ' out.val v/\MemOk F' b ρ' Mine (out.wr++M)
theorem Sound1.still {P:Program}{o:Oper}{env:Operand->AVal}{m:Mem}{id:Nat}{b:AVal}{d:List Nat}{ob:Option Prop}
 (h:∀ (F:Cells) (w:qn) (ρ:Env) (Mine:Nat->Prop) (M:Mem) (a:Act),MemOk F w ρ Mine M->(∀i∈d,M.get i=m.get i)->
  (∀x∈o.op.operands,ARel F w ρ (env x) (a.eval x))->∃v,Ran P o a w v w/\ARel F w ρ b v):Sound1 P o env m id ⟨b,d,[],ob⟩:=by
 intro F w ρ Mine M a k j _ c _ f;obtain⟨v,g,e⟩:=h F w ρ Mine M a k c f;exact⟨v,w,F,ρ,g,Step.refl j,λ_ _=>⟨rfl,rfl⟩,e,jr⟩
section inversion
variable {F:Cells} {w:qn} {ρ:Env}
theorem PRel.int_inv {k:IntKind}{n:Int}{v:qr}(h:PRel F w (.int k n) v):v=.int k n:=by cases h;rfl
theorem PRel.bool_inv {b:Bool}{v:qr}(h:PRel F w (.bool b) v):v=.bool b:=by cases h;rfl
theorem PRel.str_inv {s:ByteArray}{v:qr}(h:PRel F w (.str s) v):v=.string s:=by cases h;rfl
theorem PRel.agg_inv {a:List PVal}{v:qr}(h:PRel F w (.agg a) v):
 ∃vs:Array qr,v=.agg vs/\a.length=vs.size/\∀ (j:Nat) (p:PVal) (v:qr),a[j]?=some p->vs[j]?=some v->PRel F w p v:=by
 cases h<;>grind
theorem PRel.one {p:PVal}{v:qr}(h:PRel F w p v)(a:p.scalar=true):v.oneCell'=true:=by
 cases h<;>first|rfl|assumption|(simp[PVal.scalar]at a)
theorem PRel.lst_inv {sz n:Nat}{f:Nat->PVal}{v:qr}(h:PRel F w (.lst sz n f) v):
 (v=.slice none 0 0/\n=0)\/(∃a cap,v=.slice (some a) 0 cap/\n=0/\cap<=maxLen)\/∃b o cap,∃c:Nat->qr,v=.slice (some ⟨b,o,none⟩) n cap/\n<=cap/\cap<=maxLen/\(∀i,i<n->(f i).cells.length=sz)/\
  (∀ (i j:Nat) (p:PVal),i<n->(f i).cells[j]?=some p->F b (o+(i * sz+j))/\w.cell? ⟨b,o+(i * sz+j),none⟩=some (c (i * sz+j))/\(c (i * sz+j)).oneCell'=true)/\
  (∀ (i j:Nat) (p:PVal),i<n->(f i).cells[j]?=some p->PRel F w p (c (i * sz+j))):=by
 cases h with
 |nil=>simp_all
 |emp d=>grind
 |sl c k d e g h=>exact .inr (.inr ⟨_,_,_,c,rfl,k,d,e,g,h⟩)
theorem ARel.pure_inv {p:PVal}{v:qr}(h:ARel F w ρ (.pure p) v):PRel F w p v:=by cases h;omega
theorem ARel.toP {a:AVal}{p:PVal}{v:qr}(b:a.toP=some p)(h:ARel F w ρ a v):PRel F w p v:=by
 cases h<;>simp[AVal.toP]at b<;>subst b<;>first|assumption|exact .bool
theorem ARel.one {a:AVal}{v:qr}(h:ARel F w ρ a v)(c:a.scalar=true):v.oneCell'=true:=by
 cases h<;>first|rfl|(simp[AVal.scalar]at c;done)|skip
 rename_i p b;exact b.one (by cases p<;>simp_all [AVal.scalar,PVal.scalar])
theorem kzo:∀ {l:List AVal} {ps:List PVal},allP l=some ps->l.length=ps.length/\∀ (j:Nat) (p:PVal),ps[j]?=some p->∃a,l[j]?=some a/\a.toP=some p
 |[],ps,h=>by grind[allP]
 |a::l,ps,h=>by
  simp only[allP]at h;split at h
  ·rename_i p d;split at h
   ·rename_i g b;simp at h;subst h;obtain⟨f,e⟩:=kzo b;refine⟨by simp[f],λj q c=>?_⟩;cases j with
    |zero=>simp at c;subst c;exact⟨a,jq,d⟩
    |succ j=>simpa using e j q (by simpa using c)
   ·cases h
  ·cases h
theorem ARel.mkAgg {b:List AVal}{vs:Array qr}(d:b.length=vs.size)
 (h:∀ (j:Nat) (a:AVal) (v:qr),b[j]?=some a->vs[j]?=some v->ARel F w ρ a v):ARel F w ρ (mkAgg b) (.agg vs):=by
 unfold Go.Abs.mkAgg;split
 ·rename_i ps c;obtain⟨e,i⟩:=kzo c;refine .pure (.agg (e▸d) λj p v g f=>?_)
  grind[toP]
 ·exact .agg d h
theorem ARel.cells {a:AVal}{v:qr}(h:ARel F w ρ a v)(hs:a.cells.all (·.scalar)=true):
 a.cells.length=v.cells.size/\∀ (j:Nat) (x:AVal) (u:qr),a.cells[j]?=some x->v.cells[j]?=some u->ARel F w ρ x u/\u.oneCell'=true:=by
 have fin:∀ {l:List AVal} {us:Array qr},l.all (·.scalar)=true->l.length=us.size->(∀ (j:Nat) (a:AVal) (v:qr),l[j]?=some a->us[j]?=some v->ARel F w ρ a v)->
  l.length=us.size/\∀ (j:Nat) (x:AVal) (u:qr),l[j]?=some x->us[j]?=some u->ARel F w ρ x u/\u.oneCell'=true:=λhs hl h=>
  ⟨hl,λj x u hx hu=>⟨h j x u hx hu,(h j x u hx hu).one (List.all_eq_true.1 hs x (List.mem_of_getElem? hx))⟩⟩
 have one:∀ {b:AVal} {u:qr},ARel F w ρ b u->[b].all (·.scalar)=true->u.cells=#[u]->[b].length=u.cells.size/\∀ (j:Nat) (x:AVal) (t:qr),[b][j]?=some x->u.cells[j]?=some t->ARel F w ρ x t/\t.oneCell'=true:=by
  intro b u hb hs hu;rw[hu];refine fin hs rfl λj a v hj hv=>?_
  cases j with
  |zero=>simp at hj hv;subst hj;subst hv;exact hb
  |succ j=>simp at hj
 cases h with
 |any=>simp[AVal.cells,AVal.scalar]at hs
 |agg hl h=>exact fin hs hl h
 |tup hl h=>simp[AVal.cells,AVal.scalar]at hs
 |pure hp=>
  rename_i p;cases hp with
  |agg hl h=>
   refine fin hs (by simpa[AVal.cells,Value.cells]using hl) λj a v hj hv=>?_
   simp[AVal.cells,List.getElem?_map,Option.map_eq_some_iff]at hj;obtain⟨q,hq,rfl⟩:=hj;exact .pure (h j q v hq hv)
  |unk hu=>exact one (.pure (.unk hu)) hs (by cases v<;>simp_all [Value.cells,Value.oneCell'])
  |_=>exact one (.pure (by first|exact .bool|exact .int|exact .str|exact .nilI|exact .nil|exact .emp ‹_›|(apply PRel.sl<;>assumption))) hs rfl
 |tt=>exact one .tt hs rfl
 |ff=>exact one .ff hs rfl
 |vnil h=>exact one (.vnil h) hs rfl
 |vec h=>exact one (.vec h) hs rfl
 |ptr=>exact one .ptr hs rfl
 |eptr h=>exact one (.eptr h) hs rfl
 |ref h=>exact one (.ref h) hs rfl
 |func h1 h1' h2 h2'=>exact one (.func h1 h1' h2 h2') hs rfl
 |map=>exact one .map hs rfl
 |bsl=>exact one .bsl hs rfl
 |iface h=>exact one (.iface h) hs rfl
 |anyb=>exact one .anyb hs rfl
 |nilp=>exact one .nilp hs rfl
 |clip h=>exact one (.clip h) hs rfl
 |yld=>exact one .yld hs rfl
 |view h1 h2 h3=>exact one (.view h1 h2 h3) hs rfl
 |viewN h1 h2=>exact one (.viewN h1 h2) hs rfl
end inversion
theorem Mem.get_append (a b:Mem)(id:Nat):Mem.get (a++b) id=(Mem.get a id).or (Mem.get b id):=by
 induction a<;>grind[Mem.get]
end Go.Abs
