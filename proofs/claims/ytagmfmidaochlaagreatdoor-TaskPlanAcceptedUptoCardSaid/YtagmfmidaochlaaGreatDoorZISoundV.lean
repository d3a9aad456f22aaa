import Derived.Test.YtagmfmidaochlaaGreatDoorZISound
import Derived.Laws.Cells
import Derived.Laws.StructEq
import Derived.ChangeKeysEq
open Option renaming some->A,none->B
open Go renaming TypeId->qp,Value->qq
open List renaming getElem?_eq_some_iff->zZ
namespace Go.Abs
variable {p:ae}
theorem ae.cells_scalar(h:p.scalar=true):p.cells=[p]:=by cases p<;>simp_all [ae.cells,ae.scalar]
section
variable {F:Cells} {w:World} {ρ:Env}
theorem nF (v:qq):ak F w ρ (eX v) v:=by
 unfold eX;split<;>first|exact .tt|exact .ff|exact .any|exact .pure .int|exact .pure .str|exact .pure .nil|exact .pure .nilI|exact .nilp|skip
 rename_i a b c;refine .pure (.unk ?_);cases v<;>first|rfl|exact absurd rfl (a _)|exact absurd rfl (b _)|exact absurd rfl (c _)
theorem Dc (v:qq):ak F w ρ (oI v) v:=by unfold oI;grind[ak.mkAgg,nF]
end
section
variable {P:Program} {w:World}{t:qp}{s:Nat}
theorem kQ(h:aQ P t=A s):∃i,P.info? t=A i/\i.size=s:=by unfold aQ at h;simp_all
theorem vA(h:iT P t=A s):∃i,P.info? t=A i/\i.bytes=s:=by unfold iT at h;simp_all
theorem nO{z:List qq}(h:ee P t=A z):∃i v,P.info? t=A i/\i.zero=A v/\v.cells.toList=z:=by unfold ee at h;cases a:P.info? t<;>simp_all
theorem cz(h:aQ P t=A s):(sizeOf t).run P w=.ok s w:=by obtain⟨i,a,rfl⟩:=kQ h;simp[sizeOf,typeInfo,a]
theorem sF{z:List qq}(h:ee P t=A z):∃v,(zeroValue t).run P w=.ok v w/\v.cells.toList=z:=by obtain⟨i,v,c,b,a⟩:=nO h;simp_all[zeroValue,typeInfo]
theorem abY{b:Bool}(h:bA P t=A b):∃d,P.underlying t=A d/\b=(match d with| .struct _| .array _ _=>true|_=>false):=by grind[bA]
theorem D8{b:Bool}(h:bA P t=A b):(isAgg t).run P w=.ok b w:=by obtain⟨d,a,rfl⟩:=abY h;unfold isAgg;rw[Sem.run_bind,run_underlying a w];cases d<;>simp
theorem dg (b o j:Nat):(⟨b,o,B⟩:Addr).add j=⟨b,o+j,B⟩:=by grind[Addr.add]
theorem NL{s b o:Nat}{c:Nat->qq}(a:bA P t=A true)(d:aQ P t=A s)
 (h:∀j,j<s->w.cell? ⟨b,o+j,B⟩=A (c j)):(loadVar t ⟨b,o,B⟩).run P w=.ok (.agg ((List.range s).map c).toArray) w:=by
 have e:=run_loadCells_list (P:=P) w ⟨b,o,B⟩ ((List.range s).map c) (λj v f=>by
  grind[dg])
 simp_all[loadVar,D8,cz]
theorem uy{a:Addr}{v:qq}(b:bA P t=A false)(h:w.cell? a=A v):
 (loadVar t a).run P w=.ok v w:=by
 simp_all[loadVar,D8]
end
section
variable {F:Cells} {w:World} {ρ:Env} {P:Program}{t:qp}{a:List ae}{d:Nat}
theorem SE{q:ae}(h:f9 P t a d=A q):
 (∀ (j:Nat) (x:ae),q.cells[j]?=A x->a[d+j]?=A x)/\(q.cells.length=(if bA P t=A true then(aQ P t).getD 0 else 1))/\
 ((bA P t=A true/\∃s,aQ P t=A s/\q=.agg ((a.drop d).take s)/\d+s<=a.length)\/(bA P t=A false/\a[d]?=A q/\q.scalar=true)):=by
 unfold f9 at h;split at h;{grind[ae.cells]}
 ·split at h
  ·rename_i p b;split at h
   ·have c:p.cells=[p]:=by cases p<;>simp_all [ae.cells,ae.scalar]
    grind
   grind
  grind
 grind
theorem PAt.part{b o f:Nat}{q:ae}(h:PAt F w (.agg a) b o)(e:f9 P t a f=A q):PAt F w q b (o+f):=by obtain⟨c,h⟩:=h;refine⟨λj=>c (f+j),λj x d=>?_⟩;have:=h (f+j) x ((SE e).1 j x d);grind
variable {o:Nat}
theorem afp{out:Out}{m:Mem}(h:gv P t (.ref p) m=A out)(g:PAt F w p d o):
 ∃v,(loadVar t ⟨d,o,B⟩).run P w=.ok v w/\ak F w ρ out.val v/\out.wr=[]:=by
 obtain⟨c,k⟩:=g;unfold gv at h;simp only at h;split at h
 ·rename_i s n b e;split at h
  ·simp at h;subst h;refine⟨_,NL (c:=c) b e (λj i=>?_),.pure (.agg jW λj q v i r=>?_),rfl⟩;{simp_all[ae.cells]};grind[ae.cells]
  grind
 ·rename_i s l b e;split at h;{rename_i a;simp at h;subst h;have:=k 0 _ (by rw[ae.cells_scalar a];rfl);exact⟨c 0,uy b jW,.pure this.2.2.2,rfl⟩};grind
 grind
variable {k:Array qq}
theorem ET{b:List ac}{a:ac}(h:tN P t b d=A a)(f:b.length=k.size)
 (i:∀ (j:Nat) (a:ac) (v:qq),b[j]?=A a->k[j]?=A v->ak F w ρ a v):
 (bA P t=A true/\∃s,aQ P t=A s/\d+s<=k.size/\ak F w ρ a (.agg (k.extract d (d+s))))\/
 (bA P t=A false/\∃v,k[d]?=A v/\ak F w ρ a v):=by
 unfold tN at h;split at h;{grind[ak.mkAgg]};{rename_i s c g;have e:d<k.size:=f▸(zZ.1 h).1;exact .inr ⟨c,k[d],jV,i d a _ h jV⟩};grind
theorem D1(h:f9 P t a d=A p)(r:a.length=k.size)
 (f:∀ (j:Nat) (p:ae) (v:qq),a[j]?=A p->k[j]?=A v->aH F w p v):
 (bA P t=A true/\∃s,aQ P t=A s/\d+s<=k.size/\aH F w p (.agg (k.extract d (d+s))))\/
 (bA P t=A false/\∃v,k[d]?=A v/\aH F w p v):=by
 obtain⟨m,l,⟨c,s,i,rfl,g⟩|⟨c,b,_⟩⟩:=SE h
 ·refine .inl ⟨c,s,i,qa,.agg jX λj x v n o=>?_⟩;grind
 have e:d<k.size:=r▸(zZ.1 b).1;exact .inr ⟨c,k[d],jV,f d p _ b jV⟩
theorem iP{v:qq}
 (h:(bA P t=A true/\∃s,aQ P t=A s/\v=.agg (k.extract d (d+s)))\/(bA P t=A false/\k[d]?=A v)):
 (part t k d).run P w=.ok v w:=by
 rcases h with⟨a,s,b,rfl⟩|⟨a,c⟩;all_goals simp_all[part,D8,cz]
theorem nP {t:qp}{b off:Nat}{c:Array qq}{e:qp}{i:Nat×Nat}{v:qq}(k:w.heap[b]?=A (.cells c e i))
 (h:(bA P t=A true/\∃s,aQ P t=A s/\off+s<=c.size/\v=.agg (c.extract off (off+s)))\/(bA P t=A false/\c[off]?=A v)):
 (loadVar t ⟨b,off,B⟩).run P w=.ok v w:=by
 rcases h with⟨d,s,g,f,rfl⟩|⟨d,m⟩
 ·have:=NL (P:=P) (w:=w) (b:=b) (o:=off) (c:=λj=>c[off+j]?.getD undef) d g (λj l=>by
   grind[cell_of_row])
  rw[this];congr 2;grind
 grind[uy,cell_of_row]
end
end Go.Abs
