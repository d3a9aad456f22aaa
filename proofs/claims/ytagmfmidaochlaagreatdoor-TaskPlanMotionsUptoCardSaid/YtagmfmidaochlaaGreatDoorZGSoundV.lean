import Derived.Test.YtagmfmidaochlaaGreatDoorZGSound
import Derived.Laws.Cells
import Derived.Laws.StructEq
import Derived.ChangeKeysEq
open Option renaming some->A,none->B
open Go renaming TypeId->qp,Value->qq
open List renaming getElem?_eq_some_iff->zX
namespace Go.Abs
variable {p:ae}
theorem ae.cells_scalar(h:p.scalar=true):p.cells=[p]:=by cases p<;>simp_all [ae.cells,ae.scalar]
section
variable {F:Cells} {w:World} {ρ:Env}
theorem nM (v:qq):al F w ρ (e7 v) v:=by
 unfold e7;split<;>first|exact .tt|exact .ff|exact .any|exact .pure .int|exact .pure .str|exact .pure .nil|exact .pure .nilI|exact .nilp|skip
 rename_i a b c;refine .pure (.unk ?_);cases v<;>first|rfl|exact absurd rfl (a _)|exact absurd rfl (b _)|exact absurd rfl (c _)
theorem ET (v:qq):al F w ρ (oP v) v:=by unfold oP;grind[al.mkAgg,nM]
end
section
variable {P:Program} {w:World}{t:qp}{s:Nat}
theorem kO(h:aK P t=A s):∃i,P.info? t=A i/\i.size=s:=by unfold aK at h;simp_all
theorem yr(h:i3 P t=A s):∃i,P.info? t=A i/\i.bytes=s:=by unfold i3 at h;simp_all
theorem nY{z:List qq}(h:et P t=A z):∃i v,P.info? t=A i/\i.zero=A v/\v.cells.toList=z:=by unfold et at h;cases a:P.info? t<;>simp_all
theorem cE(h:aK P t=A s):(sizeOf t).run P w=.ok s w:=by obtain⟨i,a,rfl⟩:=kO h;simp[sizeOf,typeInfo,a]
theorem tv{z:List qq}(h:et P t=A z):∃v,(zeroValue t).run P w=.ok v w/\v.cells.toList=z:=by obtain⟨i,v,c,b,a⟩:=nY h;simp_all[zeroValue,typeInfo]
theorem ad4{b:Bool}(h:aY P t=A b):∃d,P.underlying t=A d/\b=(match d with| .struct _| .array _ _=>true|_=>false):=by grind[aY]
theorem FR{b:Bool}(h:aY P t=A b):(isAgg t).run P w=.ok b w:=by obtain⟨d,a,rfl⟩:=ad4 h;unfold isAgg;rw[Sem.run_bind,run_underlying a w];cases d<;>simp
theorem dj (b o j:Nat):(⟨b,o,B⟩:Addr).add j=⟨b,o+j,B⟩:=by grind[Addr.add]
theorem Oi{s b o:Nat}{c:Nat->qq}(a:aY P t=A true)(d:aK P t=A s)
 (h:∀j,j<s->w.cell? ⟨b,o+j,B⟩=A (c j)):(loadVar t ⟨b,o,B⟩).run P w=.ok (.agg ((List.range s).map c).toArray) w:=by
 have e:=run_loadCells_list (P:=P) w ⟨b,o,B⟩ ((List.range s).map c) (λj v f=>by
  grind[dj])
 simp_all[loadVar,FR,cE]
theorem vt{a:Addr}{v:qq}(b:aY P t=A false)(h:w.cell? a=A v):
 (loadVar t a).run P w=.ok v w:=by
 simp_all[loadVar,FR]
end
section
variable {F:Cells} {w:World} {ρ:Env} {P:Program}{t:qp}{a:List ae}{d:Nat}
theorem Ta{q:ae}(h:ga P t a d=A q):
 (∀ (j:Nat) (x:ae),q.cells[j]?=A x->a[d+j]?=A x)/\(q.cells.length=(if aY P t=A true then(aK P t).getD 0 else 1))/\
 ((aY P t=A true/\∃s,aK P t=A s/\q=.agg ((a.drop d).take s)/\d+s<=a.length)\/(aY P t=A false/\a[d]?=A q/\q.scalar=true)):=by
 unfold ga at h;split at h;{grind[ae.cells]}
 ·split at h
  ·rename_i p b;split at h
   ·have c:p.cells=[p]:=by cases p<;>simp_all [ae.cells,ae.scalar]
    grind
   grind
  grind
 grind
theorem PAt.part{b o f:Nat}{q:ae}(h:PAt F w (.agg a) b o)(e:ga P t a f=A q):PAt F w q b (o+f):=by obtain⟨c,h⟩:=h;refine⟨λj=>c (f+j),λj x d=>?_⟩;have:=h (f+j) x ((Ta e).1 j x d);grind
variable {o:Nat}
theorem agD{out:Out}{m:Mem}(h:gz P t (.ref p) m=A out)(g:PAt F w p d o):
 ∃v,(loadVar t ⟨d,o,B⟩).run P w=.ok v w/\al F w ρ out.val v/\out.wr=[]:=by
 obtain⟨c,k⟩:=g;unfold gz at h;simp only at h;split at h
 ·rename_i s n b e;split at h
  ·simp at h;subst h;refine⟨_,Oi (c:=c) b e (λj i=>?_),.pure (.agg jW λj q v i r=>?_),rfl⟩;{simp_all[ae.cells]};grind[ae.cells]
  grind
 ·rename_i s l b e;split at h;{rename_i a;simp at h;subst h;have:=k 0 _ (by rw[ae.cells_scalar a];rfl);exact⟨c 0,vt b jW,.pure this.2.2.2,rfl⟩};grind
 grind
variable {k:Array qq}
theorem GG{b:List ac}{a:ac}(h:ut P t b d=A a)(f:b.length=k.size)
 (i:∀ (j:Nat) (a:ac) (v:qq),b[j]?=A a->k[j]?=A v->al F w ρ a v):
 (aY P t=A true/\∃s,aK P t=A s/\d+s<=k.size/\al F w ρ a (.agg (k.extract d (d+s))))\/
 (aY P t=A false/\∃v,k[d]?=A v/\al F w ρ a v):=by
 unfold ut at h;split at h;{grind[al.mkAgg]};{rename_i s c g;have e:d<k.size:=f▸(zX.1 h).1;exact .inr ⟨c,k[d],jV,i d a _ h jV⟩};grind
theorem FJ(h:ga P t a d=A p)(r:a.length=k.size)
 (f:∀ (j:Nat) (p:ae) (v:qq),a[j]?=A p->k[j]?=A v->az F w p v):
 (aY P t=A true/\∃s,aK P t=A s/\d+s<=k.size/\az F w p (.agg (k.extract d (d+s))))\/
 (aY P t=A false/\∃v,k[d]?=A v/\az F w p v):=by
 obtain⟨m,l,⟨c,s,i,rfl,g⟩|⟨c,b,_⟩⟩:=Ta h
 ·refine .inl ⟨c,s,i,qa,.agg jX λj x v n o=>?_⟩;grind
 have e:d<k.size:=r▸(zX.1 b).1;exact .inr ⟨c,k[d],jV,f d p _ b jV⟩
theorem iV{v:qq}
 (h:(aY P t=A true/\∃s,aK P t=A s/\v=.agg (k.extract d (d+s)))\/(aY P t=A false/\k[d]?=A v)):
 (part t k d).run P w=.ok v w:=by
 rcases h with⟨a,s,b,rfl⟩|⟨a,c⟩;all_goals simp_all[part,FR,cE]
theorem nZ {t:qp}{b off:Nat}{c:Array qq}{e:qp}{i:Nat×Nat}{v:qq}(k:w.heap[b]?=A (.cells c e i))
 (h:(aY P t=A true/\∃s,aK P t=A s/\off+s<=c.size/\v=.agg (c.extract off (off+s)))\/(aY P t=A false/\c[off]?=A v)):
 (loadVar t ⟨b,off,B⟩).run P w=.ok v w:=by
 rcases h with⟨d,s,g,f,rfl⟩|⟨d,m⟩
 ·have:=Oi (P:=P) (w:=w) (b:=b) (o:=off) (c:=λj=>c[off+j]?.getD undef) d g (λj l=>by
   grind[cell_of_row])
  rw[this];congr 2;grind
 grind[vt,cell_of_row]
end
end Go.Abs
