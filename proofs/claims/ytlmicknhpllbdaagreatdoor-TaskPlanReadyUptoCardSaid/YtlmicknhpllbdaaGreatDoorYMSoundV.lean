/-
  SoundV (a part of a claim: our own text).
-/
import Derived.Test.YtlmicknhpllbdaaGreatDoorYMSound
import Derived.Laws.Cells
import Derived.Laws.StructEq
import Derived.ChangeKeysEq
namespace Go.Abs
theorem PVal.cells_scalar {p:PVal}(h:p.scalar=true):p.cells=[p]:=by cases p<;>simp_all [PVal.cells,PVal.scalar]
section
variable {F:Cells} {w:World} {ρ:Env}
theorem izj (v:Value):ARel F w ρ (fzk v) v:=by
 unfold fzk
 split<;>first|exact .tt|exact .ff|exact .any|exact .pure .int|exact .pure .str|exact .pure .nil|exact .pure .nilI|exact .nilp|skip
 rename_i h1 h2 h3
 refine .pure (.unk ?_)
 cases v<;>first|rfl|exact absurd rfl (h1 _)|exact absurd rfl (h2 _)|exact absurd rfl (h3 _)
theorem Jz7 (v:Value):ARel F w ρ (Xzg v) v:=by
 unfold Xzg
 grind[ARel.mkAgg,izj]
end
section
variable {P:Program} {w:World}
theorem izf {t:TypeId}{s:Nat}(h:bz9 P t=some s):∃i,P.info? t=some i/\i.size=s:=by
 unfold bz9 at h
 simp_all
theorem uz0 {t:TypeId}{s:Nat}(h:Czm P t=some s):∃i,P.info? t=some i/\i.bytes=s:=by
 unfold Czm at h
 simp_all
theorem nzh {t:TypeId}{z:List Value}(h:ozl P t=some z):∃i v,P.info? t=some i/\i.zero=some v/\v.cells.toList=z:=by
 unfold ozl at h
 cases hi:P.info? t<;>simp_all
theorem cz3 {t:TypeId}{s:Nat}(h:bz9 P t=some s):(sizeOf t).run P w=.ok s w:=by
 obtain⟨i,hi,rfl⟩:=izf h
 simp[sizeOf,typeInfo,hi]
theorem Nzl {t:TypeId}{z:List Value}(h:ozl P t=some z):∃v,(zeroValue t).run P w=.ok v w/\v.cells.toList=z:=by
 obtain⟨i,v,hi,b,a⟩:=nzh h
 simp_all[zeroValue,typeInfo]
theorem az1x {t:TypeId}{b:Bool}(h:eza P t=some b):∃d,P.underlying t=some d/\b=(match d with| .struct _| .array _ _=>true|_=>false):=by
 grind[eza]
theorem Qze {t:TypeId}{b:Bool}(h:eza P t=some b):(isAgg t).run P w=.ok b w:=by
 obtain⟨d,a,rfl⟩:=az1x h
 unfold isAgg
 rw[Sem.run_bind,run_underlying a w]
 cases d<;>simp
theorem ezl (b o j:Nat):(⟨b,o,none⟩:Addr).add j=⟨b,o+j,none⟩:=by
 grind[Addr.add]
theorem Cz7 {t:TypeId}{s b o:Nat}{c:Nat->Value}(a:eza P t=some true)(d:bz9 P t=some s)
 (h:∀j,j<s->w.cell? ⟨b,o+j,none⟩=some (c j)):(loadVar t ⟨b,o,none⟩).run P w=.ok (.agg ((List.range s).map c).toArray) w:=by
 have e:=run_loadCells_list (P:=P) w ⟨b,o,none⟩ ((List.range s).map c) (fun j v f=>by
  grind[ezl])
 simp_all[loadVar,Qze,cz3]
theorem lzz {t:TypeId}{a:Addr}{v:Value}(b:eza P t=some false)(h:w.cell? a=some v):
 (loadVar t a).run P w=.ok v w:=by
 simp_all[loadVar,Qze]
end
section
variable {F:Cells} {w:World} {ρ:Env} {P:Program}
theorem az31 {t:TypeId}{a:List PVal}{off:Nat}{q:PVal}(h:Pzg P t a off=some q):
 (∀ (j:Nat) (x:PVal),q.cells[j]?=some x->a[off+j]?=some x)/\(q.cells.length=(if eza P t=some true then(bz9 P t).getD 0 else 1))/\
 ((eza P t=some true/\∃s,bz9 P t=some s/\q=.agg ((a.drop off).take s)/\off+s≤a.length)\/(eza P t=some false/\a[off]?=some q/\q.scalar=true)):=by
 unfold Pzg at h
 split at h
 ·grind[PVal.cells]
 ·split at h
  ·rename_i p b
   split at h
   ·have c:p.cells=[p]:=by cases p<;>simp_all [PVal.cells,PVal.scalar]
    grind
   grind
  grind
 grind
theorem PAt.part {a:List PVal}{b o off:Nat}{q:PVal}{t:TypeId}(h:PAt F w (.agg a) b o)(e:Pzg P t a off=some q):PAt F w q b (o+off):=by
 obtain⟨c,h⟩:=h
 refine⟨fun j=>c (off+j),fun j x d=>?_⟩
 have:=h (off+j) x ((az31 e).1 j x d)
 grind
theorem aza5 {t:TypeId}{p:PVal}{b o:Nat}{out:Out}{m:Mem}(h:Dzm P t (.ref p) m=some out)(g:PAt F w p b o):
 ∃v,(loadVar t ⟨b,o,none⟩).run P w=.ok v w/\ARel F w ρ out.val v/\out.wr=[]:=by
 obtain⟨c,k⟩:=g
 unfold Dzm at h
 simp only at h
 split at h
 ·rename_i s n d e
  split at h
  ·simp at h;subst h
   refine⟨_,Cz7 (c:=c) d e (fun j i=>?_),.pure (.agg (by simp_all) fun j q v i r=>?_),rfl⟩
   ·simp_all[PVal.cells]
   grind[PVal.cells]
  grind
 ·rename_i s l d e
  split at h
  ·rename_i a
   simp at h;subst h
   have:=k 0 _ (by rw[PVal.cells_scalar a];rfl)
   exact⟨c 0,lzz d (by simp_all),.pure this.2.2.2,rfl⟩
  grind
 grind
theorem Vzm {t:TypeId}{b:List AVal}{vs:Array Value}{off:Nat}{a:AVal}(h:azad P t b off=some a)(f:b.length=vs.size)
 (d:∀ (j:Nat) (a:AVal) (v:Value),b[j]?=some a->vs[j]?=some v->ARel F w ρ a v):
 (eza P t=some true/\∃s,bz9 P t=some s/\off+s≤vs.size/\ARel F w ρ a (.agg (vs.extract off (off+s))))\/
 (eza P t=some false/\∃v,vs[off]?=some v/\ARel F w ρ a v):=by
 unfold azad at h
 split at h
 ·grind[ARel.mkAgg]
 ·rename_i s c g
  have e:off<vs.size:=f▸(List.getElem?_eq_some_iff.1 h).1
  exact .inr ⟨c,vs[off],by simp,d off a _ h (by simp)⟩
 grind
theorem Pzh {t:TypeId}{b:List PVal}{vs:Array Value}{off:Nat}{a:PVal}(h:Pzg P t b off=some a)(k:b.length=vs.size)
 (f:∀ (j:Nat) (a:PVal) (v:Value),b[j]?=some a->vs[j]?=some v->PRel F w a v):
 (eza P t=some true/\∃s,bz9 P t=some s/\off+s≤vs.size/\PRel F w a (.agg (vs.extract off (off+s))))\/
 (eza P t=some false/\∃v,vs[off]?=some v/\PRel F w a v):=by
 obtain⟨m,l,⟨c,s,i,rfl,g⟩|⟨c,d,_⟩⟩:=az31 h
 ·refine .inl ⟨c,s,i,by omega,.agg (by grind) fun j x v n o=>?_⟩
  grind
 ·have e:off<vs.size:=k▸(List.getElem?_eq_some_iff.1 d).1
  exact .inr ⟨c,vs[off],by simp,f off a _ d (by simp)⟩
theorem qzd {t:TypeId}{vs:Array Value}{off:Nat}{v:Value}
 (h:(eza P t=some true/\∃s,bz9 P t=some s/\v=.agg (vs.extract off (off+s)))\/(eza P t=some false/\vs[off]?=some v)):
 (part t vs off).run P w=.ok v w:=by
 rcases h with⟨a,s,b,rfl⟩|⟨a,c⟩
 all_goals simp_all[part,Qze,cz3]
theorem qzt {t:TypeId}{b off:Nat}{c:Array Value}{e:TypeId}{i:Nat×Nat}{v:Value}(k:w.heap[b]?=some (.cells c e i))
 (h:(eza P t=some true/\∃s,bz9 P t=some s/\off+s≤c.size/\v=.agg (c.extract off (off+s)))\/(eza P t=some false/\c[off]?=some v)):
 (loadVar t ⟨b,off,none⟩).run P w=.ok v w:=by
 rcases h with⟨d,s,g,f,rfl⟩|⟨d,m⟩
 ·have:=Cz7 (P:=P) (w:=w) (b:=b) (o:=off) (c:=fun j=>c[off+j]?.getD undef) d g (fun j l=>by
   grind[cell_of_row])
  rw[this]
  congr 2
  grind
 grind[lzz,cell_of_row]
end
end Go.Abs
