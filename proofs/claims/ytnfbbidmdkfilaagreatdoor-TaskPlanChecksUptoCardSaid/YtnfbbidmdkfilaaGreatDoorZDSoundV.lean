import Derived.Test.YtnfbbidmdkfilaaGreatDoorZDSound
import Derived.Laws.Cells
import Derived.Laws.StructEq
import Derived.ChangeKeysEq
open Go renaming TypeId->qq,Value->qr
open List renaming getElem?_eq_some_iff->zt
namespace Go.Abs
theorem PVal.cells_scalar {p:PVal}(h:p.scalar=true):p.cells=[p]:=by cases p<;>simp_all [PVal.cells,PVal.scalar]
section
variable {F:Cells} {w:World} {ρ:Env}
theorem gzy (v:qr):ARel F w ρ (fzc v) v:=by
 unfold fzc;split<;>first|exact .tt|exact .ff|exact .any|exact .pure .int|exact .pure .str|exact .pure .nil|exact .pure .nilI|exact .nilp|skip
 rename_i h1 h2 h3;refine .pure (.unk ?_);cases v<;>first|rfl|exact absurd rfl (h1 _)|exact absurd rfl (h2 _)|exact absurd rfl (h3 _)
theorem Mzi (v:qr):ARel F w ρ (az0x v) v:=by
 unfold az0x
 grind[ARel.mkAgg,gzy]
end
section
variable {P:Program} {w:World}
theorem iz9 {t:qq}{s:Nat}(h:bzi P t=some s):∃i,P.info? t=some i/\i.size=s:=by
 unfold bzi at h
 simp_all
theorem vzc {t:qq}{s:Nat}(h:Fzr P t=some s):∃i,P.info? t=some i/\i.bytes=s:=by
 unfold Fzr at h
 simp_all
theorem nzt {t:qq}{z:List qr}(h:mzg P t=some z):∃i v,P.info? t=some i/\i.zero=some v/\v.cells.toList=z:=by
 unfold mzg at h;cases hi:P.info? t<;>simp_all
theorem bzx {t:qq}{s:Nat}(h:bzi P t=some s):(sizeOf t).run P w=.ok s w:=by
 obtain⟨i,hi,rfl⟩:=iz9 h;simp[sizeOf,typeInfo,hi]
theorem Lzi {t:qq}{z:List qr}(h:mzg P t=some z):∃v,(zeroValue t).run P w=.ok v w/\v.cells.toList=z:=by
 obtain⟨i,v,hi,b,a⟩:=nzt h
 simp_all[zeroValue,typeInfo]
theorem az64 {t:qq}{b:Bool}(h:ezn P t=some b):∃d,P.underlying t=some d/\b=(match d with| .struct _| .array _ _=>true|_=>false):=by
 grind[ezn]
theorem Tzm {t:qq}{b:Bool}(h:ezn P t=some b):(isAgg t).run P w=.ok b w:=by
 obtain⟨d,a,rfl⟩:=az64 h;unfold isAgg;rw[Sem.run_bind,run_underlying a w];cases d<;>simp
theorem eze (b o j:Nat):(⟨b,o,none⟩:Addr).add j=⟨b,o+j,none⟩:=by
 grind[Addr.add]
theorem Fzc {t:qq}{s b o:Nat}{c:Nat->qr}(a:ezn P t=some true)(d:bzi P t=some s)
 (h:∀j,j<s->w.cell? ⟨b,o+j,none⟩=some (c j)):(loadVar t ⟨b,o,none⟩).run P w=.ok (.agg ((List.range s).map c).toArray) w:=by
 have e:=run_loadCells_list (P:=P) w ⟨b,o,none⟩ ((List.range s).map c) (λj v f=>by
  grind[eze])
 simp_all[loadVar,Tzm,bzx]
theorem lzp {t:qq}{a:Addr}{v:qr}(b:ezn P t=some false)(h:w.cell? a=some v):
 (loadVar t a).run P w=.ok v w:=by
 simp_all[loadVar,Tzm]
end
section
variable {F:Cells} {w:World} {ρ:Env} {P:Program}
theorem az7l {t:qq}{a:List PVal}{off:Nat}{q:PVal}(h:Szj P t a off=some q):
 (∀ (j:Nat) (x:PVal),q.cells[j]?=some x->a[off+j]?=some x)/\(q.cells.length=(if ezn P t=some true then(bzi P t).getD 0 else 1))/\
 ((ezn P t=some true/\∃s,bzi P t=some s/\q=.agg ((a.drop off).take s)/\off+s<=a.length)\/(ezn P t=some false/\a[off]?=some q/\q.scalar=true)):=by
 unfold Szj at h;split at h
 ·grind[PVal.cells]
 ·split at h
  ·rename_i p b;split at h
   ·have c:p.cells=[p]:=by cases p<;>simp_all [PVal.cells,PVal.scalar]
    grind
   grind
  grind
 grind
theorem PAt.part {a:List PVal}{b o off:Nat}{q:PVal}{t:qq}(h:PAt F w (.agg a) b o)(e:Szj P t a off=some q):PAt F w q b (o+off):=by
 obtain⟨c,h⟩:=h;refine⟨λj=>c (off+j),λj x d=>?_⟩;have:=h (off+j) x ((az7l e).1 j x d)
 grind
theorem azhd {t:qq}{p:PVal}{b o:Nat}{out:Out}{m:Mem}(h:Gzx P t (.ref p) m=some out)(g:PAt F w p b o):
 ∃v,(loadVar t ⟨b,o,none⟩).run P w=.ok v w/\ARel F w ρ out.val v/\out.wr=[]:=by
 obtain⟨c,k⟩:=g;unfold Gzx at h;simp only at h;split at h
 ·rename_i s n d e;split at h
  ·simp at h;subst h;refine⟨_,Fzc (c:=c) d e (λj i=>?_),.pure (.agg jr λj q v i r=>?_),rfl⟩
   ·simp_all[PVal.cells]
   grind[PVal.cells]
  grind
 ·rename_i s l d e;split at h
  ·rename_i a;simp at h;subst h;have:=k 0 _ (by rw[PVal.cells_scalar a];rfl);exact⟨c 0,lzp d jr,.pure this.2.2.2,rfl⟩
  grind
 grind
theorem Yzv {t:qq}{b:List AVal}{vs:Array qr}{off:Nat}{a:AVal}(h:azho P t b off=some a)(f:b.length=vs.size)
 (d:∀ (j:Nat) (a:AVal) (v:qr),b[j]?=some a->vs[j]?=some v->ARel F w ρ a v):
 (ezn P t=some true/\∃s,bzi P t=some s/\off+s<=vs.size/\ARel F w ρ a (.agg (vs.extract off (off+s))))\/
 (ezn P t=some false/\∃v,vs[off]?=some v/\ARel F w ρ a v):=by
 unfold azho at h;split at h
 ·grind[ARel.mkAgg]
 ·rename_i s c g;have e:off<vs.size:=f▸(zt.1 h).1;exact .inr ⟨c,vs[off],jq,d off a _ h jq⟩
 grind
theorem Szk {t:qq}{b:List PVal}{vs:Array qr}{off:Nat}{a:PVal}(h:Szj P t b off=some a)(k:b.length=vs.size)
 (f:∀ (j:Nat) (a:PVal) (v:qr),b[j]?=some a->vs[j]?=some v->PRel F w a v):
 (ezn P t=some true/\∃s,bzi P t=some s/\off+s<=vs.size/\PRel F w a (.agg (vs.extract off (off+s))))\/
 (ezn P t=some false/\∃v,vs[off]?=some v/\PRel F w a v):=by
 obtain⟨m,l,⟨c,s,i,rfl,g⟩|⟨c,d,_⟩⟩:=az7l h
 ·refine .inl ⟨c,s,i,qa,.agg jt λj x v n o=>?_⟩
  grind
 ·have e:off<vs.size:=k▸(zt.1 d).1;exact .inr ⟨c,vs[off],jq,f off a _ d jq⟩
theorem qzw {t:qq}{vs:Array qr}{off:Nat}{v:qr}
 (h:(ezn P t=some true/\∃s,bzi P t=some s/\v=.agg (vs.extract off (off+s)))\/(ezn P t=some false/\vs[off]?=some v)):
 (part t vs off).run P w=.ok v w:=by
 rcases h with⟨a,s,b,rfl⟩|⟨a,c⟩;all_goals simp_all[part,Tzm,bzx]
theorem rzd {t:qq}{b off:Nat}{c:Array qr}{e:qq}{i:Nat×Nat}{v:qr}(k:w.heap[b]?=some (.cells c e i))
 (h:(ezn P t=some true/\∃s,bzi P t=some s/\off+s<=c.size/\v=.agg (c.extract off (off+s)))\/(ezn P t=some false/\c[off]?=some v)):
 (loadVar t ⟨b,off,none⟩).run P w=.ok v w:=by
 rcases h with⟨d,s,g,f,rfl⟩|⟨d,m⟩
 ·have:=Fzc (P:=P) (w:=w) (b:=b) (o:=off) (c:=λj=>c[off+j]?.getD undef) d g (λj l=>by
   grind[cell_of_row])
  rw[this];congr 2
  grind
 grind[lzp,cell_of_row]
end
end Go.Abs
