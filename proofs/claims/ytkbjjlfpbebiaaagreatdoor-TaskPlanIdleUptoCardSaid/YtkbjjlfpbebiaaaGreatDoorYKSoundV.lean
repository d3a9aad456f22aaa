/-
  SoundV (a part of a claim: our own text).
-/
import Derived.Test.YtkbjjlfpbebiaaaGreatDoorYKSound
import Derived.Laws.Cells
import Derived.Laws.StructEq
import Derived.ChangeKeysEq
namespace Go.Abs
theorem PVal.cells_scalar {p:PVal}(h:p.scalar=true):p.cells=[p]:=by cases p<;>simp_all [PVal.cells,PVal.scalar]
section
variable {F:Cells} {w:World} {ρ:Env}
theorem eza (v:Value):ARel F w ρ (dzq v) v:=by
 unfold dzq
 split<;>first|exact .tt|exact .ff|exact .any|exact .pure .int|exact .pure .str|exact .pure .nil|exact .pure .nilI|exact .nilp|skip
 rename_i h1 h2 h3
 refine .pure (.unk ?_)
 cases v<;>first|rfl|exact absurd rfl (h1 _)|exact absurd rfl (h2 _)|exact absurd rfl (h3 _)
theorem wzb (v:Value):ARel F w ρ (Izp v) v:=by
 unfold Izp
 split
 ·rename_i cs
  refine ARel.mkAgg (by simp) fun j a v hj hv=>?_
  simp only[List.getElem?_map,Option.map_eq_some_iff]at hj
  obtain⟨u,hu,rfl⟩:=hj
  have:u=v:=by
   rw[Array.getElem?_toList]at hu
   exact Option.some.inj (hu.symm.trans hv)
  subst this
  exact eza u
 ·exact eza v
end
section
variable {P:Program} {w:World}
theorem ez2 {t:TypeId}{s:Nat}(h:bzi P t=some s):∃i,P.info? t=some i/\i.size=s:=by
 unfold bzi at h
 cases hi:P.info? t with
 |none=>simp[hi]at h
 |some i=>exact⟨i,rfl,by simpa[hi]using h⟩
theorem jzt {t:TypeId}{s:Nat}(h:ozs P t=some s):∃i,P.info? t=some i/\i.bytes=s:=by
 unfold ozs at h
 cases hi:P.info? t with
 |none=>simp[hi]at h
 |some i=>exact⟨i,rfl,by simpa[hi]using h⟩
theorem hz3 {t:TypeId}{z:List Value}(h:gzt P t=some z):∃i v,P.info? t=some i/\i.zero=some v/\v.cells.toList=z:=by
 unfold gzt at h
 cases hi:P.info? t with
 |none=>simp[hi]at h
 |some i=>
  cases hz:i.zero with
  |none=>simp[hi,hz]at h
  |some v=>exact⟨i,v,rfl,hz,by simpa[hi,hz]using h⟩
theorem cz2 {t:TypeId}{s:Nat}(h:bzi P t=some s):(sizeOf t).run P w=.ok s w:=by
 obtain⟨i,hi,rfl⟩:=ez2 h
 simp[sizeOf,typeInfo,hi]
theorem rz6 {t:TypeId}{z:List Value}(h:gzt P t=some z):∃v,(zeroValue t).run P w=.ok v w/\v.cells.toList=z:=by
 obtain⟨i,v,hi,hz,hv⟩:=hz3 h
 exact⟨v,by simp[zeroValue,typeInfo,hi,hz],hv⟩
theorem Mz1 {t:TypeId}{b:Bool}(h:dzk P t=some b):∃d,P.underlying t=some d/\b=(match d with| .struct _| .array _ _=>true|_=>false):=by
 unfold dzk at h
 split at h<;>rename_i hu
 ·simp at h;subst h;exact⟨_,hu,rfl⟩
 ·simp at h;subst h;exact⟨_,hu,rfl⟩
 ·rename_i d h1 h2
  simp at h;subst h
  refine⟨_,hu,?_⟩
  split<;>first|rfl|(exact absurd rfl (h1 _))|(exact absurd rfl (h2 _ _))
 ·cases h
theorem vz9 {t:TypeId}{b:Bool}(h:dzk P t=some b):(isAgg t).run P w=.ok b w:=by
 obtain⟨d,hu,rfl⟩:=Mz1 h
 unfold isAgg
 rw[Sem.run_bind,run_underlying hu w]
 cases d<;>simp
theorem dzg (b o j:Nat):(⟨b,o,none⟩:Addr).add j=⟨b,o+j,none⟩:=by
 unfold Addr.add;split<;>simp_all
theorem qzn {t:TypeId}{s b o:Nat}{c:Nat->Value}(ha:dzk P t=some true)(hs:bzi P t=some s)
 (h:∀j,j<s->w.cell? ⟨b,o+j,none⟩=some (c j)):(loadVar t ⟨b,o,none⟩).run P w=.ok (.agg ((List.range s).map c).toArray) w:=by
 have hl:=run_loadCells_list (P:=P) w ⟨b,o,none⟩ ((List.range s).map c) (fun j v hv=>by
  rw[dzg]
  simp only[List.getElem?_map,Option.map_eq_some_iff]at hv
  obtain⟨k,hk,rfl⟩:=hv
  have:=List.getElem?_eq_some_iff.1 hk
  obtain⟨h1,h2⟩:=this
  simp at h1 h2
  subst h2
  exact h _ h1)
 simp only[List.length_map,List.length_range]at hl
 simp only[loadVar,Sem.run_bind,vz9 ha,Result.andThen_ok,if_true,cz2 hs,hl,Sem.run_pure]
theorem iz2 {t:TypeId}{a:Addr}{v:Value}(ha:dzk P t=some false)(h:w.cell? a=some v):
 (loadVar t a).run P w=.ok v w:=by
 simp only[loadVar,Sem.run_bind,vz9 ha,Result.andThen_ok,Bool.false_eq_true,if_false]
 simp[h]
end
section
variable {F:Cells} {w:World} {ρ:Env} {P:Program}
theorem Mzk {t:TypeId}{cs:List PVal}{off:Nat}{q:PVal}(h:Cz2 P t cs off=some q):
 (∀ (j:Nat) (x:PVal),q.cells[j]?=some x->cs[off+j]?=some x)/\(q.cells.length=(if dzk P t=some true then(bzi P t).getD 0 else 1))/\
 ((dzk P t=some true/\∃s,bzi P t=some s/\q=.agg ((cs.drop off).take s)/\off+s≤cs.length)\/(dzk P t=some false/\cs[off]?=some q/\q.scalar=true)):=by
 unfold Cz2 at h
 split at h
 ·rename_i s ha hs
  split at h
  ·rename_i hle
   simp at h;subst h
   refine⟨fun j x hx=>?_,?_,.inl ⟨ha,s,hs,rfl,hle⟩⟩
   ·simp only[PVal.cells,List.getElem?_take,List.getElem?_drop]at hx
    split at hx
    ·exact hx
    ·cases hx
   ·simp[PVal.cells,ha,hs];omega
  ·cases h
 ·rename_i s ha hs
  split at h
  ·rename_i p hp
   split at h
   ·rename_i hsc
    simp at h;subst h
    have hc:p.cells=[p]:=by cases p<;>simp_all [PVal.cells,PVal.scalar]
    refine⟨fun j x hx=>?_,?_,.inr ⟨ha,hp,hsc⟩⟩
    ·rw[hc]at hx
     cases j with
     |zero=>simp at hx;subst hx;simpa using hp
     |succ j=>simp at hx
    ·rw[hc];simp[ha]
   ·cases h
  ·cases h
 ·cases h
theorem PAt.part {cs:List PVal}{b o off:Nat}{q:PVal}{t:TypeId}(h:PAt F w (.agg cs) b o)(hq:Cz2 P t cs off=some q):PAt F w q b (o+off):=by
 obtain⟨c,h⟩:=h
 refine⟨fun j=>c (off+j),fun j x hx=>?_⟩
 have:=h (off+j) x ((Mzk hq).1 j x hx)
 simpa[Nat.add_assoc]using this
theorem Rzd {t:TypeId}{p:PVal}{b o:Nat}{out:Out}{m:Mem}(h:sz4 P t (.ref p) m=some out)(hp:PAt F w p b o):
 ∃v,(loadVar t ⟨b,o,none⟩).run P w=.ok v w/\ARel F w ρ out.val v/\out.wr=[]:=by
 obtain⟨c,hc⟩:=hp
 unfold sz4 at h
 simp only at h
 split at h
 ·rename_i s cs ha hs
  split at h
  ·rename_i hlen
   simp at h;subst h
   refine⟨_,qzn (c:=c) ha hs (fun j hj=>?_),.pure (.agg (by simp[hlen]) fun j q v hj hv=>?_),rfl⟩
   ·have:j<cs.length:=by omega
    exact(hc j cs[j] (by simp[PVal.cells,this])).2.1
   ·have hjl:j<cs.length:=(List.getElem?_eq_some_iff.1 hj).1
    have:=hc j q (by simpa[PVal.cells]using hj)
    simp[List.getElem?_map,Option.map_eq_some_iff]at hv
    obtain⟨k,hk,rfl⟩:=hv
    have:=(List.getElem?_eq_some_iff.1 hk)
    obtain⟨h1,h2⟩:=this
    simp at h1 h2
    subst h2
    exact(hc _ q (by simpa[PVal.cells]using hj)).2.2.2
  ·cases h
 ·rename_i s p' ha hs
  split at h
  ·rename_i hsc
   simp at h;subst h
   have:=hc 0 _ (by rw[PVal.cells_scalar hsc];rfl)
   exact⟨c 0,iz2 ha (by simpa using this.2.1),.pure this.2.2.2,rfl⟩
  ·cases h
 ·cases h
theorem Hzg {t:TypeId}{cs:List AVal}{vs:Array Value}{off:Nat}{a:AVal}(h:Rzl P t cs off=some a)(hl:cs.length=vs.size)
 (hr:∀ (j:Nat) (a:AVal) (v:Value),cs[j]?=some a->vs[j]?=some v->ARel F w ρ a v):
 (dzk P t=some true/\∃s,bzi P t=some s/\off+s≤vs.size/\ARel F w ρ a (.agg (vs.extract off (off+s))))\/
 (dzk P t=some false/\∃v,vs[off]?=some v/\ARel F w ρ a v):=by
 unfold Rzl at h
 split at h
 ·rename_i s ha hs
  split at h
  ·rename_i hle
   simp at h;subst h
   refine .inl ⟨ha,s,hs,by omega,ARel.mkAgg (by simp;omega) fun j x v hj hv=>?_⟩
   simp only[List.getElem?_take,List.getElem?_drop]at hj
   split at hj
   ·rename_i hjs
    rw[Array.getElem?_extract]at hv
    split at hv
    ·exact hr (off+j) x v hj hv
    ·cases hv
   ·cases hj
  ·cases h
 ·rename_i s ha hs
  have hlt:off<vs.size:=hl▸(List.getElem?_eq_some_iff.1 h).1
  exact .inr ⟨ha,vs[off],by simp[hlt],hr off a _ h (by simp[hlt])⟩
 ·cases h
theorem Cz3 {t:TypeId}{cs:List PVal}{vs:Array Value}{off:Nat}{a:PVal}(h:Cz2 P t cs off=some a)(hl:cs.length=vs.size)
 (hr:∀ (j:Nat) (a:PVal) (v:Value),cs[j]?=some a->vs[j]?=some v->PRel F w a v):
 (dzk P t=some true/\∃s,bzi P t=some s/\off+s≤vs.size/\PRel F w a (.agg (vs.extract off (off+s))))\/
 (dzk P t=some false/\∃v,vs[off]?=some v/\PRel F w a v):=by
 obtain⟨h1,h2,⟨ha,s,hs,rfl,hle⟩|⟨ha,hq,_⟩⟩:=Mzk h
 ·refine .inl ⟨ha,s,hs,by omega,.agg (by simp;omega) fun j x v hj hv=>?_⟩
  rw[Array.getElem?_extract]at hv
  split at hv
  ·exact hr (off+j) x v (h1 j x (by simpa[PVal.cells]using hj)) hv
  ·cases hv
 ·have hlt:off<vs.size:=hl▸(List.getElem?_eq_some_iff.1 hq).1
  exact .inr ⟨ha,vs[off],by simp[hlt],hr off a _ hq (by simp[hlt])⟩
theorem kzj {t:TypeId}{vs:Array Value}{off:Nat}{v:Value}
 (h:(dzk P t=some true/\∃s,bzi P t=some s/\v=.agg (vs.extract off (off+s)))\/(dzk P t=some false/\vs[off]?=some v)):
 (part t vs off).run P w=.ok v w:=by
 rcases h with⟨ha,s,hs,rfl⟩|⟨ha,hv⟩
 ·simp only[part,Sem.run_bind,vz9 ha,Result.andThen_ok,if_true,cz2 hs,Sem.run_pure]
 ·simp only[part,Sem.run_bind,vz9 ha,Result.andThen_ok,Bool.false_eq_true,if_false,hv,Sem.run_pure]
theorem izu {t:TypeId}{b off:Nat}{c:Array Value}{e:TypeId}{fr:Nat×Nat}{v:Value}(hb:w.heap[b]?=some (.cells c e fr))
 (h:(dzk P t=some true/\∃s,bzi P t=some s/\off+s≤c.size/\v=.agg (c.extract off (off+s)))\/(dzk P t=some false/\c[off]?=some v)):
 (loadVar t ⟨b,off,none⟩).run P w=.ok v w:=by
 rcases h with⟨ha,s,hs,hle,rfl⟩|⟨ha,hv⟩
 ·have:=qzn (P:=P) (w:=w) (b:=b) (o:=off) (c:=fun j=>c[off+j]?.getD undef) ha hs (fun j hj=>by
   rw[cell_of_row w b (off+j) c e fr hb]
   have:off+j<c.size:=by omega
   simp[this])
  rw[this]
  congr 2
  refine Array.ext (by simp;omega) fun i h1 h2=>?_
  simp at h1 h2
  have:off+i<c.size:=by omega
  simp[this]
 ·exact iz2 ha (by rw[cell_of_row w b off c e fr hb];exact hv)
end
end Go.Abs
