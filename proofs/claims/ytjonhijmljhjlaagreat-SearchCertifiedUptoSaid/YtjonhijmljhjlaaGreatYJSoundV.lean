import Derived.Test.YtjonhijmljhjlaaGreatYJSound
import Derived.Laws.Cells
import Derived.Laws.StructEq
import Derived.ChangeKeysEq
open Array renaming getElem?_extract->zU
open Bool renaming false_eq_true->zi
open Go renaming TypeId->qq,Value->qr
open Go.Result renaming andThen_ok->zL
open Go.Sem renaming run_bind->zM,run_pure->zN
open List renaming getElem?_map->jz,getElem?_eq_some_iff->zD,getElem?_take->ji,getElem?_drop->jU
open Option renaming map_eq_some_iff->zT
namespace Go.Abs
theorem PVal.cells_scalar {p:PVal}(h:p.scalar=true):p.cells=[p]:=by cases p<;>simp_all [PVal.cells,PVal.scalar]
section
variable {F:Cells} {w:World} {ρ:Env}
theorem gzz (v:qr):ARel F w ρ (fzl v) v:=by
 unfold fzl;split<;>first|exact .tt|exact .ff|exact .any|exact .pure .int|exact .pure .str|exact .pure .nil|exact .pure .nilI|skip
 rename_i h1 h2;refine .pure (.unk ?_);cases v<;>first|rfl|exact absurd rfl (h1 _)|exact absurd rfl (h2 _)
theorem Gzv (v:qr):ARel F w ρ (Sz5 v) v:=by
 unfold Sz5;split
 ·rename_i cs;refine ARel.mkAgg (by simp) λj a v hj hv=>?_
  simp only[jz,zT]at hj;obtain⟨u,hu,rfl⟩:=hj;have:u=v:=by
   rw[Array.getElem?_toList]at hu;exact Option.some.inj (hu.symm.trans hv)
  subst this;exact gzz u
 ·exact gzz v
end
section
variable {P:Program} {w:World}
theorem hz8 {t:qq}{s:Nat}(h:cz2 P t=some s):∃i,P.info? t=some i/\i.size=s:=by
 unfold cz2 at h;cases hi:P.info? t with
 |none=>simp[hi]at h
 |some i=>exact⟨i,rfl,by simpa[hi]using h⟩
theorem szj {t:qq}{s:Nat}(h:Bz6 P t=some s):∃i,P.info? t=some i/\i.bytes=s:=by
 unfold Bz6 at h;cases hi:P.info? t with
 |none=>simp[hi]at h
 |some i=>exact⟨i,rfl,by simpa[hi]using h⟩
theorem mzz {t:qq}{z:List qr}(h:oz5 P t=some z):∃i v,P.info? t=some i/\i.zero=some v/\v.cells.toList=z:=by
 unfold oz5 at h;cases hi:P.info? t with
 |none=>simp[hi]at h
 |some i=>
  cases hz:i.zero with
  |none=>simp[hi,hz]at h
  |some v=>exact⟨i,v,rfl,hz,by simpa[hi,hz]using h⟩
theorem dzf {t:qq}{s:Nat}(h:cz2 P t=some s):(sizeOf t).run P w=.ok s w:=by
 obtain⟨i,hi,rfl⟩:=hz8 h;simp[sizeOf,typeInfo,hi]
theorem Kz2 {t:qq}{z:List qr}(h:oz5 P t=some z):∃v,(zeroValue t).run P w=.ok v w/\v.cells.toList=z:=by
 obtain⟨i,v,hi,hz,hv⟩:=mzz h;exact⟨v,by simp[zeroValue,typeInfo,hi,hz],hv⟩
theorem Xz2 {t:qq}{b:Bool}(h:ezx P t=some b):∃d,P.underlying t=some d/\b=(match d with| .struct _| .array _ _=>true|_=>false):=by
 unfold ezx at h;split at h<;>rename_i hu
 ·simp at h;subst h;exact⟨_,hu,rfl⟩
 ·simp at h;subst h;exact⟨_,hu,rfl⟩
 ·rename_i d h1 h2;simp at h;subst h;refine⟨_,hu,?_⟩;split<;>first|rfl|(exact absurd rfl (h1 _))|(exact absurd rfl (h2 _ _))
 ·cases h
theorem Fzy {t:qq}{b:Bool}(h:ezx P t=some b):(isAgg t).run P w=.ok b w:=by
 obtain⟨d,hu,rfl⟩:=Xz2 h;unfold isAgg;rw[zM,run_underlying hu w];cases d<;>simp
theorem gzx (b o j:Nat):(⟨b,o,none⟩:Addr).add j=⟨b,o+j,none⟩:=by
 unfold Addr.add;split<;>simp_all
theorem Azu {t:qq}{s b o:Nat}{c:Nat->qr}(ha:ezx P t=some true)(hs:cz2 P t=some s)
 (h:∀j,j<s->w.cell? ⟨b,o+j,none⟩=some (c j)):(loadVar t ⟨b,o,none⟩).run P w=.ok (.agg ((List.range s).map c).toArray) w:=by
 have hl:=run_loadCells_list (P:=P) w ⟨b,o,none⟩ ((List.range s).map c) (λj v hv=>by
  rw[gzx];simp only[jz,zT]at hv;obtain⟨k,hk,rfl⟩:=hv;have:=zD.1 hk;obtain⟨h1,h2⟩:=this;simp at h1 h2;subst h2;exact h _ h1)
 simp only[List.length_map,List.length_range]at hl;simp only[loadVar,zM,Fzy ha,zL,if_true,dzf hs,hl,zN]
theorem lzl {t:qq}{a:Addr}{v:qr}(ha:ezx P t=some false)(h:w.cell? a=some v):
 (loadVar t a).run P w=.ok v w:=by
 simp only[loadVar,zM,Fzy ha,zL,zi,if_false];simp[h]
end
section
variable {F:Cells} {w:World} {ρ:Env} {P:Program}
theorem Yz4 {t:qq}{cs:List PVal}{off:Nat}{q:PVal}(h:Lzt P t cs off=some q):
 (∀ (j:Nat) (x:PVal),q.cells[j]?=some x->cs[off+j]?=some x)/\(q.cells.length=(if ezx P t=some true then(cz2 P t).getD 0 else 1))/\
 ((ezx P t=some true/\∃s,cz2 P t=some s/\q=.agg ((cs.drop off).take s)/\off+s<=cs.length)\/(ezx P t=some false/\cs[off]?=some q/\q.scalar=true)):=by
 unfold Lzt at h;split at h
 ·rename_i s ha hs;split at h
  ·rename_i hle;simp at h;subst h;refine⟨λj x hx=>?_,?_,.inl ⟨ha,s,hs,rfl,hle⟩⟩
   ·simp only[PVal.cells,ji,jU]at hx;split at hx
    ·exact hx
    ·cases hx
   ·simp[PVal.cells,ha,hs];omega
  ·cases h
 ·rename_i s ha hs;split at h
  ·rename_i p hp;split at h
   ·rename_i hsc;simp at h;subst h;have hc:p.cells=[p]:=by cases p<;>simp_all [PVal.cells,PVal.scalar]
    refine⟨λj x hx=>?_,?_,.inr ⟨ha,hp,hsc⟩⟩
    ·rw[hc]at hx;cases j with
     |zero=>simp at hx;subst hx;simpa using hp
     |succ j=>simp at hx
    ·rw[hc];simp[ha]
   ·cases h
  ·cases h
 ·cases h
theorem PAt.part {cs:List PVal}{b o off:Nat}{q:PVal}{t:qq}(h:PAt F w (.agg cs) b o)(hq:Lzt P t cs off=some q):PAt F w q b (o+off):=by
 obtain⟨c,h⟩:=h;refine⟨λj=>c (off+j),λj x hx=>?_⟩;have:=h (off+j) x ((Yz4 hq).1 j x hx);simpa[Nat.add_assoc]using this
theorem az5j {t:qq}{p:PVal}{b o:Nat}{out:Out}{m:Mem}(h:Cz3 P t (.ref p) m=some out)(hp:PAt F w p b o):
 ∃v,(loadVar t ⟨b,o,none⟩).run P w=.ok v w/\ARel F w ρ out.val v/\out.wr=[]:=by
 obtain⟨c,hc⟩:=hp;unfold Cz3 at h;simp only at h;split at h
 ·rename_i s cs ha hs;split at h
  ·rename_i hlen;simp at h;subst h;refine⟨_,Azu (c:=c) ha hs (λj hj=>?_),.pure (.agg (by simp[hlen]) λj q v hj hv=>?_),rfl⟩
   ·have:j<cs.length:=qa
    exact(hc j cs[j] (by simp[PVal.cells,this])).2.1
   ·have hjl:j<cs.length:=(zD.1 hj).1;have:=hc j q (by simpa[PVal.cells]using hj);simp[jz,zT]at hv;obtain⟨k,hk,rfl⟩:=hv;have:=(zD.1 hk);obtain⟨h1,h2⟩:=this;simp at h1 h2;subst h2;exact(hc _ q (by simpa[PVal.cells]using hj)).2.2.2
  ·cases h
 ·rename_i s p' ha hs;split at h
  ·rename_i hsc;simp at h;subst h;have:=hc 0 _ (by rw[PVal.cells_scalar hsc];rfl);exact⟨c 0,lzl ha (by simpa using this.2.1),.pure this.2.2.2,rfl⟩
  ·cases h
 ·cases h
theorem Qzr {t:qq}{cs:List AVal}{vs:Array qr}{off:Nat}{a:AVal}(h:az5q P t cs off=some a)(hl:cs.length=vs.size)
 (hr:∀ (j:Nat) (a:AVal) (v:qr),cs[j]?=some a->vs[j]?=some v->ARel F w ρ a v):
 (ezx P t=some true/\∃s,cz2 P t=some s/\off+s<=vs.size/\ARel F w ρ a (.agg (vs.extract off (off+s))))\/
 (ezx P t=some false/\∃v,vs[off]?=some v/\ARel F w ρ a v):=by
 unfold az5q at h;split at h
 ·rename_i s ha hs;split at h
  ·rename_i hle;simp at h;subst h;refine .inl ⟨ha,s,hs,qa,ARel.mkAgg (by simp;omega) λj x v hj hv=>?_⟩;simp only[ji,jU]at hj;split at hj
   ·rename_i hjs;rw[zU]at hv;split at hv
    ·exact hr (off+j) x v hj hv
    ·cases hv
   ·cases hj
  ·cases h
 ·rename_i s ha hs;have hlt:off<vs.size:=hl▸(zD.1 h).1;exact .inr ⟨ha,vs[off],by simp[hlt],hr off a _ h (by simp[hlt])⟩
 ·cases h
theorem Lzu {t:qq}{cs:List PVal}{vs:Array qr}{off:Nat}{a:PVal}(h:Lzt P t cs off=some a)(hl:cs.length=vs.size)
 (hr:∀ (j:Nat) (a:PVal) (v:qr),cs[j]?=some a->vs[j]?=some v->PRel F w a v):
 (ezx P t=some true/\∃s,cz2 P t=some s/\off+s<=vs.size/\PRel F w a (.agg (vs.extract off (off+s))))\/
 (ezx P t=some false/\∃v,vs[off]?=some v/\PRel F w a v):=by
 obtain⟨h1,h2,⟨ha,s,hs,rfl,hle⟩|⟨ha,hq,_⟩⟩:=Yz4 h
 ·refine .inl ⟨ha,s,hs,qa,.agg (by simp;omega) λj x v hj hv=>?_⟩;rw[zU]at hv;split at hv
  ·exact hr (off+j) x v (h1 j x (by simpa[PVal.cells]using hj)) hv
  ·cases hv
 ·have hlt:off<vs.size:=hl▸(zD.1 hq).1;exact .inr ⟨ha,vs[off],by simp[hlt],hr off a _ hq (by simp[hlt])⟩
theorem pzo {t:qq}{vs:Array qr}{off:Nat}{v:qr}
 (h:(ezx P t=some true/\∃s,cz2 P t=some s/\v=.agg (vs.extract off (off+s)))\/(ezx P t=some false/\vs[off]?=some v)):
 (part t vs off).run P w=.ok v w:=by
 rcases h with⟨ha,s,hs,rfl⟩|⟨ha,hv⟩
 ·simp only[part,zM,Fzy ha,zL,if_true,dzf hs,zN]
 ·simp only[part,zM,Fzy ha,zL,zi,if_false,hv,zN]
theorem mz7 {t:qq}{b off:Nat}{c:Array qr}{e:qq}{fr:Nat×Nat}{v:qr}(hb:w.heap[b]?=some (.cells c e fr))
 (h:(ezx P t=some true/\∃s,cz2 P t=some s/\off+s<=c.size/\v=.agg (c.extract off (off+s)))\/(ezx P t=some false/\c[off]?=some v)):
 (loadVar t ⟨b,off,none⟩).run P w=.ok v w:=by
 rcases h with⟨ha,s,hs,hle,rfl⟩|⟨ha,hv⟩
 ·have:=Azu (P:=P) (w:=w) (b:=b) (o:=off) (c:=λj=>c[off+j]?.getD undef) ha hs (λj hj=>by
   rw[cell_of_row w b (off+j) c e fr hb];have:off+j<c.size:=qa
   simp[this])
  rw[this];congr 2;refine Array.ext (by simp;omega) λi h1 h2=>?_
  simp at h1 h2;have:off+i<c.size:=qa
  simp[this]
 ·exact lzl ha (by rw[cell_of_row w b off c e fr hb];exact hv)
end
end Go.Abs
