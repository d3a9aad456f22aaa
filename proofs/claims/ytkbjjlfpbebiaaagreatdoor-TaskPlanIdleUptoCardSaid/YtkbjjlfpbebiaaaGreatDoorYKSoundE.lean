/-
  SoundE (a part of a claim: our own text).
-/
import Derived.Test.YtkbjjlfpbebiaaaGreatDoorYKSoundD
namespace Go.Abs
def ozp:Res->Option Res
 | .vec sz n f _ e=>some (.vec sz n f n e)
 | .vecT _ n f e _ none=>some (.vec 1 n f n e)
 | .vecU sz n f _ e _ _ _ []=>some (.vec sz n f n e)
 |_=>none
def ShareCells (w:World)(ρ:Env)(i:Nat)(r:Res)(b o:Nat):Prop:=
 match r with
 | .vec sz n _ _ _=>∃cap,ρ.vec i=some (b,n,cap)/\o<n * sz
 | .vecT sz n _ _ _ none=>(∃cap,ρ.vec i=some (b,n,cap)/\o<n)\/
  ∃b0 n0 cap c e0 q n' cap',ρ.vec i=some (b0,n0,cap)/\w.heap[b0]?=some (.cells c e0 (0,0))/\q<n/\c[q]?=some (.slice (some ⟨b,0,none⟩) n' cap')/\o<n' * sz
 | .vecU sz n _ k _ off s' _ []=>(∃cap,ρ.vec i=some (b,n,cap)/\o<n * sz)\/
  ∃b0 n0 cap c e0 q n' cap',ρ.vec i=some (b0,n0,cap)/\w.heap[b0]?=some (.cells c e0 (0,0))/\q<n/\q<k/\c[q * sz+off]?=some (.slice (some ⟨b,0,none⟩) n' cap')/\o<n' * s'
 |_=>False
def czu (F:Cells)(w:World)(ρ:Env)(m:Mem)(is:List Nat):Cells:=fun b o=>
 F b o\/∃i∈is,∃r,m.get i=some r/\ShareCells w ρ i r b o
theorem ShareCells.owns {w:World}{ρ:Env}{i:Nat}{r:Res}{b o:Nat}(h:ShareCells w ρ i r b o):Owns w ρ i r b:=by
 unfold ShareCells at h
 split at h
 ·obtain⟨cap,h,_⟩:=h;exact .inl (by simp[bzc,h])
 ·rcases h with⟨cap,h,_⟩|⟨b0,n0,cap,c,e0,q,n',cap',h1,h2,h3,h4,_⟩
  ·exact .inl (by simp[bzc,h])
  ·exact .inr ⟨b0,n0,cap,c,e0,q,h1,h2,h3,by simp,n',cap',h4⟩
 ·rcases h with⟨cap,h,_⟩|⟨b0,n0,cap,c,e0,q,n',cap',h1,h2,h3,h4,h5,_⟩
  ·exact .inl (by simp[bzc,h])
  ·exact .inr ⟨b0,n0,cap,c,e0,q,h1,h2,h3,h4,rfl,n',cap',h5⟩
 ·exact h.elim
theorem ShareCells.shared {w:World}{ρ:Env}{i:Nat}{r:Res}{b o:Nat}(h:ShareCells w ρ i r b o):∃r',ozp r=some r':=by
 unfold ShareCells at h
 split at h
 ·exact⟨_,rfl⟩
 ·exact⟨_,rfl⟩
 ·exact⟨_,rfl⟩
 ·exact h.elim
theorem yz4 {m:Mem}(id:Nat)(l:List Nat):bz6 m (id::l)=match(m.get id).bind ozp with|some r'=>(id,r')::bz6 m l|none=>bz6 m l:=by
 simp only[bz6]
 cases m.get id with
 |none=>rfl
 |some r=>cases r with
  |vecT _ _ _ _ _ h=>cases h<;>rfl
  |vecU _ _ _ _ _ _ _ _ h=>cases h<;>rfl
  |_=>rfl
theorem dzb {m:Mem}:∀ {is:List Nat} {j:Nat} {r:Res},(bz6 m is).get j=some r->j∈is/\∃r0,m.get j=some r0/\ozp r0=some r
 |[],j,r,h=>by simp[bz6,Mem.get]at h
 |i::is,j,r,h=>by
  rw[yz4]at h
  split at h
  ·rename_i r' hi
   obtain⟨r0,h1,h2⟩:=Option.bind_eq_some_iff.1 hi
   simp only[Mem.get]at h
   split at h
   ·rename_i e1;subst e1;cases h;exact⟨by simp,r0,h1,h2⟩
   ·obtain⟨h1,h2⟩:=dzb h;exact⟨by simp[h1],h2⟩
  ·obtain⟨h1,h2⟩:=dzb h;exact⟨by simp[h1],h2⟩
theorem lzi {m:Mem}:∀ {is:List Nat} {j:Nat} {r r':Res},j∈is->m.get j=some r->ozp r=some r'->(bz6 m is).get j=some r'
 |[],j,_,_,h,_,_=>by simp at h
 |i::is,j,r,r',h,hj,hr=>by
  rw[yz4]
  by_cases hij:i=j
  ·subst hij;rw[hj];simp[Mem.get,hr]
  ·have hin:j∈is:=by simpa[Ne.symm hij]using h
   split
   ·simp only[Mem.get];rw[if_neg hij];exact lzi hin hj hr
   ·exact lzi hin hj hr
theorem tze {r r':Res}(h:ozp r=some r')(i:Nat):r'.has i=false:=by
 unfold ozp at h
 split at h<;>cases h<;>rfl
theorem qzr {w:World}{ρ:Env}{j b:Nat}{r r':Res}(h:ozp r=some r')(hb:Owns w ρ j r' b):Owns w ρ j r b:=by
 unfold ozp at h
 split at h<;>cases h
 ·exact hb
 ·exact .inl (owns_vec.1 hb)
 ·exact .inl (owns_vec.1 hb)
variable {P:Program} {o:Oper} {env:Operand->AVal} {m:Mem} {id:Nat}
section
variable {F:Cells} {w:World} {ρ:Env} {Mine:Nat->Prop} {M:Mem}
theorem iz4 (hm:MemOk F w ρ Mine M)(g:Good F w Mine){is:List Nat}(hrd:∀i∈is,M.get i=m.get i):
 Step Mine F w (czu F w ρ m is) w/\MemOk (czu F w ρ m is) w ρ Mine (bz6 m is++M):=by
 have hblk:∀i∈is,∀r b o,m.get i=some r->ShareCells w ρ i r b o->M.get i=some r/\Owns w ρ i r b:=by
  intro i hi r b o h1 h2
  exact⟨(hrd i hi).trans h1,h2.owns⟩
 have st:Step Mine F w (czu F w ρ m is) w:=by
  refine⟨fun b o h=>.inl h,fun _ _ _=>rfl,fun b o h=>?_,fun b o h=>?_,Keep.refl _ _⟩
  ·rcases h with h|⟨i,hi,r,h1,h2⟩
   ·exact .inl h
   ·obtain⟨a1,a2⟩:=hblk i hi _ _ _ h1 h2
    exact .inr (hm.mine i _ b a1 a2).1
  ·rcases h with h|⟨i,hi,r,h1,h2⟩
   ·exact g.lt b o h
   ·obtain⟨a1,a2⟩:=hblk i hi _ _ _ h1 h2
    exact(hm.mine i _ b a1 a2).2
 have hsame:∀j r b o,M.get j=some r->Owns w ρ j r b->czu F w ρ m is b o->F b o\/(j∈is/\ShareCells w ρ j r b o):=by
  intro j r b o hj hb ho
  rcases ho with ho|⟨i,hi,r',h1,h2⟩
  ·exact .inl ho
  ·obtain⟨a1,a2⟩:=hblk i hi _ _ _ h1 h2
   have:i=j:=hm.disj i j _ r b a1 hj a2 hb
   subst this
   rw[hj]at a1;cases a1
   exact .inr ⟨hi,h2⟩
 refine⟨st,MemOk.step hm st (fun _=>True) (fun _ _=>⟨rfl,rfl⟩) (bz6 m is) (fun j r h hn=>⟨trivial,fun i hi=>absurd trivial hi,fun b hb=>⟨rfl,fun o ho=>?_⟩⟩) (fun j r h=>?_) (fun j j' r r' b h h' hb hb'=>?_)⟩
 ·rcases hsame j r b o h hb ho with ho|⟨hj,ho⟩
  ·exact ho
  ·obtain⟨r',hr'⟩:=ho.shared
   rw[lzi hj ((hrd j hj).symm.trans h) hr']at hn;cases hn
 ·obtain⟨hj,r0,h1,h2⟩:=dzb h
  have hM:=(hrd j hj).trans h1
  have hok:=hm.ok j _ hM
  refine⟨?_,fun b hb=>?_⟩
  ·unfold ozp at h2
   split at h2
   ·rename_i sz n f k e
    cases h2
    refine⟨Nat.le_refl _,?_⟩
    obtain⟨hk,hok⟩:=hok
    rcases hok with hnil|⟨b,cap,c,q1,q2,q3,q4,q5,q6,q7,q8⟩
    ·exact .inl hnil
    ·refine .inr ⟨b,cap,c,q1,q2,q3,q4,q5,fun o ho=>?_,q7,fun i j' p hi hp=>?_⟩
     ·rcases hsame j _ b o hM (.inl (by simp[bzc,q1])) ho with ho|⟨_,cap',_,ho⟩
      ·exact Nat.lt_of_lt_of_le (q6 o ho) (Nat.mul_le_mul_right _ hk)
      ·exact ho
     ·obtain⟨v,v1,v2,v3⟩:=q8 i j' p hi hp
      exact⟨v,v1,v2,v3.mono st.sub st.cell⟩
   ·rename_i sz n f e e'
    cases h2
    refine⟨Nat.le_refl _,.inr ?_⟩
    obtain⟨b,cap,c,q1,q2,q3,q4,q5,q6,q7,q8,q9⟩:=hok
    have hcl:∀i,i<n->∃n' g',f i=.lst sz n' g':=fun i hi=>by
     obtain⟨v,_,_,hv⟩:=q7 i hi
     obtain⟨x,n',g',p1,_,_⟩:=hv.resolve_left (by simp)
     exact⟨n',g',p1⟩
    refine⟨b,cap,c,q1,q2,q3,q4,by omega,fun o ho=>?_,fun i hi=>?_,fun i j' p hi hp=>?_⟩
    ·rcases hsame j _ b o hM (.inl (by simp[bzc,q1])) ho with ho|⟨_,ho⟩
     ·exact absurd ho (q6 o)
     ·rcases ho with⟨_,_,ho⟩|⟨b0,n0,cap0,c0,e0,q,n',cap',p1,p2,p3,p4,_⟩
      ·simpa using ho
      ·rw[q1]at p1;cases p1
       rw[q2]at p2;cases p2
       exact absurd ⟨p3,by simp,n',cap',p4⟩ (q9 q)
    ·obtain⟨n',g',e1⟩:=hcl i hi
     rw[e1];rfl
    ·obtain⟨v,v1,v2,hv⟩:=q7 i hi
     obtain⟨x,n',g',p1,p2,p3⟩:=hv.resolve_left (by simp)
     rw[p1]at hp
     have hj0:j'=0:=by
      have:=(List.getElem?_eq_some_iff.1 hp).1
      simp[PVal.cells]at this;exact this
     subst hj0
     simp[PVal.cells]at hp
     subst hp
     refine⟨v,by simpa using v1,v2,?_⟩
     subst p2
     obtain⟨_,p3⟩:=p3
     rcases p3 with⟨rfl,rfl⟩|⟨b',cap',c',rfl,r2,r3,r4,r5,r6,r7,r8⟩
     ·exact .nil
     ·refine .sl (fun x=>(c'[x]?).getD undef) r3 r4 r7 (fun i' j p hi' hp=>?_) (fun i' j p hi' hp=>?_)
      ·obtain⟨u,u1,u2,u3⟩:=r8 i' j p hi' hp
       simp only[Nat.zero_add,u1,Option.getD_some]
       refine⟨.inr ⟨_,hj,_,h1,.inr ⟨b,n,cap,c,e,i,n',cap',q1,q2,hi,v1,?_⟩⟩,by rw[cell_of_row w b' _ c' e' _ r2];exact u1,u2⟩
       have hj:j<sz:=by have:=(List.getElem?_eq_some_iff.1 hp).1;rw[r7 i' hi']at this;exact this
       calc i' * sz+j<i' * sz+sz:=by omega
        _=(i'+1) * sz:=by rw[Nat.succ_mul]
        _≤n' * sz:=Nat.mul_le_mul_right _ hi'
      ·obtain⟨u,u1,u2,u3⟩:=r8 i' j p hi' hp
       simp only[u1,Option.getD_some]
       exact u3.mono (fun b o h=>.inl h) (fun _ _ _=>rfl)
   ·rename_i sz n f k e off s' e'
    cases h2
    obtain⟨hoff,hkn,hok⟩:=hok
    refine⟨Nat.le_refl _,?_⟩
    rcases hok with⟨hn1,hn2,_⟩|⟨b,cap,c,q1,q2,q3,q4,q5,q6,q7,q9⟩
    ·exact .inl ⟨hn1,hn2⟩
    refine .inr ⟨b,cap,c,q1,q2,q3,q4,q5,fun o ho=>?_,q7.len,fun i j' p hi hp=>?_⟩
    ·rcases hsame j _ b o hM (.inl (by simp[bzc,q1])) ho with ho|⟨_,ho⟩
     ·exact absurd ho (q6 o)
     ·rcases ho with⟨_,_,ho⟩|⟨b0,n0,cap0,c0,e0,q,n',cap',p1,p2,p3,p4,p5,_⟩
      ·exact ho
      ·rw[q1]at p1;cases p1
       rw[q2]at p2;cases p2
       exact absurd ⟨p3,p4,rfl,n',cap',p5⟩ (q9 q)
    ·by_cases hj0:j'=off
     ·subst hj0
      obtain⟨v,v1,v2,v3,v4⟩:=q7.own i p hi rfl hp
      refine⟨v,v1,v2,?_⟩
      by_cases hik:i<k
      ·obtain⟨x,n',g',p1,p2,p3⟩:=v3 hik
       subst p1;subst p2
       obtain⟨_,p3⟩:=p3
       rcases p3 with⟨rfl,rfl⟩|⟨b',cap',c',rfl,r2,r3,r4,r5,r6,r7,r8⟩
       ·exact .nil
       ·refine .sl (fun x=>(c'[x]?).getD undef) r3 r4 r7 (fun i' j p hi' hp=>?_) (fun i' j p hi' hp=>?_)
        ·obtain⟨u,u1,u2,u3⟩:=r8 i' j p hi' hp
         simp only[Nat.zero_add,u1,Option.getD_some]
         refine⟨.inr ⟨_,hj,_,h1,.inr ⟨b,n,cap,c,e,i,n',cap',q1,q2,hi,hik,v1,?_⟩⟩,by rw[cell_of_row w b' _ c' e' _ r2];exact u1,u2⟩
         have hj:j<s':=by have:=(List.getElem?_eq_some_iff.1 hp).1;rw[r7 i' hi']at this;exact this
         calc i' * s'+j<i' * s'+s':=by omega
          _=(i'+1) * s':=by rw[Nat.succ_mul]
          _≤n' * s':=Nat.mul_le_mul_right _ hi'
        ·obtain⟨u,u1,u2,u3⟩:=r8 i' j p hi' hp
         simp only[u1,Option.getD_some]
         exact u3.mono (fun b o h=>.inl h) (fun _ _ _=>rfl)
      ·exact(v4 (Nat.le_of_not_lt hik)).mono (fun b o h=>.inl h) (fun _ _ _=>rfl)
     ·obtain⟨v,v1,v2,v3⟩:=q7.cell i j' p hi hj0 hp
      exact⟨v,v1,v2,v3.mono (fun b o h=>.inl h) (fun _ _ _=>rfl)⟩
   ·cases h2
  ·have hb':Owns w ρ j r0 b:=qzr h2 hb
   obtain⟨a1,a2⟩:=hm.mine j _ b hM hb'
   refine⟨a1,a2,fun k' r' hk' hn' hbk=>?_⟩
   have:=hm.disj j k' _ r' b hM hk' hb' hbk
   subst this
   rw[h]at hn';cases hn'
 ·obtain⟨hj,r0,h1,h2⟩:=dzb h
  obtain⟨hj',r0',h1',h2'⟩:=dzb h'
  exact hm.disj j j' _ _ b ((hrd j hj).trans h1) ((hrd j' hj').trans h1') (qzr h2 hb) (qzr h2' hb')
theorem Jzx (hm:MemOk F w ρ Mine M)(g:Good F w Mine){a:AVal}{v:Value}{p:PVal}{is js:List Nat}(h:Ezu m a=some (p,is))(hsub:∀i∈is,i∈js)(hrd:∀i∈is,M.get i=m.get i)
 (ha:ARel F w ρ a v):PRel (czu F w ρ m js) w p v:=by
 unfold Ezu at h
 split at h
 ·rename_i i
  split at h
  ·rename_i sz n f k e hi
   simp at h;obtain⟨rfl,rfl⟩:=h
   obtain⟨hk,hok⟩:=hm.ok i _ ((hrd i (by simp)).trans hi)
   rcases hok with⟨h1,h2⟩|⟨b,cap,c,q1,q2,q3,q4,q5,q6,q7,q8⟩
   ·cases ha with
    |vnil hh=>subst h2;exact .nil
    |vec hh=>rw[hh]at h1;cases h1
   ·cases ha with
    |vnil hh=>rw[hh]at q1;cases q1
    |vec hh=>
     rw[hh]at q1;cases q1
     refine .sl (fun x=>(c[x]?).getD undef) q3 q4 q7 (fun i' j p hi' hp=>?_) (fun i' j p hi' hp=>?_)
     ·obtain⟨u,u1,u2,u3⟩:=q8 i' j p hi' hp
      simp only[Nat.zero_add,u1,Option.getD_some]
      refine⟨.inr ⟨i,hsub i (by simp),_,hi,cap,hh,?_⟩,by rw[cell_of_row w b _ c e _ q2];exact u1,u2⟩
      have hj:j<sz:=by have:=(List.getElem?_eq_some_iff.1 hp).1;rw[q7 i' hi']at this;exact this
      calc i' * sz+j<i' * sz+sz:=by omega
       _=(i'+1) * sz:=by rw[Nat.succ_mul]
       _≤n * sz:=Nat.mul_le_mul_right _ hi'
     ·obtain⟨u,u1,u2,u3⟩:=q8 i' j p hi' hp
      simp only[u1,Option.getD_some]
      exact u3.mono (fun b o h=>.inl h) (fun _ _ _=>rfl)
  ·rename_i sz n f e e' hi
   simp at h;obtain⟨rfl,rfl⟩:=h
   have hM:=(hrd i (by simp)).trans hi
   obtain⟨_,hm1⟩:=iz4 (m:=m) hm g (is:=[i]) (by simpa using hrd)
   have hr:=hm1.ok i (.vec 1 n f n e) (by rw[Mem.get_append,lzi (by simp) hi rfl];rfl)
   obtain⟨_,hr⟩:=hr
   obtain⟨b,cap,c,q1,q2,q3,q4,q5,q6,q7,q8,q9⟩:=hm.ok i _ hM
   cases ha with
   |vnil hh=>rw[hh]at q1;cases q1
   |vec hh=>
    rw[hh]at q1;cases q1
    rcases hr with⟨h1,h2⟩|⟨b',cap',c',r1,r2,r3,r4,r5,r6,r7,r8⟩
    ·rw[hh]at h1;cases h1
    ·rw[hh]at r1;cases r1
     have hmono:∀b o,czu F w ρ m [i] b o->czu F w ρ m js b o:=by
      intro b o h
      rcases h with h|⟨k,hk,r,h1,h2⟩
      ·exact .inl h
      ·exact .inr ⟨k,hsub k hk,r,h1,h2⟩
     refine .sl (fun x=>(c'[x]?).getD undef) r3 r4 r7 (fun i' j p hi' hp=>?_) (fun i' j p hi' hp=>?_)
     ·obtain⟨u,u1,u2,u3⟩:=r8 i' j p hi' hp
      simp only[Nat.zero_add,u1,Option.getD_some]
      refine⟨.inr ⟨i,hsub i (by simp),_,hi,.inl ⟨cap,hh,?_⟩⟩,by rw[cell_of_row w b _ c' e _ r2];exact u1,u2⟩
      have hj:j<1:=by have:=(List.getElem?_eq_some_iff.1 hp).1;rw[r7 i' hi']at this;exact this
      omega
     ·obtain⟨u,u1,u2,u3⟩:=r8 i' j p hi' hp
      simp only[u1,Option.getD_some]
      exact u3.mono hmono (fun _ _ _=>rfl)
  ·rename_i sz n f k e off s' e' hi
   simp at h;obtain⟨rfl,rfl⟩:=h
   obtain⟨_,hm1⟩:=iz4 (m:=m) hm g (is:=[i]) (by simpa using hrd)
   have hr:=hm1.ok i (.vec sz n f n e) (by rw[Mem.get_append,lzi (by simp) hi rfl];rfl)
   obtain⟨_,hr⟩:=hr
   rcases hr with⟨h1,h2⟩|⟨b',cap',c',r1,r2,r3,r4,r5,r6,r7,r8⟩
   ·cases ha with
    |vnil hh=>subst h2;exact .nil
    |vec hh=>rw[hh]at h1;cases h1
   cases ha with
   |vnil hh=>rw[hh]at r1;cases r1
   |vec hh=>
    rw[hh]at r1;cases r1
    have hmono:∀b o,czu F w ρ m [i] b o->czu F w ρ m js b o:=by
     intro b o h
     rcases h with h|⟨k,hk,r,h1,h2⟩
     ·exact .inl h
     ·exact .inr ⟨k,hsub k hk,r,h1,h2⟩
    refine .sl (fun x=>(c'[x]?).getD undef) r3 r4 r7 (fun i' j p hi' hp=>?_) (fun i' j p hi' hp=>?_)
    ·obtain⟨u,u1,u2,u3⟩:=r8 i' j p hi' hp
     simp only[Nat.zero_add,u1,Option.getD_some]
     refine⟨.inr ⟨i,hsub i (by simp),_,hi,.inl ⟨_,hh,?_⟩⟩,by rw[cell_of_row w b' _ c' e _ r2];exact u1,u2⟩
     have hj:j<sz:=by have:=(List.getElem?_eq_some_iff.1 hp).1;rw[r7 i' hi']at this;exact this
     calc i' * sz+j<i' * sz+sz:=by omega
      _=(i'+1) * sz:=by rw[Nat.succ_mul]
      _≤n * sz:=Nat.mul_le_mul_right _ hi'
    ·obtain⟨u,u1,u2,u3⟩:=r8 i' j p hi' hp
     simp only[u1,Option.getD_some]
     exact u3.mono hmono (fun _ _ _=>rfl)
  ·rename_i hi
   simp at h;obtain⟨rfl,rfl⟩:=h
   have hnone:ρ.vec i=none:=hm.ok i _ ((hrd i (by simp)).trans hi)
   cases ha with
   |vnil hh=>exact .nil
   |vec hh=>rw[hh]at hnone;cases hnone
  ·cases h
 ·split at h
  ·rename_i q hq
   simp at h;obtain⟨rfl,rfl⟩:=h
   exact(ha.toP hq).mono (fun b o h=>.inl h) (fun _ _ _=>rfl)
  ·cases h
theorem Jzy (hm:MemOk F w ρ Mine M)(g:Good F w Mine){js:List Nat}:∀ {l:List AVal} {ps:List PVal} {is:List Nat},Pza m l=some (ps,is)->(∀i∈is,i∈js)->(∀i∈is,M.get i=m.get i)->
 l.length=ps.length/\∀ (j:Nat) (p:PVal),ps[j]?=some p->∃a,l[j]?=some a/\∀v,ARel F w ρ a v->PRel (czu F w ρ m js) w p v
 |[],ps,is,h,_,_=>by simp[Pza]at h;obtain⟨rfl,rfl⟩:=h;simp
 |a::l,ps,is,h,hsub,hrd=>by
  simp only[Pza]at h
  split at h
  ·rename_i p is1 h1
   split at h
   ·rename_i ps2 is2 h2
    simp at h;obtain⟨rfl,rfl⟩:=h
    obtain⟨h3,h4⟩:=Jzy hm g h2 (fun i hi=>hsub i (by simp[hi])) (fun i hi=>hrd i (by simp[hi]))
    refine⟨by simp[h3],fun j q hq=>?_⟩
    cases j with
    |zero=>simp at hq;subst hq;exact⟨a,by simp,fun v hv=>Jzx hm g h1 (fun i hi=>hsub i (by simp[hi])) (fun i hi=>hrd i (by simp[hi])) hv⟩
    |succ j=>simpa using h4 j q (by simpa using hq)
   ·cases h
  ·cases h
theorem fze (hm:MemOk F w ρ Mine M)(g:Good F w Mine){a:AVal}{v:Value}{p:PVal}{is js:List Nat}(h:kzb m a=some (p,is))(hsub:∀i∈is,i∈js)(hrd:∀i∈is,M.get i=m.get i)
 (ha:ARel F w ρ a v):PRel (czu F w ρ m js) w p v:=by
 unfold kzb at h
 split at h
 ·rename_i cs
  split at h
  ·rename_i ps is1 h1
   split at h
   ·rename_i hsc
    simp at h;obtain⟨rfl,rfl⟩:=h
    obtain⟨h2,h3⟩:=Jzy hm g h1 hsub hrd
    cases ha with
    |agg hl hr=>
     refine .agg (h2▸hl) fun j p u hp hu=>?_
     obtain⟨b,hb,hrel⟩:=h3 j p hp
     exact hrel u (hr j b u hb hu)
   ·cases h
  ·cases h
 ·exact Jzx hm g h hsub hrd ha
theorem uzx (hm:MemOk F w ρ Mine M)(g:Good F w Mine){js:List Nat}:∀ {l:List AVal} {ps:List PVal} {is:List Nat},nze m l=some (ps,is)->(∀i∈is,i∈js)->(∀i∈is,M.get i=m.get i)->
 l.length=ps.length/\∀ (j:Nat) (p:PVal),ps[j]?=some p->∃a,l[j]?=some a/\∀v,ARel F w ρ a v->PRel (czu F w ρ m js) w p v
 |[],ps,is,h,_,_=>by simp[nze]at h;obtain⟨rfl,rfl⟩:=h;simp
 |a::l,ps,is,h,hsub,hrd=>by
  simp only[nze]at h
  split at h
  ·rename_i p is1 h1
   split at h
   ·rename_i ps2 is2 h2
    simp at h;obtain⟨rfl,rfl⟩:=h
    obtain⟨h3,h4⟩:=uzx hm g h2 (fun i hi=>hsub i (by simp[hi])) (fun i hi=>hrd i (by simp[hi]))
    refine⟨by simp[h3],fun j q hq=>?_⟩
    cases j with
    |zero=>simp at hq;subst hq;exact⟨a,by simp,fun v hv=>fze hm g h1 (fun i hi=>hsub i (by simp[hi])) (fun i hi=>hrd i (by simp[hi])) hv⟩
    |succ j=>simpa using h4 j q (by simpa using hq)
   ·cases h
  ·cases h
end
end Go.Abs
