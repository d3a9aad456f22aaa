/-
  SoundI (a part of a claim: our own text).
-/
import Derived.Test.YtkbjjlfpbebiaaaGreatDoorYKSoundQ
namespace Go.Abs
variable {P:Program} {o:Oper} {env:Operand->AVal} {m:Mem} {id:Nat}
theorem wzu {F:Cells}{w:World}{ρ:Env}{Mine:Nat->Prop}(g:Good F w Mine){sz n k:Nat}{f h:Nat->PVal}{olds news:List Value}{z:Value}{e:TypeId}{cap:Nat}(sh:Nat)(hsh:sh≤n)
 (hzs:z.cells.size=sz) (hlo:olds.length=n * sz) (hln:news.length=k * sz) (hcap:n+k≤cap) (hcm:cap≤maxLen)
 (hf:∀i,i<n->(f i).cells.length=sz) (hg:∀i,i<k->(h i).cells.length=sz)
 (ho:∀ (i j:Nat) (p:PVal),i<n->(f i).cells[j]?=some p->∃u,olds[i * sz+j]?=some u/\u.oneCell'=true/\PRel F w p u)
 (hn:∀ (i j:Nat) (p:PVal),i<k->(h i).cells[j]?=some p->∃u,news[i * sz+j]?=some u/\u.oneCell'=true/\PRel F w p u):
 ResOk F (w.drew.alloc (.cells (olds.toArray++news.toArray++Builtin.zeroCells z.cells (cap- (n+k))) e)) (ρ.setVec id (some (w.heap.size,n+k,cap))) id (.vec sz (n+k) (appF n f h) sh e):=by
 have hv:(ρ.setVec id (some (w.heap.size,n+k,cap))).vec id=some (w.heap.size,n+k,cap):=if_pos rfl
 refine⟨by omega,.inr ⟨w.heap.size,cap,_,hv,heap_alloc_new w.drew _,hcap,hcm,?_,fun o hF=>absurd (g.lt _ _ hF) (by omega),fun i hi=>?_,fun i j p hi hp=>?_⟩⟩
 ·simp only[Array.size_append,List.size_toArray,size_zeroCells,hzs,hlo,hln,←Nat.add_mul]
  congr 1;omega
 ·simp only[appF]
  split
  ·exact hf i ‹_›
  ·exact hg (i-n) (by omega)
 ·have stc:∀b o,F b o->(w.drew.alloc (.cells (olds.toArray++news.toArray++Builtin.zeroCells z.cells (cap- (n+k))) e)).cell? ⟨b,o,none⟩=w.cell? ⟨b,o,none⟩:=
   fun b o hF=>(World.cell?_alloc_lt w.drew _ _ (g.lt b o hF))
  simp only[appF]at hp
  split at hp
  ·rename_i hlt
   have hj:j<sz:=by have:=(List.getElem?_eq_some_iff.1 hp).1;rw[hf i hlt]at this;exact this
   obtain⟨u,u1,u2,u3⟩:=ho i j p hlt hp
   refine⟨u,?_,u2,u3.mono (fun _ _ h=>h) stc⟩
   have h1:=jzu hlt hj
   rw[Array.append_assoc,Array.getElem?_append_left (by simp;omega)]
   simpa using u1
  ·rename_i hge
   have hlt:i-n<k:=by omega
   have hj:j<sz:=by have:=(List.getElem?_eq_some_iff.1 hp).1;rw[hg (i-n) hlt]at this;exact this
   obtain⟨u,u1,u2,u3⟩:=hn (i-n) j p hlt hp
   refine⟨u,?_,u2,u3.mono (fun _ _ h=>h) stc⟩
   have h1:=jzu hlt hj
   have h2:i * sz=n * sz+(i-n) * sz:=by rw[←Nat.add_mul];congr 1;omega
   rw[Array.append_assoc,Array.getElem?_append_right (by simp;omega),Array.getElem?_append_left (by simp;omega)]
   rw[←u1,List.getElem?_toArray]
   congr 1;simp;omega
theorem append_nil {F:Cells}{w:World}{ρ:Env}{Mine:Nat->Prop}{M:Mem}(hm:MemOk F w ρ Mine M)(g:Good F w Mine)(fr:Fresh id M){t ty e:TypeId}{i:TypeInfo}{z:Value}{sz by_ k:Nat}{h:Nat->PVal}
 (ht:P.underlying t=some (.slice e)) (hi:P.info? e=some i) (hz:i.zero=some z) (hsz:i.size=sz) (hby:i.bytes=by_) (hzs:z.cells.size=sz)
 (dead:List Nat) (xv:Value) (news:List Value) (hsrc:Mzw F w sz k h xv news) (hb:k * by_≤140737488355328) (hk:k≤maxLen):
 ∃v w' F' ρ',(Builtin.append_ #[t,t] ty #[.slice none 0 0,xv]).run P w=.ok v w'/\Step Mine F w F' w'/\czm id ρ ρ'/\ARel F' w' ρ' (.vec id) v/\
  MemOk F' w' ρ' Mine ((id,.vec sz k h 0 e)::(dead.map fun d=>(d,Res.gone))++M):=by
 obtain⟨hl,hx,hone,hg,hel⟩:=hsrc
 have none0:k=0->(Builtin.append_ #[t,t] ty #[.slice none 0 0,xv]).run P w=.ok (.slice none 0 0) w->∃v w' F' ρ',(Builtin.append_ #[t,t] ty #[.slice none 0 0,xv]).run P w=.ok v w'/\Step Mine F w F' w'/\czm id ρ ρ'/\ARel F' w' ρ' (.vec id) v/\
  MemOk F' w' ρ' Mine ((id,.vec sz k h 0 e)::(dead.map fun d=>(d,Res.gone))++M):=by
  intro hk0 hr
  have hv:(ρ.setVec id none).vec id=none:=if_pos rfl
  refine⟨_,w,F,ρ.setVec id none,hr,Step.refl g,cz4 ρ id none,.vnil hv,hm.newVec fr (Step.refl g) none dead sz k 0 h e ⟨by omega,.inl ⟨hv,hk0⟩⟩ (fun b hb=>by simp at hb) (fun _ _ _ _ _ _=>⟨rfl,fun _ h=>h⟩)⟩
 rcases hx with⟨rfl,hk0⟩|⟨ad,c,rfl,hcells⟩
 ·exact none0 hk0 (nzi ht hi none 0 0 (Nat.le_refl _))
 ·by_cases hk0:k=0
  ·refine none0 hk0 ?_
   subst hk0
   have hn:news=[]:=List.eq_nil_of_length_eq_zero (by simpa using hl)
   simp[Builtin.append_,run_underlying ht,sizeOf,typeInfo,hi,Builtin.lenOf,Builtin.firstCells,loadCells,loadCellsFrom]
  ·have hmax:k≤9223372036854775807:=by simpa[maxLen]using hk
   have hr:=run_append_nil (P:=P) w t ty e i z ht hi hz ad k c news (by rw[hsz];exact hl) hcells (by omega) (by omega) (by rw[hby];omega)
   have hge:=grownCap_ge w k 0 e
   have hcm:=grownCap_le_maxLen w k 0 e hk
   have st:Step Mine F w F (w.drew.alloc (.cells (([]:List Value).toArray++news.toArray++Builtin.zeroCells z.cells (grownCap w k 0 e- (0+k))) e)):=by
    have s1:=Step.draw g
    have s2:=Step.alloc (s1.good g) (.cells (([]:List Value).toArray++news.toArray++Builtin.zeroCells z.cells (grownCap w k 0 e- (0+k))) e) (fun _=>False)
    have s3:=s1.trans s2
    exact⟨fun _ _ h=>h,s3.cell,fun _ _ h=>.inl h,fun b o h=>by have:=g.lt b o h;simp;omega,s3.keep⟩
   have hres:=wzu (id:=id) (ρ:=ρ) g (n:=0) (k:=k) (f:=h) (h:=h) (olds:=[]) (news:=news) (z:=z) (e:=e) (cap:=grownCap w k 0 e) 0 (Nat.le_refl _) hzs (by simp) hl (by omega) hcm (by simp) hg (by simp)
    (fun i j p hi hp=>by obtain⟨u,u1,u2⟩:=hel i j p hi hp;exact⟨u,u1,hone u (List.mem_of_getElem? u1),u2⟩)
   have happ:appF 0 h h=h:=by funext i;simp[appF]
   simp only[Nat.zero_add,happ]at hres st
   have e1:(w.drew.alloc (.cells (([]:List Value).toArray++news.toArray++Builtin.zeroCells z.cells (grownCap w k 0 e-k)) e))=(w.drew.alloc (.cells (news.toArray++Builtin.zeroCells z.cells (grownCap w k 0 e-k)) e)):=by simp
   rw[e1]at hres st
   have hv:(ρ.setVec id (some (w.heap.size,k,grownCap w k 0 e))).vec id=some (w.heap.size,k,grownCap w k 0 e):=if_pos rfl
   refine⟨_,_,F,ρ.setVec id (some (w.heap.size,k,grownCap w k 0 e)),hr,st,cz4 ρ id _,.vec hv,hm.newVec fr st _ dead sz k 0 h e hres (fun b hb=>?_) (fun j r b hj _ hbj=>⟨?_,fun _ h=>h⟩)⟩
   ·simp at hb;subst hb
    exact⟨g.mine _ (Nat.le_refl _),by simp,fun q r' hq _ hbq=>absurd (hm.mine q r' _ hq hbq).2 (by omega)⟩
   ·exact heap_alloc_old w.drew _ (hm.mine j r b hj hbj).2
theorem wz0 {F:Cells}{w:World}{ρ:Env}{Mine:Nat->Prop}{M:Mem}(hm:MemOk F w ρ Mine M)(g:Good F w Mine)(fr:Fresh id M){t ty e:TypeId}{i:TypeInfo}{z:Value}{sz by_ k n n0 sh old:Nat}{f h:Nat->PVal}
 (ht:P.underlying t=some (.slice e)) (hi:P.info? e=some i) (hz:i.zero=some z) (hsz:i.size=sz) (hby:i.bytes=by_) (hzs:z.cells.size=sz)
 (hM:M.get old=some (.vec sz n0 f sh e)) (hnn:n≤n0) (hshn:sh≤n) (sv xv:Value) (hs0:ρ.vec old=none->sv=.slice none 0 0) (hs1:∀b n' cap,ρ.vec old=some (b,n',cap)->sv=.slice (some ⟨b,0,none⟩) n cap) (news:List Value) (hsrc:Mzw F w sz k h xv news) (hb:(n+k) * by_≤140737488355328) (hk:n+k≤maxLen):
 ∃v w' F' ρ',(Builtin.append_ #[t,t] ty #[sv,xv]).run P w=.ok v w'/\Step Mine F w F' w'/\czm id ρ ρ'/\ARel F' w' ρ' (.vec id) v/\
  MemOk F' w' ρ' Mine ((id,.vec sz (n+k) (appF n f h) sh e)::([old].map fun d=>(d,Res.gone))++M):=by
 obtain⟨_,hok⟩:=hm.ok old _ hM
 rcases hok with⟨hnone,hn0⟩|⟨b,cap,c,hh,q2,q30,q4,q5,q6,q70,q80⟩
 ·obtain rfl:n=0:=by omega
  obtain rfl:sh=0:=by omega
  obtain rfl:=hs0 hnone
  have happ:appF 0 f h=h:=by funext i;simp[appF]
  simp only[Nat.zero_add,happ]at hb hk⊢
  exact append_nil hm g fr ht hi hz hsz hby hzs [old] xv news hsrc hb hk
 ·obtain rfl:=hs1 _ _ _ hh
  ·have q3:n≤cap:=by omega
   have q7:∀i,i<n->(f i).cells.length=sz:=fun i hi=>q70 i (by omega)
   have q8:∀ (i j:Nat) (p:PVal),i<n->(f i).cells[j]?=some p->∃v,c[i * sz+j]?=some v/\v.oneCell'=true/\PRel F w p v:=fun i j p hi hp=>q80 i j p (by omega) hp
   have hmine:=hm.mine old _ b hM (.inl (by simp[bzc,hh]))
   have hlen:n * sz≤c.size:=by rw[q5];exact Nat.mul_le_mul_right _ q3
   have hother:∀j r b',M.get j=some r->j∉[old]->Owns w ρ j r b'->b'≠b:=by
    intro j r b' hj hnot hbj e1
    subst e1
    have:=hm.disj old j _ r _ hM hj (.inl (by simp[bzc,hh])) hbj
    subst this;simp at hnot
   obtain⟨hl,hx,hone,hg,hel⟩:=hsrc
   rcases hx with⟨rfl,hk0⟩|⟨ad,cx,rfl,hcells⟩
   ·subst hk0
    have hr:=nzi (P:=P) (w:=w) (ty:=ty) ht hi (some ⟨b,0,none⟩) n cap q3
    have hv:(ρ.setVec id (some (b,n,cap))).vec id=some (b,n,cap):=if_pos rfl
    refine⟨_,w,F,ρ.setVec id (some (b,n,cap)),hr,Step.refl g,cz4 ρ id _,.vec hv,hm.newVec fr (Step.refl g) _ [old] sz (n+0) sh (appF n f h) e ⟨by omega,.inr ⟨b,cap,c,hv,q2,q3,q4,q5,q6,fun i hi=>?_,fun i j p hi hp=>?_⟩⟩ (fun b' hb'=>?_) (fun _ _ _ _ _ _=>⟨rfl,fun _ h=>h⟩)⟩
    ·simp only[appF];rw[if_pos (by omega)];exact q7 i (by omega)
    ·simp only[appF]at hp;rw[if_pos (by omega)]at hp;exact q8 i j p (by omega) hp
    ·simp at hb';subst hb'
     exact⟨hmine.1,hmine.2,fun q r' hq hnot hbq=>hother q r' _ hq hnot hbq rfl⟩
   ·by_cases hroom:n+k≤cap
    ·have hfit:n * sz+news.length≤c.size:=by rw[hl,q5,←Nat.add_mul];exact Nat.mul_le_mul_right _ hroom
     have hr:=run_append_room (P:=P) w t ty e i ht hi b n cap c q2 ad k cx news (by rw[hsz];exact hl) hcells hone hroom (by rw[hsz];exact hfit)
     rw[hsz]at hr
     have hget:∀q,((c.toList.take (n * sz)++news++c.toList.drop (n * sz+news.length)).toArray)[q]?=if n * sz≤q/\q<n * sz+news.length then news[q-n * sz]? else c[q]?:=by
      intro q
      rw[List.getElem?_toArray,ezc _ _ _ _ (by simpa using hfit)]
      simp
     have st:Step Mine F w F (w.setRow b (c.toList.take (n * sz)++news++c.toList.drop (n * sz+news.length)).toArray):=by
      refine Step.write g q2 hmine.1 (fun o hF=>?_)
      have h1:=q6 o hF
      have h2:sh * sz≤n * sz:=Nat.mul_le_mul_right _ hshn
      rw[hget,if_neg (by omega)]
     have hv:(ρ.setVec id (some (b,n+k,cap))).vec id=some (b,n+k,cap):=if_pos rfl
     refine⟨_,_,F,ρ.setVec id (some (b,n+k,cap)),hr,st,cz4 ρ id _,.vec hv,hm.newVec fr st _ [old] sz (n+k) sh (appF n f h) e ⟨by omega,.inr ⟨b,cap,_,hv,setRow_heap w b c _ e _ q2,hroom,q4,?_,q6,fun i hi=>?_,fun i j p hi hp=>?_⟩⟩ (fun b' hb'=>?_) (fun j r b' hj hnot hbj=>⟨setRow_other w b b' _ (hother j r b' hj hnot hbj),fun _ h=>h⟩)⟩
     ·rw[List.size_toArray,dz4 _ _ _ (by simpa using hfit)];simpa using q5
     ·simp only[appF]
      split
      ·exact q7 i ‹_›
      ·exact hg (i-n) (by omega)
     ·rw[hget]
      simp only[appF]at hp
      split at hp
      ·rename_i hlt
       have hj:j<sz:=by have:=(List.getElem?_eq_some_iff.1 hp).1;rw[q7 i hlt]at this;exact this
       obtain⟨u,u1,u2,u3⟩:=q8 i j p hlt hp
       have h1:=jzu hlt hj
       rw[if_neg (by omega)]
       exact⟨u,u1,u2,u3.mono st.sub st.cell⟩
      ·rename_i hge
       have hlt:i-n<k:=by omega
       have hj:j<sz:=by have:=(List.getElem?_eq_some_iff.1 hp).1;rw[hg (i-n) hlt]at this;exact this
       obtain⟨u,u1,u2⟩:=hel (i-n) j p hlt hp
       have h1:=jzu hlt hj
       have h2:i * sz=n * sz+(i-n) * sz:=by rw[←Nat.add_mul];congr 1;omega
       rw[if_pos ⟨by omega,by omega⟩]
       refine⟨u,?_,hone u (List.mem_of_getElem? u1),u2.mono st.sub st.cell⟩
       rw[←u1];congr 1;omega
     ·simp at hb';subst hb'
      exact⟨hmine.1,by simpa using hmine.2,fun q r' hq hnot hbq=>hother q r' _ hq hnot hbq rfl⟩
    ·have hmax:n+k≤9223372036854775807:=by simpa[maxLen]using hk
     have holds:∀ (j:Nat) (u:Value),(c.toList.take (n * sz))[j]?=some u->w.cell? ((⟨b,0,none⟩:Addr).add j)=some u:=by
      intro j u hu
      rw[List.getElem?_take]at hu
      split at hu
      ·rw[dzg,Nat.zero_add,cell_of_row w b j c e _ q2];simpa using hu
      ·cases hu
     have hlo:(c.toList.take (n * sz)).length=n * sz:=by simp;omega
     have hr:=run_append_grow (P:=P) w t ty e i z ht hi hz ⟨b,0,none⟩ n cap (c.toList.take (n * sz)) (by rw[hsz];exact hlo) holds ad k cx news (by rw[hsz];exact hl) hcells (by omega) (by omega) (growslice_fits (by omega) (by rw[hby];exact hb))
     have hge:=grownCap_ge w (n+k) cap e
     have hcm:=grownCap_le_maxLen w (n+k) cap e hk
     have st:Step Mine F w F (w.drew.alloc (.cells ((c.toList.take (n * sz)).toArray++news.toArray++Builtin.zeroCells z.cells (grownCap w (n+k) cap e- (n+k))) e)):=by
      have s1:=Step.draw g
      have s2:=Step.alloc (s1.good g) (.cells ((c.toList.take (n * sz)).toArray++news.toArray++Builtin.zeroCells z.cells (grownCap w (n+k) cap e- (n+k))) e) (fun _=>False)
      have s3:=s1.trans s2
      exact⟨fun _ _ h=>h,s3.cell,fun _ _ h=>.inl h,fun b o h=>by have:=g.lt b o h;simp;omega,s3.keep⟩
     have hres:=wzu (id:=id) (ρ:=ρ) g (n:=n) (k:=k) (f:=f) (h:=h) (olds:=c.toList.take (n * sz)) (news:=news) (z:=z) (e:=e) (cap:=grownCap w (n+k) cap e) sh hshn hzs hlo hl hge hcm q7 hg
      (fun i j p hi hp=>by
       obtain⟨u,u1,u2,u3⟩:=q8 i j p hi hp
       have hj:j<sz:=by have:=(List.getElem?_eq_some_iff.1 hp).1;rw[q7 i hi]at this;exact this
       exact⟨u,by rw[List.getElem?_take,if_pos (jzu hi hj)];simpa using u1,u2,u3⟩)
      (fun i j p hi hp=>by obtain⟨u,u1,u2⟩:=hel i j p hi hp;exact⟨u,u1,hone u (List.mem_of_getElem? u1),u2⟩)
     have hv:(ρ.setVec id (some (w.heap.size,n+k,grownCap w (n+k) cap e))).vec id=some (w.heap.size,n+k,grownCap w (n+k) cap e):=if_pos rfl
     refine⟨_,_,F,ρ.setVec id (some (w.heap.size,n+k,grownCap w (n+k) cap e)),hr,st,cz4 ρ id _,.vec hv,hm.newVec fr st _ [old] sz (n+k) sh (appF n f h) e hres (fun b' hb'=>?_) (fun j r b' hj _ hbj=>⟨?_,fun _ h=>h⟩)⟩
     ·simp at hb';subst hb'
      exact⟨g.mine _ (Nat.le_refl _),by simp,fun q r' hq _ hbq=>absurd (hm.mine q r' _ hq hbq).2 (by omega)⟩
     ·exact heap_alloc_old w.drew _ (hm.mine j r b' hj hbj).2
end Go.Abs
