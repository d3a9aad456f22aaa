import Derived.Test.YtjonhijmljhjlaaGreatYJSoundQ
open Array renaming append_assoc->jn,getElem?_append_left->zR
open Go renaming Value->qr
open List renaming size_toArray->jb,getElem?_eq_some_iff->zD,getElem?_toArray->jd,mem_of_getElem?->jq,getElem?_take->ji
open Nat renaming add_mul->jm,le_refl->wz,zero_add->qE,mul_le_mul_right->zn
namespace Go.Abs
variable {P:Program} {o:Oper} {env:Operand->AVal} {m:Mem} {id:Nat}
theorem Ozl {F:Cells}{w:World}{ρ:Env}{Mine:Nat->Prop}(g:Good F w Mine){sz n k:Nat}{f h:Nat->PVal}{olds news:List qr}{z:qr}{e:TypeId}{cap:Nat}(sh:Nat)(hsh:sh<=n)
 (hzs:z.cells.size=sz) (hlo:olds.length=n * sz) (hln:news.length=k * sz) (hcap:n+k<=cap) (hcm:cap<=maxLen)
 (hf:∀i,i<n->(f i).cells.length=sz) (hg:∀i,i<k->(h i).cells.length=sz)
 (ho:∀ (i j:Nat) (p:PVal),i<n->(f i).cells[j]?=some p->∃u,olds[i * sz+j]?=some u/\u.oneCell'=true/\PRel F w p u)
 (hn:∀ (i j:Nat) (p:PVal),i<k->(h i).cells[j]?=some p->∃u,news[i * sz+j]?=some u/\u.oneCell'=true/\PRel F w p u):
 ResOk F (w.drew.alloc (.cells (olds.toArray++news.toArray++Builtin.zeroCells z.cells (cap- (n+k))) e)) (ρ.setVec id (some (w.heap.size,n+k,cap))) id (.vec sz (n+k) (appF n f h) sh e):=by
 have hv:(ρ.setVec id (some (w.heap.size,n+k,cap))).vec id=some (w.heap.size,n+k,cap):=qc rfl;refine⟨qa,.inr ⟨w.heap.size,cap,_,hv,heap_alloc_new w.drew _,hcap,hcm,?_,λo hF=>absurd (g.lt _ _ hF) qa,λi hi=>?_,λi j p hi hp=>?_⟩⟩
 ·simp only[Array.size_append,jb,size_zeroCells,hzs,hlo,hln,<-jm];congr 1;omega
 ·simp only[appF];split
  ·exact hf i ‹_›
  ·exact hg (i-n) qa
 ·have stc:∀b o,F b o->(w.drew.alloc (.cells (olds.toArray++news.toArray++Builtin.zeroCells z.cells (cap- (n+k))) e)).cell? ⟨b,o,none⟩=w.cell? ⟨b,o,none⟩:=
   λb o hF=>(World.cell?_alloc_lt w.drew _ _ (g.lt b o hF))
  simp only[appF]at hp;split at hp
  ·rename_i hlt;have hj:j<sz:=by have:=(zD.1 hp).1;rw[hf i hlt]at this;exact this
   obtain⟨u,u1,u2,u3⟩:=ho i j p hlt hp;refine⟨u,?_,u2,u3.mono (λ_ _ h=>h) stc⟩;have h1:=qz9 hlt hj;rw[jn,zR (by simp;omega)];simpa using u1
  ·rename_i hge;have hlt:i-n<k:=qa
   have hj:j<sz:=by have:=(zD.1 hp).1;rw[hg (i-n) hlt]at this;exact this
   obtain⟨u,u1,u2,u3⟩:=hn (i-n) j p hlt hp;refine⟨u,?_,u2,u3.mono (λ_ _ h=>h) stc⟩;have h1:=qz9 hlt hj;have h2:i * sz=n * sz+(i-n) * sz:=by rw[<-jm];congr 1;omega
   rw[jn,Array.getElem?_append_right (by simp;omega),zR (by simp;omega)];rw[<-u1,jd];congr 1;simp;omega
theorem append_nil {F:Cells}{w:World}{ρ:Env}{Mine:Nat->Prop}{M:Mem}(hm:MemOk F w ρ Mine M)(g:Good F w Mine)(fr:Fresh id M){t ty e:TypeId}{i:TypeInfo}{z:qr}{sz by_ k:Nat}{h:Nat->PVal}
 (ht:P.underlying t=some (.slice e)) (hi:P.info? e=some i) (hz:i.zero=some z) (hsz:i.size=sz) (hby:i.bytes=by_) (hzs:z.cells.size=sz)
 (dead:List Nat) (xv:qr) (news:List qr) (hsrc:az40 F w sz k h xv news) (hb:k * by_<=140737488355328) (hk:k<=maxLen):
 ∃v w' F' ρ',(Builtin.append_ #[t,t] ty #[.slice none 0 0,xv]).run P w=.ok v w'/\Step Mine F w F' w'/\dzr id ρ ρ'/\ARel F' w' ρ' (.vec id) v/\
  MemOk F' w' ρ' Mine ((id,.vec sz k h 0 e)::(dead.map λd=>(d,Res.gone))++M):=by
 obtain⟨hl,hx,hone,hg,hel⟩:=hsrc
 have none0:k=0->(Builtin.append_ #[t,t] ty #[.slice none 0 0,xv]).run P w=.ok (.slice none 0 0) w->∃v w' F' ρ',(Builtin.append_ #[t,t] ty #[.slice none 0 0,xv]).run P w=.ok v w'/\Step Mine F w F' w'/\dzr id ρ ρ'/\ARel F' w' ρ' (.vec id) v/\
  MemOk F' w' ρ' Mine ((id,.vec sz k h 0 e)::(dead.map λd=>(d,Res.gone))++M):=by
  intro hk0 hr;have hv:(ρ.setVec id none).vec id=none:=qc rfl;refine⟨_,w,F,ρ.setVec id none,hr,Step.refl g,czm ρ id none,.vnil hv,hm.newVec fr (Step.refl g) none dead sz k 0 h e ⟨qa,.inl ⟨hv,hk0⟩⟩ (λb hb=>by simp at hb) (λ_ _ _ _ _ _=>⟨rfl,λ_ h=>h⟩)⟩
 rcases hx with⟨rfl,hk0⟩|⟨ad,c,rfl,hcells⟩
 ·exact none0 hk0 (vza ht hi none 0 0 (wz _))
 ·by_cases hk0:k=0
  ·refine none0 hk0 ?_;subst hk0;have hn:news=[]:=List.eq_nil_of_length_eq_zero (by simpa using hl);simp[Builtin.append_,run_underlying ht,sizeOf,typeInfo,hi,Builtin.lenOf,Builtin.firstCells,loadCells,loadCellsFrom]
  ·have hmax:k<=9223372036854775807:=by simpa[maxLen]using hk
   have hr:=run_append_nil (P:=P) w t ty e i z ht hi hz ad k c news (by rw[hsz];exact hl) hcells qa qa (by rw[hby];omega);have hge:=grownCap_ge w k 0 e;have hcm:=grownCap_le_maxLen w k 0 e hk;have st:Step Mine F w F (w.drew.alloc (.cells (([]:List qr).toArray++news.toArray++Builtin.zeroCells z.cells (grownCap w k 0 e- (0+k))) e)):=by
    have s1:=Step.draw g;have s2:=Step.alloc (s1.good g) (.cells (([]:List qr).toArray++news.toArray++Builtin.zeroCells z.cells (grownCap w k 0 e- (0+k))) e) (λ_=>False);have s3:=s1.trans s2;exact⟨λ_ _ h=>h,s3.cell,λ_ _ h=>.inl h,λb o h=>by have:=g.lt b o h;simp;omega,s3.keep⟩
   have hres:=Ozl (id:=id) (ρ:=ρ) g (n:=0) (k:=k) (f:=h) (h:=h) (olds:=[]) (news:=news) (z:=z) (e:=e) (cap:=grownCap w k 0 e) 0 (wz _) hzs (by simp) hl qa hcm (by simp) hg (by simp)
    (λi j p hi hp=>by obtain⟨u,u1,u2⟩:=hel i j p hi hp;exact⟨u,u1,hone u (jq u1),u2⟩)
   have happ:appF 0 h h=h:=by funext i;simp[appF]
   simp only[qE,happ]at hres st;have e1:(w.drew.alloc (.cells (([]:List qr).toArray++news.toArray++Builtin.zeroCells z.cells (grownCap w k 0 e-k)) e))=(w.drew.alloc (.cells (news.toArray++Builtin.zeroCells z.cells (grownCap w k 0 e-k)) e)):=by simp
   rw[e1]at hres st;have hv:(ρ.setVec id (some (w.heap.size,k,grownCap w k 0 e))).vec id=some (w.heap.size,k,grownCap w k 0 e):=qc rfl;refine⟨_,_,F,ρ.setVec id (some (w.heap.size,k,grownCap w k 0 e)),hr,st,czm ρ id _,.vec hv,hm.newVec fr st _ dead sz k 0 h e hres (λb hb=>?_) (λj r b hj _ hbj=>⟨?_,λ_ h=>h⟩)⟩
   ·simp at hb;subst hb;exact⟨g.mine _ (wz _),by simp,λq r' hq _ hbq=>absurd (hm.mine q r' _ hq hbq).2 qa⟩
   ·exact heap_alloc_old w.drew _ (hm.mine j r b hj hbj).2
theorem Gzp {F:Cells}{w:World}{ρ:Env}{Mine:Nat->Prop}{M:Mem}(hm:MemOk F w ρ Mine M)(g:Good F w Mine)(fr:Fresh id M){t ty e:TypeId}{i:TypeInfo}{z:qr}{sz by_ k n n0 sh old:Nat}{f h:Nat->PVal}
 (ht:P.underlying t=some (.slice e)) (hi:P.info? e=some i) (hz:i.zero=some z) (hsz:i.size=sz) (hby:i.bytes=by_) (hzs:z.cells.size=sz)
 (hM:M.get old=some (.vec sz n0 f sh e)) (hnn:n<=n0) (hshn:sh<=n) (sv xv:qr) (hs0:ρ.vec old=none->sv=.slice none 0 0) (hs1:∀b n' cap,ρ.vec old=some (b,n',cap)->sv=.slice (some ⟨b,0,none⟩) n cap) (news:List qr) (hsrc:az40 F w sz k h xv news) (hb:(n+k) * by_<=140737488355328) (hk:n+k<=maxLen):
 ∃v w' F' ρ',(Builtin.append_ #[t,t] ty #[sv,xv]).run P w=.ok v w'/\Step Mine F w F' w'/\dzr id ρ ρ'/\ARel F' w' ρ' (.vec id) v/\
  MemOk F' w' ρ' Mine ((id,.vec sz (n+k) (appF n f h) sh e)::([old].map λd=>(d,Res.gone))++M):=by
 obtain⟨_,hok⟩:=hm.ok old _ hM;rcases hok with⟨hnone,hn0⟩|⟨b,cap,c,hh,q2,q30,q4,q5,q6,q70,q80⟩
 ·obtain rfl:n=0:=qa
  obtain rfl:sh=0:=qa
  obtain rfl:=hs0 hnone;have happ:appF 0 f h=h:=by funext i;simp[appF]
  simp only[qE,happ]at hb hk⊢;exact append_nil hm g fr ht hi hz hsz hby hzs [old] xv news hsrc hb hk
 ·obtain rfl:=hs1 _ _ _ hh
  ·have q3:n<=cap:=qa
   have q7:∀i,i<n->(f i).cells.length=sz:=λi hi=>q70 i qa
   have q8:∀ (i j:Nat) (p:PVal),i<n->(f i).cells[j]?=some p->∃v,c[i * sz+j]?=some v/\v.oneCell'=true/\PRel F w p v:=λi j p hi hp=>q80 i j p qa hp
   have hmine:=hm.mine old _ b hM (.inl (by simp[bzg,hh]));have hlen:n * sz<=c.size:=by rw[q5];exact zn _ q3
   have hother:∀j r b',M.get j=some r->j∉[old]->Owns w ρ j r b'->b'≠b:=by
    intro j r b' hj hnot hbj e1;subst e1;have:=hm.disj old j _ r _ hM hj (.inl (by simp[bzg,hh])) hbj;subst this;simp at hnot
   obtain⟨hl,hx,hone,hg,hel⟩:=hsrc;rcases hx with⟨rfl,hk0⟩|⟨ad,cx,rfl,hcells⟩
   ·subst hk0;have hr:=vza (P:=P) (w:=w) (ty:=ty) ht hi (some ⟨b,0,none⟩) n cap q3;have hv:(ρ.setVec id (some (b,n,cap))).vec id=some (b,n,cap):=qc rfl;refine⟨_,w,F,ρ.setVec id (some (b,n,cap)),hr,Step.refl g,czm ρ id _,.vec hv,hm.newVec fr (Step.refl g) _ [old] sz (n+0) sh (appF n f h) e ⟨qa,.inr ⟨b,cap,c,hv,q2,q3,q4,q5,q6,λi hi=>?_,λi j p hi hp=>?_⟩⟩ (λb' hb'=>?_) (λ_ _ _ _ _ _=>⟨rfl,λ_ h=>h⟩)⟩
    ·simp only[appF];rw[qc qa];exact q7 i qa
    ·simp only[appF]at hp;rw[qc qa]at hp;exact q8 i j p qa hp
    ·simp at hb';subst hb';exact⟨hmine.1,hmine.2,λq r' hq hnot hbq=>hother q r' _ hq hnot hbq rfl⟩
   ·by_cases hroom:n+k<=cap
    ·have hfit:n * sz+news.length<=c.size:=by rw[hl,q5,<-jm];exact zn _ hroom
     have hr:=run_append_room (P:=P) w t ty e i ht hi b n cap c q2 ad k cx news (by rw[hsz];exact hl) hcells hone hroom (by rw[hsz];exact hfit);rw[hsz]at hr;have hget:∀q,((c.toList.take (n * sz)++news++c.toList.drop (n * sz+news.length)).toArray)[q]?=if n * sz<=q/\q<n * sz+news.length then news[q-n * sz]? else c[q]?:=by
      intro q;rw[jd,iz0 _ _ _ _ (by simpa using hfit)];simp
     have st:Step Mine F w F (w.setRow b (c.toList.take (n * sz)++news++c.toList.drop (n * sz+news.length)).toArray):=by
      refine Step.write g q2 hmine.1 (λo hF=>?_);have h1:=q6 o hF;have h2:sh * sz<=n * sz:=zn _ hshn;rw[hget,qb qa]
     have hv:(ρ.setVec id (some (b,n+k,cap))).vec id=some (b,n+k,cap):=qc rfl;refine⟨_,_,F,ρ.setVec id (some (b,n+k,cap)),hr,st,czm ρ id _,.vec hv,hm.newVec fr st _ [old] sz (n+k) sh (appF n f h) e ⟨qa,.inr ⟨b,cap,_,hv,setRow_heap w b c _ e _ q2,hroom,q4,?_,q6,λi hi=>?_,λi j p hi hp=>?_⟩⟩ (λb' hb'=>?_) (λj r b' hj hnot hbj=>⟨setRow_other w b b' _ (hother j r b' hj hnot hbj),λ_ h=>h⟩)⟩
     ·rw[jb,ezh _ _ _ (by simpa using hfit)];simpa using q5
     ·simp only[appF];split
      ·exact q7 i ‹_›
      ·exact hg (i-n) qa
     ·rw[hget];simp only[appF]at hp;split at hp
      ·rename_i hlt;have hj:j<sz:=by have:=(zD.1 hp).1;rw[q7 i hlt]at this;exact this
       obtain⟨u,u1,u2,u3⟩:=q8 i j p hlt hp;have h1:=qz9 hlt hj;rw[qb qa];exact⟨u,u1,u2,u3.mono st.sub st.cell⟩
      ·rename_i hge;have hlt:i-n<k:=qa
       have hj:j<sz:=by have:=(zD.1 hp).1;rw[hg (i-n) hlt]at this;exact this
       obtain⟨u,u1,u2⟩:=hel (i-n) j p hlt hp;have h1:=qz9 hlt hj;have h2:i * sz=n * sz+(i-n) * sz:=by rw[<-jm];congr 1;omega
       rw[qc ⟨qa,qa⟩];refine⟨u,?_,hone u (jq u1),u2.mono st.sub st.cell⟩;rw[<-u1];congr 1;omega
     ·simp at hb';subst hb';exact⟨hmine.1,by simpa using hmine.2,λq r' hq hnot hbq=>hother q r' _ hq hnot hbq rfl⟩
    ·have hmax:n+k<=9223372036854775807:=by simpa[maxLen]using hk
     have holds:∀ (j:Nat) (u:qr),(c.toList.take (n * sz))[j]?=some u->w.cell? ((⟨b,0,none⟩:Addr).add j)=some u:=by
      intro j u hu;rw[ji]at hu;split at hu
      ·rw[gzx,qE,cell_of_row w b j c e _ q2];simpa using hu
      ·cases hu
     have hlo:(c.toList.take (n * sz)).length=n * sz:=by simp;omega
     have hr:=run_append_grow (P:=P) w t ty e i z ht hi hz ⟨b,0,none⟩ n cap (c.toList.take (n * sz)) (by rw[hsz];exact hlo) holds ad k cx news (by rw[hsz];exact hl) hcells qa qa (growslice_fits qa (by rw[hby];exact hb));have hge:=grownCap_ge w (n+k) cap e;have hcm:=grownCap_le_maxLen w (n+k) cap e hk;have st:Step Mine F w F (w.drew.alloc (.cells ((c.toList.take (n * sz)).toArray++news.toArray++Builtin.zeroCells z.cells (grownCap w (n+k) cap e- (n+k))) e)):=by
      have s1:=Step.draw g;have s2:=Step.alloc (s1.good g) (.cells ((c.toList.take (n * sz)).toArray++news.toArray++Builtin.zeroCells z.cells (grownCap w (n+k) cap e- (n+k))) e) (λ_=>False);have s3:=s1.trans s2;exact⟨λ_ _ h=>h,s3.cell,λ_ _ h=>.inl h,λb o h=>by have:=g.lt b o h;simp;omega,s3.keep⟩
     have hres:=Ozl (id:=id) (ρ:=ρ) g (n:=n) (k:=k) (f:=f) (h:=h) (olds:=c.toList.take (n * sz)) (news:=news) (z:=z) (e:=e) (cap:=grownCap w (n+k) cap e) sh hshn hzs hlo hl hge hcm q7 hg
      (λi j p hi hp=>by
       obtain⟨u,u1,u2,u3⟩:=q8 i j p hi hp;have hj:j<sz:=by have:=(zD.1 hp).1;rw[q7 i hi]at this;exact this
       exact⟨u,by rw[ji,qc (qz9 hi hj)];simpa using u1,u2,u3⟩)
      (λi j p hi hp=>by obtain⟨u,u1,u2⟩:=hel i j p hi hp;exact⟨u,u1,hone u (jq u1),u2⟩)
     have hv:(ρ.setVec id (some (w.heap.size,n+k,grownCap w (n+k) cap e))).vec id=some (w.heap.size,n+k,grownCap w (n+k) cap e):=qc rfl;refine⟨_,_,F,ρ.setVec id (some (w.heap.size,n+k,grownCap w (n+k) cap e)),hr,st,czm ρ id _,.vec hv,hm.newVec fr st _ [old] sz (n+k) sh (appF n f h) e hres (λb' hb'=>?_) (λj r b' hj _ hbj=>⟨?_,λ_ h=>h⟩)⟩
     ·simp at hb';subst hb';exact⟨g.mine _ (wz _),by simp,λq r' hq _ hbq=>absurd (hm.mine q r' _ hq hbq).2 qa⟩
     ·exact heap_alloc_old w.drew _ (hm.mine j r b' hj hbj).2
end Go.Abs
