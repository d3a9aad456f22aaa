import Derived.Test.YtagmfmidaochlaaGreatDoorZISoundQ
open Option renaming some->AB,none->AC
open Go renaming Value->qq
open List renaming getElem?_eq_some_iff->zZ,mem_of_getElem?->z6,getElem?_take->zX
open Nat renaming add_mul->zY,le_refl->wg,zero_add->zq,mul_le_mul_right->xo
namespace Go.Abs
variable {P:Program} {o:Oper} {env:Operand->ac} {m:Mem} {id:Nat}{F:Cells}{w:World}
theorem QK{ρ:Env}{J:Nat->Prop}(g:bM F w J){I n k:Nat}{f h:Nat->ae}{olds news:List qq}{z:qq}{e:TypeId}{cap:Nat}(K:Nat)(D:K<=n)
 (v:z.cells.size=I) (t:olds.length=n * I) (r:news.length=k * I) (c:n+k<=cap) (s:cap<=maxLen)
 (E:∀i,i<n->(f i).cells.length=I) (H:∀i,i<k->(h i).cells.length=I)
 (C:∀ (i j:Nat) (p:ae),i<n->(f i).cells[j]?=AB p->∃u,olds[i * I+j]?=AB u/\u.oneCell'=true/\aH F w p u)
 (B:∀ (i j:Nat) (p:ae),i<k->(h i).cells[j]?=AB p->∃u,news[i * I+j]?=AB u/\u.oneCell'=true/\aH F w p u):
 cH F (w.drew.alloc (.cells (olds.toArray++news.toArray++Builtin.zeroCells z.cells (cap- (n+k))) e)) (ρ.setVec id (AB (w.heap.size,n+k,cap))) id (.vec I (n+k) (appF n f h) K e):=by
 have y:(ρ.setVec id (AB (w.heap.size,n+k,cap))).vec id=AB (w.heap.size,n+k,cap):=qc rfl;refine⟨qa,.inr ⟨w.heap.size,cap,_,y,heap_alloc_new w.drew _,c,s,?_,λo x=>absurd (g.lt _ _ x) qa,λi L=>?_,λi j p L l=>?_⟩⟩
 ·simp only[Array.size_append,List.size_toArray,size_zeroCells,v,t,r,<-zY];simp_all
 {grind[appF]}
 have d:∀b o,F b o->(w.drew.alloc (.cells (olds.toArray++news.toArray++Builtin.zeroCells z.cells (cap- (n+k))) e)).cell? ⟨b,o,AC⟩=w.cell? ⟨b,o,AC⟩:=
  λb o x=>(World.cell?_alloc_lt w.drew _ _ (g.lt b o x))
 simp only[appF]at l;split at l
 ·rename_i a;obtain⟨u,A,q,m⟩:=C i j p a l;refine⟨u,?_,q,m.mono (λ_ _ h=>h) d⟩;grind
 have a:i-n<k:=qa;obtain⟨u,A,q,m⟩:=B (i-n) j p a l;refine⟨u,?_,q,m.mono (λ_ _ h=>h) d⟩;have G:i * I=n * I+(i-n) * I:=by rw[<-zY];simp_all
 grind
theorem append_nil{ρ:Env}{Mine:Nat->Prop}{M:Mem}(G:aG F w ρ Mine M)(g:bM F w Mine)(S:dN id M){t ty e:TypeId}{i:TypeInfo}{z:qq}{sz A k:Nat}{h:Nat->ae}
 (O:P.underlying t=AB (.slice e)) (hi:P.info? e=AB i) (hz:i.zero=AB z) (hsz:i.size=sz) (U:i.bytes=A) (H:z.cells.size=sz)
 (a:List Nat) (E:qq) (news:List qq) (y:tA F w sz k h E news) (B:k * A<=140737488355328) (Q:k<=maxLen):
 ∃v o F' ρ',(Builtin.append_ #[t,t] ty #[.slice AC 0 0,E]).run P w=.ok v o/\Step Mine F w F' o/\cA id ρ ρ'/\ak F' o ρ' (.vec id) v/\
  aG F' o ρ' Mine ((id,.vec sz k h 0 e)::(a.map λd=>(d,Res.gone))++M):=by
 obtain⟨hl,hx,R,hg,hel⟩:=y
 have u:k=0->(Builtin.append_ #[t,t] ty #[.slice AC 0 0,E]).run P w=.ok (.slice AC 0 0) w->∃v o F' ρ',(Builtin.append_ #[t,t] ty #[.slice AC 0 0,E]).run P w=.ok v o/\Step Mine F w F' o/\cA id ρ ρ'/\ak F' o ρ' (.vec id) v/\
  aG F' o ρ' Mine ((id,.vec sz k h 0 e)::(a.map λd=>(d,Res.gone))++M):=by
  intro l J;have C:(ρ.setVec id AC).vec id=none:=qc rfl;refine⟨_,w,F,ρ.setVec id AC,J,Step.refl g,eU ρ id AC,.vnil C,G.newVec S (Step.refl g) AC a sz k 0 h e ⟨qa,.inl ⟨C,l⟩⟩ (λb B=>jX) (λ_ _ _ _ _ _=>⟨rfl,λ_ h=>h⟩)⟩
 rcases hx with⟨rfl,l⟩|⟨ad,c,rfl,s⟩;{grind[MK]};by_cases l:k=0;{refine u l ?_;subst l;simp[Builtin.append_,run_underlying O,sizeOf,typeInfo,hi,Builtin.lenOf,Builtin.firstCells,loadCells,loadCellsFrom]};have T:k<=9223372036854775807:=by simpa[maxLen]using Q
 have J:=run_append_nil (P:=P) w t ty e i z O hi hz ad k c news jW s qa qa jX;have hge:=grownCap_ge w k 0 e;have L:=grownCap_le_maxLen w k 0 e Q;have D:Step Mine F w F (w.drew.alloc (.cells (([]:List qq).toArray++news.toArray++Builtin.zeroCells z.cells (grownCap w k 0 e- (0+k))) e)):=by
  have N:=Step.draw g;have Z:=Step.alloc (N.good g) (.cells (([]:List qq).toArray++news.toArray++Builtin.zeroCells z.cells (grownCap w k 0 e- (0+k))) e) (λ_=>False);have s3:=N.trans Z;simp_all
 have m:=QK (id:=id) (ρ:=ρ) g (n:=0) (k:=k) (f:=h) (h:=h) (olds:=[]) (news:=news) (z:=z) (e:=e) (cap:=grownCap w k 0 e) 0 (wg _) H jV hl qa L jV hg jV
  (λi j p hi hp=>jX)
 have x:appF 0 h h=h:=by rfl
 simp only[zq,x]at m D;have Y:(w.drew.alloc (.cells (([]:List qq).toArray++news.toArray++Builtin.zeroCells z.cells (grownCap w k 0 e-k)) e))=(w.drew.alloc (.cells (news.toArray++Builtin.zeroCells z.cells (grownCap w k 0 e-k)) e)):=jV;rw[Y]at m D;have C:(ρ.setVec id (AB (w.heap.size,k,grownCap w k 0 e))).vec id=AB (w.heap.size,k,grownCap w k 0 e):=qc rfl;refine⟨_,_,F,ρ.setVec id (AB (w.heap.size,k,grownCap w k 0 e)),J,D,eU ρ id _,.vec C,G.newVec S D _ a sz k 0 h e m (λb B=>?_) (λj r b V _ I=>⟨?_,λ_ h=>h⟩)⟩;{simp at B;subst B;exact⟨g.mine _ (wg _),jV,λq X W _ K=>absurd (G.mine q X _ W K).2 qa⟩};exact heap_alloc_old w.drew _ (G.mine j r b V I).2
theorem CZ{ρ:Env}{Mine:Nat->Prop}{M:Mem}(I:aG F w ρ Mine M)(g:bM F w Mine)(fr:dN id M){t ty e:TypeId}{i:TypeInfo}{z:qq}{sz by_ k n n0 sh old:Nat}{f h:Nat->ae}
 (ht:P.underlying t=AB (.slice e)) (hi:P.info? e=AB i) (hz:i.zero=AB z) (K:i.size=sz) (Z:i.bytes=by_) (hzs:z.cells.size=sz)
 (hM:M.get old=AB (.vec sz n0 f sh e)) (hnn:n<=n0) (O:sh<=n) (sv xv:qq) (hs0:ρ.vec old=none->sv=.slice AC 0 0) (hs1:∀b n' a,ρ.vec old=AB (b,n',a)->sv=.slice (AB ⟨b,0,AC⟩) n a) (news:List qq) (N:tA F w sz k h xv news) (hb:(n+k) * by_<=140737488355328) (hk:n+k<=maxLen):
 ∃v w' F' ρ',(Builtin.append_ #[t,t] ty #[sv,xv]).run P w=.ok v w'/\Step Mine F w F' w'/\cA id ρ ρ'/\ak F' w' ρ' (.vec id) v/\
  aG F' w' ρ' Mine ((id,.vec sz (n+k) (appF n f h) sh e)::([old].map λd=>(d,Res.gone))++M):=by
 obtain⟨_,hok⟩:=I.ok old _ hM;rcases hok with⟨Q,hn0⟩|⟨b,a,c,hh,q2,q30,q4,q5,q6,q70,q80⟩
 ·obtain rfl:n=0:=qa;obtain rfl:sh=0:=qa;obtain rfl:=hs0 Q;have happ:appF 0 f h=h:=by rfl
  simp only[zq,happ]at hb hk⊢;exact append_nil I g fr ht hi hz K Z hzs [old] xv news N hb hk
 obtain rfl:=hs1 _ _ _ hh;have q3:n<=a:=qa;have q7:∀i,i<n->(f i).cells.length=sz:=λi hi=>q70 i qa
 have q8:∀ (i j:Nat) (p:ae),i<n->(f i).cells[j]?=AB p->∃v,c[i * sz+j]?=AB v/\v.oneCell'=true/\aH F w p v:=λi j p hi y=>q80 i j p qa y
 have m:=I.mine old _ b hM (.inl (by simp[aX,hh]));have hlen:n * sz<=c.size:=by simp_all[xo]
 have x:∀j r D,M.get j=AB r->j∉[old]->aE w ρ j r D->D≠b:=by
  intro j r D C s G e1;subst e1;have:=I.disj old j _ r _ hM C (.inl (by simp[aX,hh])) G;simp_all
 obtain⟨hl,hx,E,hg,Y⟩:=N;rcases hx with⟨rfl,hk0⟩|⟨ad,cx,rfl,A⟩;{subst hk0;have V:=MK (P:=P) (w:=w) (ty:=ty) ht hi (AB ⟨b,0,AC⟩) n a q3;have U:(ρ.setVec id (AB (b,n,a))).vec id=AB (b,n,a):=qc rfl;refine⟨_,w,F,ρ.setVec id (AB (b,n,a)),V,Step.refl g,eU ρ id _,.vec U,I.newVec fr (Step.refl g) _ [old] sz (n+0) sh (appF n f h) e ⟨qa,.inr ⟨b,a,c,U,q2,q3,q4,q5,q6,λi hi=>?_,λi j p hi y=>?_⟩⟩ (λD B=>?_) (λ_ _ _ _ _ _=>⟨rfl,λ_ h=>h⟩)⟩;all_goals grind[appF]};by_cases H:n+k<=a
 ·have hfit:n * sz+news.length<=c.size:=by rw[hl,q5,<-zY];simp_all[xo]
  have V:=run_append_room (P:=P) w t ty e i ht hi b n a c q2 ad k cx news jW A E H jW;rw[K]at V;have hget:∀q,((c.toList.take (n * sz)++news++c.toList.drop (n * sz+news.length)).toArray)[q]?=if n * sz<=q/\q<n * sz+news.length then news[q-n * sz]? else c[q]?:=by
   intro q;rw[List.getElem?_toArray,fQ _ _ _ _ qa];simp
  have J:Step Mine F w F (w.setRow b (c.toList.take (n * sz)++news++c.toList.drop (n * sz+news.length)).toArray):=by
   refine Step.write g q2 m.1 (λo hF=>?_);have h2:sh * sz<=n * sz:=xo _ O;grind
  have U:(ρ.setVec id (AB (b,n+k,a))).vec id=AB (b,n+k,a):=qc rfl;refine⟨_,_,F,ρ.setVec id (AB (b,n+k,a)),V,J,eU ρ id _,.vec U,I.newVec fr J _ [old] sz (n+k) sh (appF n f h) e ⟨qa,.inr ⟨b,a,_,U,setRow_heap w b c _ e _ q2,H,q4,?_,q6,λi hi=>?_,λi j p hi y=>?_⟩⟩ (λD B=>?_) (λj r D C s G=>⟨setRow_other w b D _ (x j r D C s G),λ_ h=>h⟩)⟩;{grind};{grind[appF]}
  ·rw[hget];simp only[appF]at y;split at y
   ·rename_i l;have C:j<sz:=by have:=(zZ.1 y).1;rw[q7 i l]at this;exact this
    obtain⟨u,L,R,u3⟩:=q8 i j p l y;have h1:=h7 l C;rw[qb qa];exact⟨u,L,R,u3.mono J.sub J.cell⟩
   have l:i-n<k:=qa;have C:j<sz:=by have:=(zZ.1 y).1;rw[hg (i-n) l]at this;exact this
   obtain⟨u,L,R⟩:=Y (i-n) j p l y;have h1:=h7 l C;have h2:i * sz=n * sz+(i-n) * sz:=by rw[<-zY];congr 1;omega
   rw[qc ⟨qa,qa⟩];refine⟨u,?_,E u (z6 L),R.mono J.sub J.cell⟩;rw[<-L];congr 1;omega
  simp at B;subst B;exact⟨m.1,by simpa using m.2,λq r' hq s T=>x q r' _ hq s T rfl⟩
 have hmax:n+k<=9223372036854775807:=by simpa[maxLen]using hk
 have S:∀ (j:Nat) (u:qq),(c.toList.take (n * sz))[j]?=AB u->w.cell? ((⟨b,0,AC⟩:Addr).add j)=AB u:=by
  intro j u hu;rw[zX]at hu;split at hu;{rw[dg,zq,cell_of_row w b j c e _ q2];simpa using hu};cases hu
 have W:(c.toList.take (n * sz)).length=n * sz:=jZ;have V:=run_append_grow (P:=P) w t ty e i z ht hi hz ⟨b,0,AC⟩ n a (c.toList.take (n * sz)) (by rw[K];exact W) S ad k cx news (by rw[K];exact hl) A qa qa (growslice_fits qa (by rw[Z];exact hb));have hge:=grownCap_ge w (n+k) a e;have hcm:=grownCap_le_maxLen w (n+k) a e hk;have J:Step Mine F w F (w.drew.alloc (.cells ((c.toList.take (n * sz)).toArray++news.toArray++Builtin.zeroCells z.cells (grownCap w (n+k) a e- (n+k))) e)):=by
  have s1:=Step.draw g;have s2:=Step.alloc (s1.good g) (.cells ((c.toList.take (n * sz)).toArray++news.toArray++Builtin.zeroCells z.cells (grownCap w (n+k) a e- (n+k))) e) (λ_=>False);have s3:=s1.trans s2;exact⟨λ_ _ h=>h,s3.cell,λ_ _ h=>.inl h,λb o h=>by have:=g.lt b o h;simp;omega,s3.keep⟩
 have X:=QK (id:=id) (ρ:=ρ) g (n:=n) (k:=k) (f:=f) (h:=h) (olds:=c.toList.take (n * sz)) (news:=news) (z:=z) (e:=e) (cap:=grownCap w (n+k) a e) sh O hzs W hl hge hcm q7 hg
  (λi j p hi y=>by
   obtain⟨u,L,R,u3⟩:=q8 i j p hi y;have C:j<sz:=by have:=(zZ.1 y).1;rw[q7 i hi]at this;exact this
   exact⟨u,by rw[zX,qc (h7 hi C)];simpa using L,R,u3⟩)
  (λi j p hi y=>by obtain⟨u,L,R⟩:=Y i j p hi y;exact⟨u,L,E u (z6 L),R⟩)
 have U:(ρ.setVec id (AB (w.heap.size,n+k,grownCap w (n+k) a e))).vec id=AB (w.heap.size,n+k,grownCap w (n+k) a e):=qc rfl;refine⟨_,_,F,ρ.setVec id (AB (w.heap.size,n+k,grownCap w (n+k) a e)),V,J,eU ρ id _,.vec U,I.newVec fr J _ [old] sz (n+k) sh (appF n f h) e X (λD B=>?_) (λj r D C _ G=>⟨?_,λ_ h=>h⟩)⟩;{simp at B;subst B;exact⟨g.mine _ (wg _),jV,λq r' hq _ T=>absurd (I.mine q r' _ hq T).2 qa⟩};exact heap_alloc_old w.drew _ (I.mine j r D C G).2
end Go.Abs
