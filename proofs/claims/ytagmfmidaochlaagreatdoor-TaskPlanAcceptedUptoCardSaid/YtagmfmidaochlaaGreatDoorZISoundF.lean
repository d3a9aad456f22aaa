import Derived.Test.YtagmfmidaochlaaGreatDoorZISoundE
open List renaming length->B
open Go renaming Value->qq
open List renaming size_toArray->xW
open Nat renaming succ_mul->zS
namespace Go.Abs
variable {P:Program} {o:Oper} {env:Operand->ac} {m:Mem} {id:Nat}
theorem aH.cells {F:Cells}{w:World}{p:ae}{v:qq}(h:aH F w p v)(g:p.cells.all (·.scalar)=true):
 (B p.cells)=v.cells.size/\∀ (j:Nat) (q:ae) (u:qq),p.cells[j]?=some q->v.cells[j]?=some u->aH F w q u/\u.oneCell'=true:=by
 cases p with
 |agg i=>
  obtain⟨k,rfl,e,d⟩:=h.agg_inv;exact⟨e,λj q u a c=>⟨d j q u a c,(d j q u a c).one (List.all_eq_true.1 g q (List.mem_of_getElem? a))⟩⟩
 |_=>
  have b:=h.one rfl;have f:v.cells=#[v]:=by cases v<;>simp_all [Value.cells,Value.oneCell']
  rw[f];refine⟨rfl,λj q u a c=>?_⟩;cases j with
  |zero=>simp[ae.cells]at a c;subst a;subst c;exact⟨h,b⟩
  |succ j=>simp[ae.cells]at a
theorem Df (s:Nat):∀ (a:List qq) (k:Nat) (b:Array qq),(∀v∈a,v.cells.size=s)->(k+B a) * s<=b.size->
 ∃A:Array qq,Instr.fill (λi=>some (i * s,s)) b ((a.zipIdx k).map λx=>(x.2,x.1))=some A/\A.size=b.size/\(∀j,j<k * s->A[j]?=b[j]?)/\
  ∀ (i:Nat) (v:qq),a[i]?=some v->∀q,q<s->A[(k+i) * s+q]?=v.cells[q]?
 |[],k,b,_,_=>⟨b,by rfl,rfl,λ_ _=>rfl,jV⟩
 |v::a,k,b,m,h=>by
  have g:=m v jV;have e:(k+1+B a) * s<=b.size:=by rw[show k+1+B a=k+(B a+1) from qa];exact h
  have y:k * s+s<=b.size:=by
   refine Nat.le_trans ?_ e;rw[<-zS];exact Nat.mul_le_mul_right _ qa
  have c:(b.toList.take (k * s)++v.cells.toList++b.toList.drop (k * s+B v.cells.toList)).length=b.size:=by
   rw[P7 _ _ _ (by simp[g];omega)];simp
  obtain⟨A,p,r,n,t⟩:=Df s a (k+1) ((b.toList.take (k * s)++v.cells.toList++b.toList.drop (k * s+B v.cells.toList)).toArray) (λu f=>m u (by simp[f])) (by rw[xW,c];exact e);have d:∀j,((b.toList.take (k * s)++v.cells.toList++b.toList.drop (k * s+B v.cells.toList)).toArray)[j]?=if k * s<=j/\j<k * s+s then v.cells[j-k * s]? else b[j]?:=by
   intro j;rw[List.getElem?_toArray,fQ _ _ _ _ (by simp[g];omega)];simp[g]
  refine⟨A,?_,by rw[r,xW,c],λj w=>?_,λi u f q o=>?_⟩;{simp only[List.zipIdx_cons,List.map_cons,Instr.fill];rw[qb (by simp[g];omega),Rh _ _ _ qa];simpa using p};{rw[n j (by rw[zS];omega),d,qb qa]};cases i with
  |zero=>
   simp at f;subst f;rw[Nat.add_zero,n _ (by rw[zS];omega),d,qc ⟨qa,qa⟩];congr 1;omega
  |succ i=>
   have:=t i u (by simpa using f) q o;rw[<-this,show k+(i+1)=k+1+i from qa]
theorem AV {a:Act}:∀ (b:List (Nat×Operand)) (k:Nat) (l:List ac),mK env k b=some l->
 (b.map λx=>(x.1,a.eval x.2))=((b.map λx=>a.eval x.2).zipIdx k).map (λx=>(x.2,x.1))/\l=b.map λx=>env x.2
 |[],k,l,h=>by simp_all[mK]
 |(j,x)::b,k,l,h=>by
  simp only[mK]at h;split at h
  ·rename_i d;split at h
   ·rename_i e c;subst d;obtain⟨f,g⟩:=AV (a:=a) b (j+1) e c;simp_all
   grind
  grind
end Go.Abs
