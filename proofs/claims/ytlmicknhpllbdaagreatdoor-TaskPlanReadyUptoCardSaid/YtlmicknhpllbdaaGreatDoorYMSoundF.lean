/-
  SoundF (a part of a claim: our own text).
-/
import Derived.Test.YtlmicknhpllbdaaGreatDoorYMSoundE
namespace Go.Abs
variable {P:Program} {o:Oper} {env:Operand->AVal} {m:Mem} {id:Nat}
theorem PRel.cells {F:Cells}{w:World}{p:PVal}{v:Value}(h:PRel F w p v)(g:p.cells.all (·.scalar)=true):
 p.cells.length=v.cells.size/\∀ (j:Nat) (q:PVal) (u:Value),p.cells[j]?=some q->v.cells[j]?=some u->PRel F w q u/\u.oneCell'=true:=by
 cases p with
 |agg i=>
  obtain⟨vs,rfl,e,d⟩:=h.agg_inv
  exact⟨e,fun j q u a c=>⟨d j q u a c,(d j q u a c).one (List.all_eq_true.1 g q (List.mem_of_getElem? a))⟩⟩
 |_=>
  have b:=h.one rfl
  have f:v.cells=#[v]:=by cases v<;>simp_all [Value.cells,Value.oneCell']
  rw[f]
  refine⟨rfl,fun j q u a c=>?_⟩
  cases j with
  |zero=>simp[PVal.cells]at a c;subst a;subst c;exact⟨h,b⟩
  |succ j=>simp[PVal.cells]at a
theorem Jzf (s:Nat):∀ (a:List Value) (k:Nat) (b:Array Value),(∀v∈a,v.cells.size=s)->(k+a.length) * s≤b.size->
 ∃A:Array Value,Instr.fill (fun i=>some (i * s,s)) b ((a.zipIdx k).map fun x=>(x.2,x.1))=some A/\A.size=b.size/\(∀j,j<k * s->A[j]?=b[j]?)/\
  ∀ (i:Nat) (v:Value),a[i]?=some v->∀q,q<s->A[(k+i) * s+q]?=v.cells[q]?
 |[],k,b,_,_=>⟨b,by rfl,rfl,fun _ _=>rfl,by simp⟩
 |v::a,k,b,m,h=>by
  have g:=m v (by simp)
  have e:(k+1+a.length) * s≤b.size:=by rw[show k+1+a.length=k+(a.length+1) by omega];exact h
  have y:k * s+s≤b.size:=by
   refine Nat.le_trans ?_ e
   rw[←Nat.succ_mul];exact Nat.mul_le_mul_right _ (by omega)
  have c:(b.toList.take (k * s)++v.cells.toList++b.toList.drop (k * s+v.cells.toList.length)).length=b.size:=by
   rw[Pzc _ _ _ (by simp[g];omega)];simp
  obtain⟨A,p,r,n,t⟩:=Jzf s a (k+1) ((b.toList.take (k * s)++v.cells.toList++b.toList.drop (k * s+v.cells.toList.length)).toArray) (fun u f=>m u (by simp[f])) (by rw[List.size_toArray,c];exact e)
  have d:∀j,((b.toList.take (k * s)++v.cells.toList++b.toList.drop (k * s+v.cells.toList.length)).toArray)[j]?=if k * s≤j/\j<k * s+s then v.cells[j-k * s]? else b[j]?:=by
   intro j
   rw[List.getElem?_toArray,kz1 _ _ _ _ (by simp[g];omega)]
   simp[g]
  refine⟨A,?_,by rw[r,List.size_toArray,c],fun j w=>?_,fun i u f q o=>?_⟩
  ·simp only[List.zipIdx_cons,List.map_cons,Instr.fill]
   rw[if_neg (by simp[g];omega),Xzq _ _ _ (by omega)]
   simpa using p
  ·rw[n j (by rw[Nat.succ_mul];omega),d,if_neg (by omega)]
  ·cases i with
   |zero=>
    simp at f;subst f
    rw[Nat.add_zero,n _ (by rw[Nat.succ_mul];omega),d,if_pos ⟨by omega,by omega⟩]
    congr 1;omega
   |succ i=>
    have:=t i u (by simpa using f) q o
    rw[←this,show k+(i+1)=k+1+i by omega]
theorem Azs {a:Act}:∀ (b:List (Nat×Operand)) (k:Nat) (l:List AVal),Jzk env k b=some l->
 (b.map fun x=>(x.1,a.eval x.2))=((b.map fun x=>a.eval x.2).zipIdx k).map (fun x=>(x.2,x.1))/\l=b.map fun x=>env x.2
 |[],k,l,h=>by simp_all[Jzk]
 |(j,x)::b,k,l,h=>by
  simp only[Jzk]at h
  split at h
  ·rename_i d
   split at h
   ·rename_i e c
    subst d
    obtain⟨f,g⟩:=Azs (a:=a) b (j+1) e c
    simp_all
   grind
  grind
end Go.Abs
