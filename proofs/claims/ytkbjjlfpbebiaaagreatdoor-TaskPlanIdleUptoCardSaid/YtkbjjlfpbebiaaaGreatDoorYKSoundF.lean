/-
  SoundF (a part of a claim: our own text).
-/
import Derived.Test.YtkbjjlfpbebiaaaGreatDoorYKSoundE
namespace Go.Abs
variable {P:Program} {o:Oper} {env:Operand->AVal} {m:Mem} {id:Nat}
theorem PRel.cells {F:Cells}{w:World}{p:PVal}{v:Value}(h:PRel F w p v)(hs:p.cells.all (·.scalar)=true):
 p.cells.length=v.cells.size/\∀ (j:Nat) (q:PVal) (u:Value),p.cells[j]?=some q->v.cells[j]?=some u->PRel F w q u/\u.oneCell'=true:=by
 cases p with
 |agg cs=>
  obtain⟨vs,rfl,hl,hr⟩:=h.agg_inv
  exact⟨hl,fun j q u hq hu=>⟨hr j q u hq hu,(hr j q u hq hu).one (List.all_eq_true.1 hs q (List.mem_of_getElem? hq))⟩⟩
 |_=>
  have hone:=h.one rfl
  have hc:v.cells=#[v]:=by cases v<;>simp_all [Value.cells,Value.oneCell']
  rw[hc]
  refine⟨rfl,fun j q u hq hu=>?_⟩
  cases j with
  |zero=>simp[PVal.cells]at hq hu;subst hq;subst hu;exact⟨h,hone⟩
  |succ j=>simp[PVal.cells]at hq
theorem rz3 (s:Nat):∀ (vals:List Value) (k:Nat) (cs:Array Value),(∀v∈vals,v.cells.size=s)->(k+vals.length) * s≤cs.size->
 ∃A:Array Value,Instr.fill (fun i=>some (i * s,s)) cs ((vals.zipIdx k).map fun x=>(x.2,x.1))=some A/\A.size=cs.size/\(∀j,j<k * s->A[j]?=cs[j]?)/\
  ∀ (i:Nat) (v:Value),vals[i]?=some v->∀q,q<s->A[(k+i) * s+q]?=v.cells[q]?
 |[],k,cs,_,_=>⟨cs,by simp[Instr.fill],rfl,fun _ _=>rfl,by simp⟩
 |v::vals,k,cs,hs,hle=>by
  have hv:=hs v (by simp)
  simp only[List.length_cons]at hle
  have hk1:(k+1+vals.length) * s≤cs.size:=by rw[show k+1+vals.length=k+(vals.length+1) by omega];exact hle
  have hk:k * s+s≤cs.size:=by
   refine Nat.le_trans ?_ hk1
   rw[←Nat.succ_mul];exact Nat.mul_le_mul_right _ (by omega)
  have hlen:(cs.toList.take (k * s)++v.cells.toList++cs.toList.drop (k * s+v.cells.toList.length)).length=cs.size:=by
   rw[dz4 _ _ _ (by simp[hv];omega)];simp
  obtain⟨A,h1,h2,h3,h4⟩:=rz3 s vals (k+1) ((cs.toList.take (k * s)++v.cells.toList++cs.toList.drop (k * s+v.cells.toList.length)).toArray) (fun u hu=>hs u (by simp[hu])) (by rw[List.size_toArray,hlen];exact hk1)
  have hget:∀j,((cs.toList.take (k * s)++v.cells.toList++cs.toList.drop (k * s+v.cells.toList.length)).toArray)[j]?=if k * s≤j/\j<k * s+s then v.cells[j-k * s]? else cs[j]?:=by
   intro j
   rw[List.getElem?_toArray,ezc _ _ _ _ (by simp[hv];omega)]
   simp[hv]
  refine⟨A,?_,by rw[h2,List.size_toArray,hlen],fun j hj=>?_,fun i u hu q hq=>?_⟩
  ·simp only[List.zipIdx_cons,List.map_cons,Instr.fill]
   rw[if_neg (by simp[hv];omega),Izu _ _ _ (by rw[hv];omega)]
   simpa using h1
  ·rw[h3 j (by rw[Nat.succ_mul];omega),hget,if_neg (by omega)]
  ·cases i with
   |zero=>
    simp at hu;subst hu
    rw[Nat.add_zero,h3 _ (by rw[Nat.succ_mul];omega),hget,if_pos ⟨by omega,by omega⟩]
    congr 1;omega
   |succ i=>
    have:=h4 i u (by simpa using hu) q hq
    rw[←this,show k+(i+1)=k+1+i by omega]
theorem qz8 {a:Act}:∀ (parts:List (Nat×Operand)) (k:Nat) (l:List AVal),szx env k parts=some l->
 (parts.map fun x=>(x.1,a.eval x.2))=((parts.map fun x=>a.eval x.2).zipIdx k).map (fun x=>(x.2,x.1))/\l=parts.map fun x=>env x.2
 |[],k,l,h=>by simp[szx]at h;subst h;simp
 |(j,x)::parts,k,l,h=>by
  simp only[szx]at h
  split at h
  ·rename_i hj
   split at h
   ·rename_i l' hl'
    simp at h;subst h;subst hj
    obtain⟨h1,h2⟩:=qz8 (a:=a) parts (j+1) l' hl'
    exact⟨by simp[h1],by simp[h2]⟩
   ·cases h
  ·cases h
end Go.Abs
