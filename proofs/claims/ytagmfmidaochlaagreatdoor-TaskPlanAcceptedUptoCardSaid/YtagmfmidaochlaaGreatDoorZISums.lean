import Derived.Test.YtagmfmidaochlaaGreatDoorZIPLib
namespace Go.Abs
theorem aj3 {α:Type}{f:α->Nat}(h:∀a,1<=f a)(l:List α):l.length<=(l.map f).sum:=by
 induction l with
 |nil=>simp
 |cons a l b=>have:=h a;simp only[List.length_cons,List.map_cons,List.sum_cons];omega
end Go.Abs
