/-
  Sums (a part of a claim: our own text).
-/
import Derived.Test.YtlmicknhpllbdaaGreatDoorYMPLib
namespace Go.Abs
theorem az83 {α:Type}{f:α->Nat}(h:∀a,1≤f a)(l:List α):l.length≤(l.map f).sum:=by
 induction l with
 |nil=>simp
 |cons a l ih=>have:=h a;simp only[List.length_cons,List.map_cons,List.sum_cons];omega
theorem azex {α:Type}{f:α->Nat}{l:List α}{a:α}(h:a∈l):f a≤(l.map f).sum:=by
 induction l with
 |nil=>cases h
 |cons b l ih=>
  simp only[List.map_cons,List.sum_cons]
  rcases List.mem_cons.1 h with rfl|h
  ·omega
  ·have:=ih h;omega
end Go.Abs
