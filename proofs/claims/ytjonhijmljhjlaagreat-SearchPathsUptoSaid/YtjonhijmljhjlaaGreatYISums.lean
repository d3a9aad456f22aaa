import Derived.Test.YtjonhijmljhjlaaGreatYIPLib
open List renaming map_cons->xK,sum_cons->xL
namespace Go.Abs
theorem Vz6 {α:Type}{f:α->Nat}(h:∀a,1<=f a)(l:List α):l.length<=(l.map f).sum:=by
 induction l with
 |nil=>simp
 |cons a l ih=>have:=h a;simp only[List.length_cons,xK,xL];omega
theorem az50 {α:Type}{f:α->Nat}{l:List α}{a:α}(h:a∈l):f a<=(l.map f).sum:=by
 induction l with
 |nil=>cases h
 |cons b l ih=>
  simp only[xK,xL];rcases List.mem_cons.1 h with rfl|h
  ·omega
  ·have:=ih h;omega
end Go.Abs
