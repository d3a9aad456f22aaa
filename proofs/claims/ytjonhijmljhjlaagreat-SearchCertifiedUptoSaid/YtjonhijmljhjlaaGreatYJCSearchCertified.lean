import Derived.Test.YtjonhijmljhjlaaGreatYJTSearchCertified
import Derived.Test.YtjonhijmljhjlaaGreatYJDL5
import Derived.Test.YtjonhijmljhjlaaGreatYJSums
namespace Go.Abs
open Go.Proofs
namespace searchCertified
theorem plain (a0:(List Int))(a1:(List Int))(a2:Int)(a3:Int)(a4:Int)(a5:Int)(h:nz1 a0+nz1 a1+gzg a2+gzg a3+gzg a4+gzg a5<=1048576):(dz8 a0 a1 a2 a3 a4 a5).o=some true:=by
 have ea0:a0.length<=(a0.map gzg).sum:=az7h (λ_=>Nat.le_refl _) a0;have ea1:a1.length<=(a1.map gzg).sum:=az7h (λ_=>Nat.le_refl _) a1;unfold nz1 at h;exact Bzu a0 a1 a2 a3 a4 a5 qa qa
end searchCertified
end Go.Abs

namespace Go.Proofs.YtjonhijmljhjlaaGreat
theorem searchCertified_holds:Rows.SearchCertifiedUptoSaid:=Go.Abs.searchCertified.over λa0 a1 a2 a3 a4 a5 _ _ _ _ _ _ h=>Go.Abs.searchCertified.plain a0 a1 a2 a3 a4 a5 h
end Go.Proofs.YtjonhijmljhjlaaGreat
