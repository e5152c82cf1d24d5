/- Words of a printed proof: those that this seat's proofs name, out of the words that the print lays for it. No condition but those that each statement names. -/
import Derived.Test.YthbcajkphkdnmaaWInv
import Derived.Test.YthbcajkphkdnmaaWFootNe
namespace Go.Proofs.YthbcajkphkdnmaaW.PrintWords
open Go.RowKit
end Go.Proofs.YthbcajkphkdnmaaW.PrintWords
namespace Go.Proofs.YthbcajkphkdnmaaW.PrintLast
section
variable {ops : Array Oper} {a : Act} {o og : Oper} {g : Nat} {t : Tmp} {u : Bool}
end
end Go.Proofs.YthbcajkphkdnmaaW.PrintLast
