/- Words of a printed proof: those that this seat's proofs name, out of the words that the print lays for it. No condition but those that each statement names. -/
import Derived.Test.YtllmfahkiabkcaaWInv
import Derived.Test.YtllmfahkiabkcaaWFootNe
namespace Go.Proofs.YtllmfahkiabkcaaW.PrintWords
open Go.RowKit
end Go.Proofs.YtllmfahkiabkcaaW.PrintWords
namespace Go.Proofs.YtllmfahkiabkcaaW.PrintLast
section
variable {ops : Array Oper} {a : Act} {o og : Oper} {g : Nat} {t : Tmp} {u : Bool}
end
end Go.Proofs.YtllmfahkiabkcaaW.PrintLast
