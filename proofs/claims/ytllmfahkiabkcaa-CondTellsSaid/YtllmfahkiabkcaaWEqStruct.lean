/- Words of a printed proof: those that this seat's proofs name, out of the words that the print lays for it. No condition but those that each statement names. -/
import Derived.Test.YtllmfahkiabkcaaWWords
import Derived.Laws.StructEq
namespace Go.Proofs.YtllmfahkiabkcaaW.PrintWords
open Go.RowKit
section
variable {P : Program} {d : Nat} {xs ys : Array Value} {f : Field} {fs : List Field} {a b : Value} {r s : Bool} {w : World}
end
end Go.Proofs.YtllmfahkiabkcaaW.PrintWords
