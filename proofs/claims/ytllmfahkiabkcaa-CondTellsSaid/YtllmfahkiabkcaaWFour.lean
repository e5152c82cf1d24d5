/- Words of a printed proof: those that this seat's proofs name, out of the words that the print lays for it. No condition but those that each statement names. -/
import Derived.Test.YtllmfahkiabkcaaWTab
namespace Go.Proofs.YtllmfahkiabkcaaW.PrintLast
section
variable {P : Program} {ops : Array Oper} {Q : Exit → Act → World → Prop} {md : Region.Mode} {S : World → Prop} {ds : List Nat} {T : Bool × List (List Nat × List Nat)}
end
end Go.Proofs.YtllmfahkiabkcaaW.PrintLast
