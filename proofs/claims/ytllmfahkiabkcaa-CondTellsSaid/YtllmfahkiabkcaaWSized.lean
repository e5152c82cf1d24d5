/- Words of a printed proof: those that this seat's proofs name, out of the words that the print lays for it. No condition but those that each statement names. -/
import Derived.SizedLaws
import Derived.ChangeSlices
namespace Go.Proofs.YtllmfahkiabkcaaW.PrintWords
open Go.ChangeShapes Go.WideShapes
end Go.Proofs.YtllmfahkiabkcaaW.PrintWords
