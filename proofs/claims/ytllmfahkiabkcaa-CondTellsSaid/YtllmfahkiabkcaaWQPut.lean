/- Words of a printed proof: those that this seat's proofs name, out of the words that the print lays for it. No condition but those that each statement names. -/
import Derived.Test.YtllmfahkiabkcaaWWords
import Derived.Test.YtllmfahkiabkcaaWLast
namespace Go.Proofs.YtllmfahkiabkcaaW.PrintWords
open Go.RowKit
namespace Kd
section
variable {α : Type} {d : Kd α} {e base g o n cap : Nat} {ok okp : Nat → Prop} {w W : World} {v : Value} {xs : List α}
end
section
variable {α : Type} {enc : α → Value} {h1 : ∀ x, (enc x).oneCell' = true} {e base g o n cap : Nat} {ok : Nat → Prop} {W : World} {xs : List α}
end
end Kd
end Go.Proofs.YtllmfahkiabkcaaW.PrintWords
