/-
  No cell of these rows narrows 'for every input' (looked for: loops, veiled, ifaces, maps, wideKeys, modest, calm, conditions, laid).
  DERIVED. THE GIVEN ROWS OF THIS SEAT. 6 by the template 'for every input the law returns true; each argument reads behind the call as it read before'; 0 by the template 'total and deterministic' (their statements: YthbcajkphkdnmaaTotals.lean).
  GIVEN WITH THE SEED: the statements are not yours to turn. If you find one false, say at which input.
  Laid BY PROGRAM, IN A SANDBOX (cutbox-rows.mjs): the forced cells as the released guide's own fill.sh prints them over the translation 066186105ffa33a2… (all of the seat's roots in one cut). By AI agents, Wed Nov 11 2026. No macro, syntax, notation, axiom, sorry.
-/
import Derived.Test.YthbcajkphkdnmaaChecked
import GoSem.Claim
import GoSem.ClaimJoined
import GoSem.ClaimMapViews
import Derived.JoinedTies
import Derived.KernelRfl
namespace Go.Proofs.Ythbcajkphkdnmaa
/- THE CELL 'sum', in the pinned program and in every row, IS THE sha256 OF THE DUMP (.gsa) THAT YthbcajkphkdnmaaProg.lean LOADS. Nothing in Lean hashes anything: it is a label: what it is worth is what the hold of that sum in a sandbox is worth. -/
noncomputable def Try.pinned : Pinned := { name := "ythbcajkphkdnmaa", sum := "066186105ffa33a239353bf1508bac2c789c2893edb193896b27400d377b9cad", checked := Try.checked }
namespace Rows
def none {H : Type} : Left H := { results := [], args := [] }

/-- 'handshakerlaw18.SemaTells': WHATEVER THE INPUT: true; the input reads as it did. -/
def semaTellsSpec : ChangeSpec := { name := "semaTells", fn := fun _ => fun
  | [d1, d2, d3] => { results := [.lit (.bool true)], args := [d1, d2, d3] }
  | _ => none }
def semaTellsRow : OpenClaim := { program := "ythbcajkphkdnmaa", sum := "066186105ffa33a239353bf1508bac2c789c2893edb193896b27400d377b9cad", func := "handshaker/handshakerlaw18.SemaTells", spec := "semaTells", unfollowed := true, recurses := true, apart := false }
def SemaTellsSaid : Prop := semaTellsRow.holds Try.pinned (OpenSpec.ofChange semaTellsSpec)

/-- ITS FALSE NEIGHBOUR: 'it returns false'. Refute it at one input. -/
def semaTellsWrong : ChangeSpec := { name := "semaTells", fn := fun _ => fun
  | [d1, d2, d3] => { results := [.lit (.bool false)], args := [d1, d2, d3] }
  | _ => none }
def SemaTellsWrongFalsely : Prop := semaTellsRow.holds Try.pinned (OpenSpec.ofChange semaTellsWrong)

/-- 'handshakerlaw18.SemaCounts': WHATEVER THE INPUT: true; the input reads as it did. -/
def semaCountsSpec : ChangeSpec := { name := "semaCounts", fn := fun _ => fun
  | [d1, d2] => { results := [.lit (.bool true)], args := [d1, d2] }
  | _ => none }
def semaCountsRow : OpenClaim := { program := "ythbcajkphkdnmaa", sum := "066186105ffa33a239353bf1508bac2c789c2893edb193896b27400d377b9cad", func := "handshaker/handshakerlaw18.SemaCounts", spec := "semaCounts", unfollowed := true, recurses := true, apart := false }
def SemaCountsSaid : Prop := semaCountsRow.holds Try.pinned (OpenSpec.ofChange semaCountsSpec)

/-- ITS FALSE NEIGHBOUR: 'it returns false'. Refute it at one input. -/
def semaCountsWrong : ChangeSpec := { name := "semaCounts", fn := fun _ => fun
  | [d1, d2] => { results := [.lit (.bool false)], args := [d1, d2] }
  | _ => none }
def SemaCountsWrongFalsely : Prop := semaCountsRow.holds Try.pinned (OpenSpec.ofChange semaCountsWrong)

/-- 'handshakerlaw18.SemaFirst': WHATEVER THE INPUT: true; the input reads as it did. -/
def semaFirstSpec : ChangeSpec := { name := "semaFirst", fn := fun _ => fun
  | [d] => { results := [.lit (.bool true)], args := [d] }
  | _ => none }
def semaFirstRow : OpenClaim := { program := "ythbcajkphkdnmaa", sum := "066186105ffa33a239353bf1508bac2c789c2893edb193896b27400d377b9cad", func := "handshaker/handshakerlaw18.SemaFirst", spec := "semaFirst", unfollowed := true, recurses := true, apart := false }
def SemaFirstSaid : Prop := semaFirstRow.holds Try.pinned (OpenSpec.ofChange semaFirstSpec)

/-- ITS FALSE NEIGHBOUR: 'it returns false'. Refute it at one input. -/
def semaFirstWrong : ChangeSpec := { name := "semaFirst", fn := fun _ => fun
  | [d] => { results := [.lit (.bool false)], args := [d] }
  | _ => none }
def SemaFirstWrongFalsely : Prop := semaFirstRow.holds Try.pinned (OpenSpec.ofChange semaFirstWrong)

/-- 'handshakerlaw18.SemaLeaves': WHATEVER THE INPUT: true; the input reads as it did. -/
def semaLeavesSpec : ChangeSpec := { name := "semaLeaves", fn := fun _ => fun
  | [d1, d2, d3] => { results := [.lit (.bool true)], args := [d1, d2, d3] }
  | _ => none }
def semaLeavesRow : OpenClaim := { program := "ythbcajkphkdnmaa", sum := "066186105ffa33a239353bf1508bac2c789c2893edb193896b27400d377b9cad", func := "handshaker/handshakerlaw18.SemaLeaves", spec := "semaLeaves", unfollowed := true, recurses := true, apart := false }
def SemaLeavesSaid : Prop := semaLeavesRow.holds Try.pinned (OpenSpec.ofChange semaLeavesSpec)

/-- ITS FALSE NEIGHBOUR: 'it returns false'. Refute it at one input. -/
def semaLeavesWrong : ChangeSpec := { name := "semaLeaves", fn := fun _ => fun
  | [d1, d2, d3] => { results := [.lit (.bool false)], args := [d1, d2, d3] }
  | _ => none }
def SemaLeavesWrongFalsely : Prop := semaLeavesRow.holds Try.pinned (OpenSpec.ofChange semaLeavesWrong)

/-- 'handshakerlaw18.SemaLocks': WHATEVER THE INPUT: true; the input reads as it did. -/
def semaLocksSpec : ChangeSpec := { name := "semaLocks", fn := fun _ => fun
  | [d1, d2] => { results := [.lit (.bool true)], args := [d1, d2] }
  | _ => none }
def semaLocksRow : OpenClaim := { program := "ythbcajkphkdnmaa", sum := "066186105ffa33a239353bf1508bac2c789c2893edb193896b27400d377b9cad", func := "handshaker/handshakerlaw18.SemaLocks", spec := "semaLocks", unfollowed := true, recurses := true, apart := false }
def SemaLocksSaid : Prop := semaLocksRow.holds Try.pinned (OpenSpec.ofChange semaLocksSpec)

/-- ITS FALSE NEIGHBOUR: 'it returns false'. Refute it at one input. -/
def semaLocksWrong : ChangeSpec := { name := "semaLocks", fn := fun _ => fun
  | [d1, d2] => { results := [.lit (.bool false)], args := [d1, d2] }
  | _ => none }
def SemaLocksWrongFalsely : Prop := semaLocksRow.holds Try.pinned (OpenSpec.ofChange semaLocksWrong)

/-- 'handshakerlaw18.SemaOthers': WHATEVER THE INPUT: true; the input reads as it did. -/
def semaOthersSpec : ChangeSpec := { name := "semaOthers", fn := fun _ => fun
  | [d1, d2, d3, d4] => { results := [.lit (.bool true)], args := [d1, d2, d3, d4] }
  | _ => none }
def semaOthersRow : OpenClaim := { program := "ythbcajkphkdnmaa", sum := "066186105ffa33a239353bf1508bac2c789c2893edb193896b27400d377b9cad", func := "handshaker/handshakerlaw18.SemaOthers", spec := "semaOthers", unfollowed := true, recurses := true, apart := false }
def SemaOthersSaid : Prop := semaOthersRow.holds Try.pinned (OpenSpec.ofChange semaOthersSpec)

/-- ITS FALSE NEIGHBOUR: 'it returns false'. Refute it at one input. -/
def semaOthersWrong : ChangeSpec := { name := "semaOthers", fn := fun _ => fun
  | [d1, d2, d3, d4] => { results := [.lit (.bool false)], args := [d1, d2, d3, d4] }
  | _ => none }
def SemaOthersWrongFalsely : Prop := semaOthersRow.holds Try.pinned (OpenSpec.ofChange semaOthersWrong)

/- THE SECOND FORM. 'bulk': how many values and letters a reading holds, each counted each time it is reached (what is shared counts as often as it is met; a slice's spare places count too). A statement '..UptoSaid' is the law's where the arguments, and the package variables that the reading takes, are together of bulk at most 1048576: NARROWER than '..Said'. Prove '..Said' where nothing that the law and all that it calls make is longer than what came in: it says more and counts as full. Else prove '..UptoSaid'. A law counts once. -/
mutual
def uptoBulk {H : Type} : DataW H → Nat
  | .lit (.string bytes) => bytes.length + 1
  | .lit _ => 1
  | .nil => 1
  | .ptr d => uptoBulk d + 1
  | .slice elems spare => uptoBulkAll elems + uptoBulkAll spare + 1
  | .agg parts => uptoBulkAll parts + 1
  | .iface _ d => uptoBulk d + 1
  | .map entries => uptoBulkEntries entries + 1
  | .held _ => 1
def uptoBulkAll {H : Type} : List (DataW H) → Nat
  | [] => 0
  | d :: r => uptoBulk d + uptoBulkAll r
def uptoBulkEntries {H : Type} : List (Lit × DataW H) → Nat
  | [] => 0
  | x :: r => uptoBulkEntry x + uptoBulkEntries r
def uptoBulkEntry {H : Type} : Lit × DataW H → Nat
  | (.string bytes, d) => bytes.length + uptoBulk d + 1
  | (_, d) => uptoBulk d + 1
 end
def uptoSmall : (H : Type) → List (DataW H) → Bool := fun _ ds => decide (uptoBulkAll ds ≤ 1048576)
def OpenSpec.upto (s : _root_.Go.ChangeSpec) : _root_.Go.OpenSpec := { _root_.Go.OpenSpec.ofChange s with cond := some uptoSmall }

/-- 'handshakerlaw18.SemaTells', WHERE WHAT IT READS IS OF BULK AT MOST 1048576: true; the input reads as it did. -/
def semaTellsUptoRow : OpenClaim := { program := "ythbcajkphkdnmaa", sum := "066186105ffa33a239353bf1508bac2c789c2893edb193896b27400d377b9cad", func := "handshaker/handshakerlaw18.SemaTells", spec := "semaTells", unfollowed := true, recurses := true, apart := false, narrowed := true }
def SemaTellsUptoSaid : Prop := semaTellsUptoRow.holds Try.pinned (OpenSpec.upto semaTellsSpec)

/-- 'handshakerlaw18.SemaCounts', WHERE WHAT IT READS IS OF BULK AT MOST 1048576: true; the input reads as it did. -/
def semaCountsUptoRow : OpenClaim := { program := "ythbcajkphkdnmaa", sum := "066186105ffa33a239353bf1508bac2c789c2893edb193896b27400d377b9cad", func := "handshaker/handshakerlaw18.SemaCounts", spec := "semaCounts", unfollowed := true, recurses := true, apart := false, narrowed := true }
def SemaCountsUptoSaid : Prop := semaCountsUptoRow.holds Try.pinned (OpenSpec.upto semaCountsSpec)

/-- 'handshakerlaw18.SemaFirst', WHERE WHAT IT READS IS OF BULK AT MOST 1048576: true; the input reads as it did. -/
def semaFirstUptoRow : OpenClaim := { program := "ythbcajkphkdnmaa", sum := "066186105ffa33a239353bf1508bac2c789c2893edb193896b27400d377b9cad", func := "handshaker/handshakerlaw18.SemaFirst", spec := "semaFirst", unfollowed := true, recurses := true, apart := false, narrowed := true }
def SemaFirstUptoSaid : Prop := semaFirstUptoRow.holds Try.pinned (OpenSpec.upto semaFirstSpec)

/-- 'handshakerlaw18.SemaLeaves', WHERE WHAT IT READS IS OF BULK AT MOST 1048576: true; the input reads as it did. -/
def semaLeavesUptoRow : OpenClaim := { program := "ythbcajkphkdnmaa", sum := "066186105ffa33a239353bf1508bac2c789c2893edb193896b27400d377b9cad", func := "handshaker/handshakerlaw18.SemaLeaves", spec := "semaLeaves", unfollowed := true, recurses := true, apart := false, narrowed := true }
def SemaLeavesUptoSaid : Prop := semaLeavesUptoRow.holds Try.pinned (OpenSpec.upto semaLeavesSpec)

/-- 'handshakerlaw18.SemaLocks', WHERE WHAT IT READS IS OF BULK AT MOST 1048576: true; the input reads as it did. -/
def semaLocksUptoRow : OpenClaim := { program := "ythbcajkphkdnmaa", sum := "066186105ffa33a239353bf1508bac2c789c2893edb193896b27400d377b9cad", func := "handshaker/handshakerlaw18.SemaLocks", spec := "semaLocks", unfollowed := true, recurses := true, apart := false, narrowed := true }
def SemaLocksUptoSaid : Prop := semaLocksUptoRow.holds Try.pinned (OpenSpec.upto semaLocksSpec)

/-- 'handshakerlaw18.SemaOthers', WHERE WHAT IT READS IS OF BULK AT MOST 1048576: true; the input reads as it did. -/
def semaOthersUptoRow : OpenClaim := { program := "ythbcajkphkdnmaa", sum := "066186105ffa33a239353bf1508bac2c789c2893edb193896b27400d377b9cad", func := "handshaker/handshakerlaw18.SemaOthers", spec := "semaOthers", unfollowed := true, recurses := true, apart := false, narrowed := true }
def SemaOthersUptoSaid : Prop := semaOthersUptoRow.holds Try.pinned (OpenSpec.upto semaOthersSpec)

end Rows
end Go.Proofs.Ythbcajkphkdnmaa
