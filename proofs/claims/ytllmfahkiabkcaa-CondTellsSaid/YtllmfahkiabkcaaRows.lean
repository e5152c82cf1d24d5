/-
  No cell of these rows narrows 'for every input' (looked for: loops, veiled, ifaces, maps, wideKeys, modest, calm, conditions, laid).
  DERIVED. THE GIVEN ROWS OF THIS SEAT. 5 by the template 'for every input the law returns true; each argument reads behind the call as it read before'; 0 by the template 'total and deterministic' (their statements: YtllmfahkiabkcaaTotals.lean).
  GIVEN WITH THE SEED: the statements are not yours to turn. If you find one false, say at which input.
  Laid BY PROGRAM, IN A SANDBOX (cutbox-rows.mjs): the forced cells as the released guide's own fill.sh prints them over the translation dfab20f902afbed3… (all of the seat's roots in one cut). By AI agents, Wed Nov 11 2026. No macro, syntax, notation, axiom, sorry.
-/
import Derived.Test.YtllmfahkiabkcaaChecked
import GoSem.Claim
import GoSem.ClaimJoined
import GoSem.ClaimMapViews
import Derived.JoinedTies
import Derived.KernelRfl
namespace Go.Proofs.Ytllmfahkiabkcaa
/- THE CELL 'sum', in the pinned program and in every row, IS THE sha256 OF THE DUMP (.gsa) THAT YtllmfahkiabkcaaProg.lean LOADS. Nothing in Lean hashes anything: it is a label: what it is worth is what the hold of that sum in a sandbox is worth. -/
noncomputable def Try.pinned : Pinned := { name := "ytllmfahkiabkcaa", sum := "dfab20f902afbed3ecc4c4eab45a551936403cf29c4b850b466ec938cf2f2f70", checked := Try.checked }
namespace Rows
def none {H : Type} : Left H := { results := [], args := [] }

/-- 'handshakerlaw20.CondTells': WHATEVER THE INPUT: true; the input reads as it did. -/
def condTellsSpec : ChangeSpec := { name := "condTells", fn := fun _ => fun
  | [d1, d2, d3] => { results := [.lit (.bool true)], args := [d1, d2, d3] }
  | _ => none }
def condTellsRow : OpenClaim := { program := "ytllmfahkiabkcaa", sum := "dfab20f902afbed3ecc4c4eab45a551936403cf29c4b850b466ec938cf2f2f70", func := "handshaker/handshakerlaw20.CondTells", spec := "condTells", unfollowed := true, recurses := true, apart := false }
def CondTellsSaid : Prop := condTellsRow.holds Try.pinned (OpenSpec.ofChange condTellsSpec)

/-- ITS FALSE NEIGHBOUR: 'it returns false'. Refute it at one input. -/
def condTellsWrong : ChangeSpec := { name := "condTells", fn := fun _ => fun
  | [d1, d2, d3] => { results := [.lit (.bool false)], args := [d1, d2, d3] }
  | _ => none }
def CondTellsWrongFalsely : Prop := condTellsRow.holds Try.pinned (OpenSpec.ofChange condTellsWrong)

/-- 'handshakerlaw20.CondKeeps': WHATEVER THE INPUT: true; the input reads as it did. -/
def condKeepsSpec : ChangeSpec := { name := "condKeeps", fn := fun _ => fun
  | [d] => { results := [.lit (.bool true)], args := [d] }
  | _ => none }
def condKeepsRow : OpenClaim := { program := "ytllmfahkiabkcaa", sum := "dfab20f902afbed3ecc4c4eab45a551936403cf29c4b850b466ec938cf2f2f70", func := "handshaker/handshakerlaw20.CondKeeps", spec := "condKeeps", unfollowed := true, recurses := true, apart := false }
def CondKeepsSaid : Prop := condKeepsRow.holds Try.pinned (OpenSpec.ofChange condKeepsSpec)

/-- ITS FALSE NEIGHBOUR: 'it returns false'. Refute it at one input. -/
def condKeepsWrong : ChangeSpec := { name := "condKeeps", fn := fun _ => fun
  | [d] => { results := [.lit (.bool false)], args := [d] }
  | _ => none }
def CondKeepsWrongFalsely : Prop := condKeepsRow.holds Try.pinned (OpenSpec.ofChange condKeepsWrong)

/-- 'handshakerlaw20.CondAll': WHATEVER THE INPUT: true; the input reads as it did. -/
def condAllSpec : ChangeSpec := { name := "condAll", fn := fun _ => fun
  | [d] => { results := [.lit (.bool true)], args := [d] }
  | _ => none }
def condAllRow : OpenClaim := { program := "ytllmfahkiabkcaa", sum := "dfab20f902afbed3ecc4c4eab45a551936403cf29c4b850b466ec938cf2f2f70", func := "handshaker/handshakerlaw20.CondAll", spec := "condAll", unfollowed := true, recurses := true, apart := false }
def CondAllSaid : Prop := condAllRow.holds Try.pinned (OpenSpec.ofChange condAllSpec)

/-- ITS FALSE NEIGHBOUR: 'it returns false'. Refute it at one input. -/
def condAllWrong : ChangeSpec := { name := "condAll", fn := fun _ => fun
  | [d] => { results := [.lit (.bool false)], args := [d] }
  | _ => none }
def CondAllWrongFalsely : Prop := condAllRow.holds Try.pinned (OpenSpec.ofChange condAllWrong)

/-- 'handshakerlaw20.CondParts': WHATEVER THE INPUT: true; the input reads as it did. -/
def condPartsSpec : ChangeSpec := { name := "condParts", fn := fun _ => fun
  | [d1, d2, d3] => { results := [.lit (.bool true)], args := [d1, d2, d3] }
  | _ => none }
def condPartsRow : OpenClaim := { program := "ytllmfahkiabkcaa", sum := "dfab20f902afbed3ecc4c4eab45a551936403cf29c4b850b466ec938cf2f2f70", func := "handshaker/handshakerlaw20.CondParts", spec := "condParts", unfollowed := true, recurses := true, apart := false }
def CondPartsSaid : Prop := condPartsRow.holds Try.pinned (OpenSpec.ofChange condPartsSpec)

/-- ITS FALSE NEIGHBOUR: 'it returns false'. Refute it at one input. -/
def condPartsWrong : ChangeSpec := { name := "condParts", fn := fun _ => fun
  | [d1, d2, d3] => { results := [.lit (.bool false)], args := [d1, d2, d3] }
  | _ => none }
def CondPartsWrongFalsely : Prop := condPartsRow.holds Try.pinned (OpenSpec.ofChange condPartsWrong)

/-- 'handshakerlaw20.CondLeaves': WHATEVER THE INPUT: true; the input reads as it did. -/
def condLeavesSpec : ChangeSpec := { name := "condLeaves", fn := fun _ => fun
  | [d1, d2] => { results := [.lit (.bool true)], args := [d1, d2] }
  | _ => none }
def condLeavesRow : OpenClaim := { program := "ytllmfahkiabkcaa", sum := "dfab20f902afbed3ecc4c4eab45a551936403cf29c4b850b466ec938cf2f2f70", func := "handshaker/handshakerlaw20.CondLeaves", spec := "condLeaves", unfollowed := true, recurses := true, apart := false }
def CondLeavesSaid : Prop := condLeavesRow.holds Try.pinned (OpenSpec.ofChange condLeavesSpec)

/-- ITS FALSE NEIGHBOUR: 'it returns false'. Refute it at one input. -/
def condLeavesWrong : ChangeSpec := { name := "condLeaves", fn := fun _ => fun
  | [d1, d2] => { results := [.lit (.bool false)], args := [d1, d2] }
  | _ => none }
def CondLeavesWrongFalsely : Prop := condLeavesRow.holds Try.pinned (OpenSpec.ofChange condLeavesWrong)

/- THE SECOND FORM. 'bulk': how many values and letters a reading holds, each counted each time it is reached (what is shared counts as often as it is met; a slice's spare places count too). A statement '..UptoSaid' is the law's where the arguments, and the package variables that the reading takes, are together of bulk at most 1048576: NARROWER than '..Said'. Prove '..Said' where nothing that the law and all that it calls make is longer than what came in: it says more and counts as full. Else prove '..UptoSaid'. A law counts once. -/
mutual
def uptoBulk {H : Type} : DataW H → Nat
  | .lit (.string bytes) => bytes.length + 1
  | .lit _ => 1
  | .nil => 1
  | .ptr d => uptoBulk d + 1
  | .slice elems spare => uptoBulkAll elems + uptoBulkAll spare + 1
  | .agg parts => uptoBulkAll parts + 1
  | .iface _ d => uptoBulk d + 1
  | .map entries => uptoBulkEntries entries + 1
  | .held _ => 1
def uptoBulkAll {H : Type} : List (DataW H) → Nat
  | [] => 0
  | d :: r => uptoBulk d + uptoBulkAll r
def uptoBulkEntries {H : Type} : List (Lit × DataW H) → Nat
  | [] => 0
  | x :: r => uptoBulkEntry x + uptoBulkEntries r
def uptoBulkEntry {H : Type} : Lit × DataW H → Nat
  | (.string bytes, d) => bytes.length + uptoBulk d + 1
  | (_, d) => uptoBulk d + 1
 end
def uptoSmall : (H : Type) → List (DataW H) → Bool := fun _ ds => decide (uptoBulkAll ds ≤ 1048576)
def OpenSpec.upto (s : _root_.Go.ChangeSpec) : _root_.Go.OpenSpec := { _root_.Go.OpenSpec.ofChange s with cond := some uptoSmall }

/-- 'handshakerlaw20.CondTells', WHERE WHAT IT READS IS OF BULK AT MOST 1048576: true; the input reads as it did. -/
def condTellsUptoRow : OpenClaim := { program := "ytllmfahkiabkcaa", sum := "dfab20f902afbed3ecc4c4eab45a551936403cf29c4b850b466ec938cf2f2f70", func := "handshaker/handshakerlaw20.CondTells", spec := "condTells", unfollowed := true, recurses := true, apart := false, narrowed := true }
def CondTellsUptoSaid : Prop := condTellsUptoRow.holds Try.pinned (OpenSpec.upto condTellsSpec)

/-- 'handshakerlaw20.CondKeeps', WHERE WHAT IT READS IS OF BULK AT MOST 1048576: true; the input reads as it did. -/
def condKeepsUptoRow : OpenClaim := { program := "ytllmfahkiabkcaa", sum := "dfab20f902afbed3ecc4c4eab45a551936403cf29c4b850b466ec938cf2f2f70", func := "handshaker/handshakerlaw20.CondKeeps", spec := "condKeeps", unfollowed := true, recurses := true, apart := false, narrowed := true }
def CondKeepsUptoSaid : Prop := condKeepsUptoRow.holds Try.pinned (OpenSpec.upto condKeepsSpec)

/-- 'handshakerlaw20.CondAll', WHERE WHAT IT READS IS OF BULK AT MOST 1048576: true; the input reads as it did. -/
def condAllUptoRow : OpenClaim := { program := "ytllmfahkiabkcaa", sum := "dfab20f902afbed3ecc4c4eab45a551936403cf29c4b850b466ec938cf2f2f70", func := "handshaker/handshakerlaw20.CondAll", spec := "condAll", unfollowed := true, recurses := true, apart := false, narrowed := true }
def CondAllUptoSaid : Prop := condAllUptoRow.holds Try.pinned (OpenSpec.upto condAllSpec)

/-- 'handshakerlaw20.CondParts', WHERE WHAT IT READS IS OF BULK AT MOST 1048576: true; the input reads as it did. -/
def condPartsUptoRow : OpenClaim := { program := "ytllmfahkiabkcaa", sum := "dfab20f902afbed3ecc4c4eab45a551936403cf29c4b850b466ec938cf2f2f70", func := "handshaker/handshakerlaw20.CondParts", spec := "condParts", unfollowed := true, recurses := true, apart := false, narrowed := true }
def CondPartsUptoSaid : Prop := condPartsUptoRow.holds Try.pinned (OpenSpec.upto condPartsSpec)

/-- 'handshakerlaw20.CondLeaves', WHERE WHAT IT READS IS OF BULK AT MOST 1048576: true; the input reads as it did. -/
def condLeavesUptoRow : OpenClaim := { program := "ytllmfahkiabkcaa", sum := "dfab20f902afbed3ecc4c4eab45a551936403cf29c4b850b466ec938cf2f2f70", func := "handshaker/handshakerlaw20.CondLeaves", spec := "condLeaves", unfollowed := true, recurses := true, apart := false, narrowed := true }
def CondLeavesUptoSaid : Prop := condLeavesUptoRow.holds Try.pinned (OpenSpec.upto condLeavesSpec)

end Rows
end Go.Proofs.Ytllmfahkiabkcaa
