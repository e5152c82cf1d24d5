/-
  No cell of these rows narrows 'for every input' (looked for: loops, veiled, ifaces, maps, wideKeys, modest, calm, conditions, laid).
  DERIVED. THE GIVEN ROWS OF THIS SEAT. 5 by the template 'for every input the law returns true; each argument reads behind the call as it read before'; 0 by the template 'total and deterministic' (their statements: YtpmcoehggajmcaaTotals.lean).
  GIVEN WITH THE SEED: the statements are not yours to turn. If you find one false, say at which input.
  Laid BY PROGRAM, IN A SANDBOX (cutbox-rows.mjs): the forced cells as the released guide's own fill.sh prints them over the translation 0d48132c72a63cac… (all of the seat's roots in one cut). By AI agents, Wed Nov 11 2026. No macro, syntax, notation, axiom, sorry.
-/
import Derived.Test.YtpmcoehggajmcaaChecked
import GoSem.Claim
import GoSem.ClaimJoined
import GoSem.ClaimMapViews
import Derived.JoinedTies
import Derived.KernelRfl
namespace Go.Proofs.Ytpmcoehggajmcaa
/- THE CELL 'sum', in the pinned program and in every row, IS THE sha256 OF THE DUMP (.gsa) THAT YtpmcoehggajmcaaProg.lean LOADS. Nothing in Lean hashes anything: it is a label: what it is worth is what the hold of that sum in a sandbox is worth. -/
noncomputable def Try.pinned : Pinned := { name := "ytpmcoehggajmcaa", sum := "0d48132c72a63cac801b2d4125b5a3a0c6a838411dc3f4d258e8d3780a7df8ef", checked := Try.checked }
namespace Rows
def none {H : Type} : Left H := { results := [], args := [] }

/-- 'handshakerlaw21.SwapEnds': WHATEVER THE INPUT: true; the input reads as it did. -/
def swapEndsSpec : ChangeSpec := { name := "swapEnds", fn := fun _ => fun
  | [d] => { results := [.lit (.bool true)], args := [d] }
  | _ => none }
def swapEndsRow : OpenClaim := { program := "ytpmcoehggajmcaa", sum := "0d48132c72a63cac801b2d4125b5a3a0c6a838411dc3f4d258e8d3780a7df8ef", func := "handshaker/handshakerlaw21.SwapEnds", spec := "swapEnds", unfollowed := true, recurses := true, apart := false }
def SwapEndsSaid : Prop := swapEndsRow.holds Try.pinned (OpenSpec.ofChange swapEndsSpec)

/-- ITS FALSE NEIGHBOUR: 'it returns false'. Refute it at one input. -/
def swapEndsWrong : ChangeSpec := { name := "swapEnds", fn := fun _ => fun
  | [d] => { results := [.lit (.bool false)], args := [d] }
  | _ => none }
def SwapEndsWrongFalsely : Prop := swapEndsRow.holds Try.pinned (OpenSpec.ofChange swapEndsWrong)

/-- 'handshakerlaw21.SwapBoth': WHATEVER THE INPUT: true; the input reads as it did. -/
def swapBothSpec : ChangeSpec := { name := "swapBoth", fn := fun _ => fun
  | [d1, d2, d3, d4, d5] => { results := [.lit (.bool true)], args := [d1, d2, d3, d4, d5] }
  | _ => none }
def swapBothRow : OpenClaim := { program := "ytpmcoehggajmcaa", sum := "0d48132c72a63cac801b2d4125b5a3a0c6a838411dc3f4d258e8d3780a7df8ef", func := "handshaker/handshakerlaw21.SwapBoth", spec := "swapBoth", unfollowed := true, recurses := true, apart := false }
def SwapBothSaid : Prop := swapBothRow.holds Try.pinned (OpenSpec.ofChange swapBothSpec)

/-- ITS FALSE NEIGHBOUR: 'it returns false'. Refute it at one input. -/
def swapBothWrong : ChangeSpec := { name := "swapBoth", fn := fun _ => fun
  | [d1, d2, d3, d4, d5] => { results := [.lit (.bool false)], args := [d1, d2, d3, d4, d5] }
  | _ => none }
def SwapBothWrongFalsely : Prop := swapBothRow.holds Try.pinned (OpenSpec.ofChange swapBothWrong)

/-- 'handshakerlaw21.SwapFirst': WHATEVER THE INPUT: true; the input reads as it did. -/
def swapFirstSpec : ChangeSpec := { name := "swapFirst", fn := fun _ => fun
  | [d1, d2] => { results := [.lit (.bool true)], args := [d1, d2] }
  | _ => none }
def swapFirstRow : OpenClaim := { program := "ytpmcoehggajmcaa", sum := "0d48132c72a63cac801b2d4125b5a3a0c6a838411dc3f4d258e8d3780a7df8ef", func := "handshaker/handshakerlaw21.SwapFirst", spec := "swapFirst", unfollowed := true, recurses := true, apart := false }
def SwapFirstSaid : Prop := swapFirstRow.holds Try.pinned (OpenSpec.ofChange swapFirstSpec)

/-- ITS FALSE NEIGHBOUR: 'it returns false'. Refute it at one input. -/
def swapFirstWrong : ChangeSpec := { name := "swapFirst", fn := fun _ => fun
  | [d1, d2] => { results := [.lit (.bool false)], args := [d1, d2] }
  | _ => none }
def SwapFirstWrongFalsely : Prop := swapFirstRow.holds Try.pinned (OpenSpec.ofChange swapFirstWrong)

/-- 'handshakerlaw21.SwapLeaves': WHATEVER THE INPUT: true; the input reads as it did. -/
def swapLeavesSpec : ChangeSpec := { name := "swapLeaves", fn := fun _ => fun
  | [d1, d2] => { results := [.lit (.bool true)], args := [d1, d2] }
  | _ => none }
def swapLeavesRow : OpenClaim := { program := "ytpmcoehggajmcaa", sum := "0d48132c72a63cac801b2d4125b5a3a0c6a838411dc3f4d258e8d3780a7df8ef", func := "handshaker/handshakerlaw21.SwapLeaves", spec := "swapLeaves", unfollowed := true, recurses := true, apart := false }
def SwapLeavesSaid : Prop := swapLeavesRow.holds Try.pinned (OpenSpec.ofChange swapLeavesSpec)

/-- ITS FALSE NEIGHBOUR: 'it returns false'. Refute it at one input. -/
def swapLeavesWrong : ChangeSpec := { name := "swapLeaves", fn := fun _ => fun
  | [d1, d2] => { results := [.lit (.bool false)], args := [d1, d2] }
  | _ => none }
def SwapLeavesWrongFalsely : Prop := swapLeavesRow.holds Try.pinned (OpenSpec.ofChange swapLeavesWrong)

/-- 'handshakerlaw21.SwapLate': WHATEVER THE INPUT: true; the input reads as it did. -/
def swapLateSpec : ChangeSpec := { name := "swapLate", fn := fun _ => fun
  | [d1, d2, d3] => { results := [.lit (.bool true)], args := [d1, d2, d3] }
  | _ => none }
def swapLateRow : OpenClaim := { program := "ytpmcoehggajmcaa", sum := "0d48132c72a63cac801b2d4125b5a3a0c6a838411dc3f4d258e8d3780a7df8ef", func := "handshaker/handshakerlaw21.SwapLate", spec := "swapLate", unfollowed := true, recurses := true, apart := false }
def SwapLateSaid : Prop := swapLateRow.holds Try.pinned (OpenSpec.ofChange swapLateSpec)

/-- ITS FALSE NEIGHBOUR: 'it returns false'. Refute it at one input. -/
def swapLateWrong : ChangeSpec := { name := "swapLate", fn := fun _ => fun
  | [d1, d2, d3] => { results := [.lit (.bool false)], args := [d1, d2, d3] }
  | _ => none }
def SwapLateWrongFalsely : Prop := swapLateRow.holds Try.pinned (OpenSpec.ofChange swapLateWrong)

/- THE SECOND FORM. 'bulk': how many values and letters a reading holds, each counted each time it is reached (what is shared counts as often as it is met; a slice's spare places count too). A statement '..UptoSaid' is the law's where the arguments, and the package variables that the reading takes, are together of bulk at most 1048576: NARROWER than '..Said'. Prove '..Said' where nothing that the law and all that it calls make is longer than what came in: it says more and counts as full. Else prove '..UptoSaid'. A law counts once. -/
mutual
def uptoBulk {H : Type} : DataW H → Nat
  | .lit (.string bytes) => bytes.length + 1
  | .lit _ => 1
  | .nil => 1
  | .ptr d => uptoBulk d + 1
  | .slice elems spare => uptoBulkAll elems + uptoBulkAll spare + 1
  | .agg parts => uptoBulkAll parts + 1
  | .iface _ d => uptoBulk d + 1
  | .map entries => uptoBulkEntries entries + 1
  | .held _ => 1
def uptoBulkAll {H : Type} : List (DataW H) → Nat
  | [] => 0
  | d :: r => uptoBulk d + uptoBulkAll r
def uptoBulkEntries {H : Type} : List (Lit × DataW H) → Nat
  | [] => 0
  | x :: r => uptoBulkEntry x + uptoBulkEntries r
def uptoBulkEntry {H : Type} : Lit × DataW H → Nat
  | (.string bytes, d) => bytes.length + uptoBulk d + 1
  | (_, d) => uptoBulk d + 1
 end
def uptoSmall : (H : Type) → List (DataW H) → Bool := fun _ ds => decide (uptoBulkAll ds ≤ 1048576)
def OpenSpec.upto (s : _root_.Go.ChangeSpec) : _root_.Go.OpenSpec := { _root_.Go.OpenSpec.ofChange s with cond := some uptoSmall }

/-- 'handshakerlaw21.SwapEnds', WHERE WHAT IT READS IS OF BULK AT MOST 1048576: true; the input reads as it did. -/
def swapEndsUptoRow : OpenClaim := { program := "ytpmcoehggajmcaa", sum := "0d48132c72a63cac801b2d4125b5a3a0c6a838411dc3f4d258e8d3780a7df8ef", func := "handshaker/handshakerlaw21.SwapEnds", spec := "swapEnds", unfollowed := true, recurses := true, apart := false, narrowed := true }
def SwapEndsUptoSaid : Prop := swapEndsUptoRow.holds Try.pinned (OpenSpec.upto swapEndsSpec)

/-- 'handshakerlaw21.SwapBoth', WHERE WHAT IT READS IS OF BULK AT MOST 1048576: true; the input reads as it did. -/
def swapBothUptoRow : OpenClaim := { program := "ytpmcoehggajmcaa", sum := "0d48132c72a63cac801b2d4125b5a3a0c6a838411dc3f4d258e8d3780a7df8ef", func := "handshaker/handshakerlaw21.SwapBoth", spec := "swapBoth", unfollowed := true, recurses := true, apart := false, narrowed := true }
def SwapBothUptoSaid : Prop := swapBothUptoRow.holds Try.pinned (OpenSpec.upto swapBothSpec)

/-- 'handshakerlaw21.SwapFirst', WHERE WHAT IT READS IS OF BULK AT MOST 1048576: true; the input reads as it did. -/
def swapFirstUptoRow : OpenClaim := { program := "ytpmcoehggajmcaa", sum := "0d48132c72a63cac801b2d4125b5a3a0c6a838411dc3f4d258e8d3780a7df8ef", func := "handshaker/handshakerlaw21.SwapFirst", spec := "swapFirst", unfollowed := true, recurses := true, apart := false, narrowed := true }
def SwapFirstUptoSaid : Prop := swapFirstUptoRow.holds Try.pinned (OpenSpec.upto swapFirstSpec)

/-- 'handshakerlaw21.SwapLeaves', WHERE WHAT IT READS IS OF BULK AT MOST 1048576: true; the input reads as it did. -/
def swapLeavesUptoRow : OpenClaim := { program := "ytpmcoehggajmcaa", sum := "0d48132c72a63cac801b2d4125b5a3a0c6a838411dc3f4d258e8d3780a7df8ef", func := "handshaker/handshakerlaw21.SwapLeaves", spec := "swapLeaves", unfollowed := true, recurses := true, apart := false, narrowed := true }
def SwapLeavesUptoSaid : Prop := swapLeavesUptoRow.holds Try.pinned (OpenSpec.upto swapLeavesSpec)

/-- 'handshakerlaw21.SwapLate', WHERE WHAT IT READS IS OF BULK AT MOST 1048576: true; the input reads as it did. -/
def swapLateUptoRow : OpenClaim := { program := "ytpmcoehggajmcaa", sum := "0d48132c72a63cac801b2d4125b5a3a0c6a838411dc3f4d258e8d3780a7df8ef", func := "handshaker/handshakerlaw21.SwapLate", spec := "swapLate", unfollowed := true, recurses := true, apart := false, narrowed := true }
def SwapLateUptoSaid : Prop := swapLateUptoRow.holds Try.pinned (OpenSpec.upto swapLateSpec)

end Rows
end Go.Proofs.Ytpmcoehggajmcaa
