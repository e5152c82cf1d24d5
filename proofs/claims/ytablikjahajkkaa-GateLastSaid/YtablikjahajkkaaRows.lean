/-
  No cell of these rows narrows 'for every input' (looked for: loops, veiled, ifaces, maps, wideKeys, modest, calm, conditions, laid).
  DERIVED. THE GIVEN ROWS OF THIS SEAT. 5 by the template 'for every input the law returns true; each argument reads behind the call as it read before'; 0 by the template 'total and deterministic' (their statements: YtablikjahajkkaaTotals.lean).
  GIVEN WITH THE SEED: the statements are not yours to turn. If you find one false, say at which input.
  Laid BY PROGRAM, IN A SANDBOX (cutbox-rows.mjs): the forced cells as the released guide's own fill.sh prints them over the translation 656466fb8241950f… (all of the seat's roots in one cut). By AI agents, Wed Nov 11 2026. No macro, syntax, notation, axiom, sorry.
-/
import Derived.Test.YtablikjahajkkaaChecked
import GoSem.Claim
import GoSem.ClaimJoined
import GoSem.ClaimMapViews
import Derived.JoinedTies
import Derived.KernelRfl
namespace Go.Proofs.Ytablikjahajkkaa
/- THE CELL 'sum', in the pinned program and in every row, IS THE sha256 OF THE DUMP (.gsa) THAT YtablikjahajkkaaProg.lean LOADS. Nothing in Lean hashes anything: it is a label: what it is worth is what the hold of that sum in a sandbox is worth. -/
noncomputable def Try.pinned : Pinned := { name := "ytablikjahajkkaa", sum := "656466fb8241950f4d26cf8e11910ec96ac502d2a3ebc75ee768ae171a5e5577", checked := Try.checked }
namespace Rows
def none {H : Type} : Left H := { results := [], args := [] }

/-- 'handshakerlaw19.GateTells': WHATEVER THE INPUT: true; the input reads as it did. -/
def gateTellsSpec : ChangeSpec := { name := "gateTells", fn := fun _ => fun
  | [d1, d2] => { results := [.lit (.bool true)], args := [d1, d2] }
  | _ => none }
def gateTellsRow : OpenClaim := { program := "ytablikjahajkkaa", sum := "656466fb8241950f4d26cf8e11910ec96ac502d2a3ebc75ee768ae171a5e5577", func := "handshaker/handshakerlaw19.GateTells", spec := "gateTells", apart := false }
def GateTellsSaid : Prop := gateTellsRow.holds Try.pinned (OpenSpec.ofChange gateTellsSpec)

/-- ITS FALSE NEIGHBOUR: 'it returns false'. Refute it at one input. -/
def gateTellsWrong : ChangeSpec := { name := "gateTells", fn := fun _ => fun
  | [d1, d2] => { results := [.lit (.bool false)], args := [d1, d2] }
  | _ => none }
def GateTellsWrongFalsely : Prop := gateTellsRow.holds Try.pinned (OpenSpec.ofChange gateTellsWrong)

/-- 'handshakerlaw19.GateRounds': WHATEVER THE INPUT: true; the input reads as it did. -/
def gateRoundsSpec : ChangeSpec := { name := "gateRounds", fn := fun _ => fun
  | [d1, d2] => { results := [.lit (.bool true)], args := [d1, d2] }
  | _ => none }
def gateRoundsRow : OpenClaim := { program := "ytablikjahajkkaa", sum := "656466fb8241950f4d26cf8e11910ec96ac502d2a3ebc75ee768ae171a5e5577", func := "handshaker/handshakerlaw19.GateRounds", spec := "gateRounds", apart := false }
def GateRoundsSaid : Prop := gateRoundsRow.holds Try.pinned (OpenSpec.ofChange gateRoundsSpec)

/-- ITS FALSE NEIGHBOUR: 'it returns false'. Refute it at one input. -/
def gateRoundsWrong : ChangeSpec := { name := "gateRounds", fn := fun _ => fun
  | [d1, d2] => { results := [.lit (.bool false)], args := [d1, d2] }
  | _ => none }
def GateRoundsWrongFalsely : Prop := gateRoundsRow.holds Try.pinned (OpenSpec.ofChange gateRoundsWrong)

/-- 'handshakerlaw19.GateBack': WHATEVER THE INPUT: true; the input reads as it did. -/
def gateBackSpec : ChangeSpec := { name := "gateBack", fn := fun _ => fun
  | [d1, d2] => { results := [.lit (.bool true)], args := [d1, d2] }
  | _ => none }
def gateBackRow : OpenClaim := { program := "ytablikjahajkkaa", sum := "656466fb8241950f4d26cf8e11910ec96ac502d2a3ebc75ee768ae171a5e5577", func := "handshaker/handshakerlaw19.GateBack", spec := "gateBack", apart := false }
def GateBackSaid : Prop := gateBackRow.holds Try.pinned (OpenSpec.ofChange gateBackSpec)

/-- ITS FALSE NEIGHBOUR: 'it returns false'. Refute it at one input. -/
def gateBackWrong : ChangeSpec := { name := "gateBack", fn := fun _ => fun
  | [d1, d2] => { results := [.lit (.bool false)], args := [d1, d2] }
  | _ => none }
def GateBackWrongFalsely : Prop := gateBackRow.holds Try.pinned (OpenSpec.ofChange gateBackWrong)

/-- 'handshakerlaw19.GatePlaces': WHATEVER THE INPUT: true; the input reads as it did. -/
def gatePlacesSpec : ChangeSpec := { name := "gatePlaces", fn := fun _ => fun
  | [d1, d2] => { results := [.lit (.bool true)], args := [d1, d2] }
  | _ => none }
def gatePlacesRow : OpenClaim := { program := "ytablikjahajkkaa", sum := "656466fb8241950f4d26cf8e11910ec96ac502d2a3ebc75ee768ae171a5e5577", func := "handshaker/handshakerlaw19.GatePlaces", spec := "gatePlaces", apart := false }
def GatePlacesSaid : Prop := gatePlacesRow.holds Try.pinned (OpenSpec.ofChange gatePlacesSpec)

/-- ITS FALSE NEIGHBOUR: 'it returns false'. Refute it at one input. -/
def gatePlacesWrong : ChangeSpec := { name := "gatePlaces", fn := fun _ => fun
  | [d1, d2] => { results := [.lit (.bool false)], args := [d1, d2] }
  | _ => none }
def GatePlacesWrongFalsely : Prop := gatePlacesRow.holds Try.pinned (OpenSpec.ofChange gatePlacesWrong)

/-- 'handshakerlaw19.GateLast': WHATEVER THE INPUT: true; the input reads as it did. -/
def gateLastSpec : ChangeSpec := { name := "gateLast", fn := fun _ => fun
  | [d] => { results := [.lit (.bool true)], args := [d] }
  | _ => none }
def gateLastRow : OpenClaim := { program := "ytablikjahajkkaa", sum := "656466fb8241950f4d26cf8e11910ec96ac502d2a3ebc75ee768ae171a5e5577", func := "handshaker/handshakerlaw19.GateLast", spec := "gateLast", apart := false }
def GateLastSaid : Prop := gateLastRow.holds Try.pinned (OpenSpec.ofChange gateLastSpec)

/-- ITS FALSE NEIGHBOUR: 'it returns false'. Refute it at one input. -/
def gateLastWrong : ChangeSpec := { name := "gateLast", fn := fun _ => fun
  | [d] => { results := [.lit (.bool false)], args := [d] }
  | _ => none }
def GateLastWrongFalsely : Prop := gateLastRow.holds Try.pinned (OpenSpec.ofChange gateLastWrong)

/- THE SECOND FORM. 'bulk': how many values and letters a reading holds, each counted each time it is reached (what is shared counts as often as it is met; a slice's spare places count too). A statement '..UptoSaid' is the law's where the arguments, and the package variables that the reading takes, are together of bulk at most 1048576: NARROWER than '..Said'. Prove '..Said' where nothing that the law and all that it calls make is longer than what came in: it says more and counts as full. Else prove '..UptoSaid'. A law counts once. -/
mutual
def uptoBulk {H : Type} : DataW H → Nat
  | .lit (.string bytes) => bytes.length + 1
  | .lit _ => 1
  | .nil => 1
  | .ptr d => uptoBulk d + 1
  | .slice elems spare => uptoBulkAll elems + uptoBulkAll spare + 1
  | .agg parts => uptoBulkAll parts + 1
  | .iface _ d => uptoBulk d + 1
  | .map entries => uptoBulkEntries entries + 1
  | .held _ => 1
def uptoBulkAll {H : Type} : List (DataW H) → Nat
  | [] => 0
  | d :: r => uptoBulk d + uptoBulkAll r
def uptoBulkEntries {H : Type} : List (Lit × DataW H) → Nat
  | [] => 0
  | x :: r => uptoBulkEntry x + uptoBulkEntries r
def uptoBulkEntry {H : Type} : Lit × DataW H → Nat
  | (.string bytes, d) => bytes.length + uptoBulk d + 1
  | (_, d) => uptoBulk d + 1
 end
def uptoSmall : (H : Type) → List (DataW H) → Bool := fun _ ds => decide (uptoBulkAll ds ≤ 1048576)
def OpenSpec.upto (s : _root_.Go.ChangeSpec) : _root_.Go.OpenSpec := { _root_.Go.OpenSpec.ofChange s with cond := some uptoSmall }

/-- 'handshakerlaw19.GateTells', WHERE WHAT IT READS IS OF BULK AT MOST 1048576: true; the input reads as it did. -/
def gateTellsUptoRow : OpenClaim := { program := "ytablikjahajkkaa", sum := "656466fb8241950f4d26cf8e11910ec96ac502d2a3ebc75ee768ae171a5e5577", func := "handshaker/handshakerlaw19.GateTells", spec := "gateTells", apart := false, narrowed := true }
def GateTellsUptoSaid : Prop := gateTellsUptoRow.holds Try.pinned (OpenSpec.upto gateTellsSpec)

/-- 'handshakerlaw19.GateRounds', WHERE WHAT IT READS IS OF BULK AT MOST 1048576: true; the input reads as it did. -/
def gateRoundsUptoRow : OpenClaim := { program := "ytablikjahajkkaa", sum := "656466fb8241950f4d26cf8e11910ec96ac502d2a3ebc75ee768ae171a5e5577", func := "handshaker/handshakerlaw19.GateRounds", spec := "gateRounds", apart := false, narrowed := true }
def GateRoundsUptoSaid : Prop := gateRoundsUptoRow.holds Try.pinned (OpenSpec.upto gateRoundsSpec)

/-- 'handshakerlaw19.GateBack', WHERE WHAT IT READS IS OF BULK AT MOST 1048576: true; the input reads as it did. -/
def gateBackUptoRow : OpenClaim := { program := "ytablikjahajkkaa", sum := "656466fb8241950f4d26cf8e11910ec96ac502d2a3ebc75ee768ae171a5e5577", func := "handshaker/handshakerlaw19.GateBack", spec := "gateBack", apart := false, narrowed := true }
def GateBackUptoSaid : Prop := gateBackUptoRow.holds Try.pinned (OpenSpec.upto gateBackSpec)

/-- 'handshakerlaw19.GatePlaces', WHERE WHAT IT READS IS OF BULK AT MOST 1048576: true; the input reads as it did. -/
def gatePlacesUptoRow : OpenClaim := { program := "ytablikjahajkkaa", sum := "656466fb8241950f4d26cf8e11910ec96ac502d2a3ebc75ee768ae171a5e5577", func := "handshaker/handshakerlaw19.GatePlaces", spec := "gatePlaces", apart := false, narrowed := true }
def GatePlacesUptoSaid : Prop := gatePlacesUptoRow.holds Try.pinned (OpenSpec.upto gatePlacesSpec)

/-- 'handshakerlaw19.GateLast', WHERE WHAT IT READS IS OF BULK AT MOST 1048576: true; the input reads as it did. -/
def gateLastUptoRow : OpenClaim := { program := "ytablikjahajkkaa", sum := "656466fb8241950f4d26cf8e11910ec96ac502d2a3ebc75ee768ae171a5e5577", func := "handshaker/handshakerlaw19.GateLast", spec := "gateLast", apart := false, narrowed := true }
def GateLastUptoSaid : Prop := gateLastUptoRow.holds Try.pinned (OpenSpec.upto gateLastSpec)

end Rows
end Go.Proofs.Ytablikjahajkkaa
