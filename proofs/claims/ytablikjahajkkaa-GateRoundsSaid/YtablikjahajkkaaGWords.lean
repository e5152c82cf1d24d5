/- Words beside the print's: what clear leaves of a row's tail; an empty row that was made. No condition but those that each statement names. -/
import Derived.Below
import Derived.Deep.Draws
import Derived.Deep.AppendLies
import Derived.Maps.AppendAt
import Derived.OwnWalk
import Derived.Laws.BytesArg
import Derived.Laws.MakeOwn
import Derived.Laws.OwnMore
import Derived.Deep.OwnRows
import Derived.Tactics
import Derived.Lib.ConvBytes
import Derived.Laws.Slices
import Derived.WalkKit
import Derived.KernelRfl
import Derived.RowKit3
import Derived.Deep.LoopGhost
import Derived.Deep.QuietTactic
import Derived.BigQuiet
import Derived.WideLaws
import Derived.Deep.DeepCutAuto
import Derived.Deep.CutBlock
import Derived.Deep.RegionHeld3
import Derived.Laws.Rows
import Derived.Lib.AppendStr
import Derived.ArgAppend
import Derived.Laws.IdiomCopy
import Derived.OrdersHeld
import Derived.Laws.BitsLemmas
import Derived.RowKit
import Derived.Deep.RegionLaw
import Derived.Lib.SliceRun
import Derived.Test.YtablikjahajkkaaWWords
import Derived.Test.YtablikjahajkkaaWLast
import Derived.Test.YtablikjahajkkaaWTab
import Derived.Test.YtablikjahajkkaaWFour
import Derived.Test.YtablikjahajkkaaWQPut
import Derived.Test.YtablikjahajkkaaWApart
import Derived.Test.YtablikjahajkkaaWArr
import Derived.Test.YtablikjahajkkaaWZeros
import Derived.Test.YtablikjahajkkaaWFoot
import Derived.Test.YtablikjahajkkaaWKept
import Derived.Test.YtablikjahajkkaaWShare
import Derived.Test.YtablikjahajkkaaWN
import Derived.Test.YtablikjahajkkaaWFootNe
import Derived.Test.YtablikjahajkkaaWAt
import Derived.Test.YtablikjahajkkaaWEqStruct
import Derived.Test.YtablikjahajkkaaWRepsOne
import Derived.Test.YtablikjahajkkaaWInv
import Derived.Test.YtablikjahajkkaaWInvWords
import Derived.Test.YtablikjahajkkaaWGuard
import Derived.Test.YtablikjahajkkaaWNEv
import Derived.Test.YtablikjahajkkaaWMore
namespace Go.Proofs.YtablikjahajkkaaG
open Go.RowKit Go.Proofs.YtablikjahajkkaaW.PrintWords Go.Proofs.YtablikjahajkkaaW.PrintLast Go.Proofs.YtablikjahajkkaaW.PrintMore
set_option linter.unusedVariables false
set_option linter.unusedSimpArgs false
theorem zeroCells_one (z : Array Value) : (Builtin.zeroCells z 1).toList = z.toList := by
  simp only [Builtin.zeroCells, Nat.one_mul]
  apply List.ext_getElem
  · simp
  · intro i h1 h2
    simp at h1 h2 ⊢
    rw [Nat.mod_eq_of_lt h2]
    simp [h2]
theorem made_empty {α : Type} (d : Kd α) (e : Nat) (w : World) : d.R e (w.alloc (.cells #[] e)) w.heap.size (fun _ => True) (.slice (some ⟨w.heap.size, 0, none⟩) 0 0) [] :=
  ⟨fun _ _ => trivial, [], by first | exact World.ownsRow_made w #[] 0 (Nat.le_refl _) (Nat.zero_le _) (by simp) | simpa using World.ownsRow_made w #[] 0 (Nat.le_refl _) (Nat.zero_le _) (by simp), Reps.none _ _⟩
theorem clear_tail {P : Program} {α : Type} (d : Kd α) {W : World} (base : Nat) (t ty e : TypeId) (z : Value) (ht : P.underlying t = some (.slice e)) (hv : ∀ w, (zeroValue e).run P w = .ok z w) (hz : z.cells.size = d.sz) (h1 : ∀ u ∈ z.cells.toList, u.oneCell' = true)
    {g m c : Nat} {xs : List α} {ok : Nat → Prop} (HO : d.R e W base ok (.slice (some ⟨g, 0, none⟩) m c) xs) (hm : m < c) (c2 : Nat) {A : Addr} (hA : A = ⟨g, m * d.sz, none⟩) :
    ∃ w1, (Builtin.clear_ #[t] ty #[.slice (some A) 1 c2]).run P W = .ok (.tuple #[]) w1 ∧ d.R e w1 base ok (.slice (some ⟨g, 0, none⟩) m c) xs ∧ W.grownBy w1 (some g) := by
  obtain ⟨hn, hnc, _⟩ := Kd.R_reads' HO
  obtain ⟨hok, inner, hown, hr⟩ := HO
  subst hA
  rcases hown.2 with ⟨hv', _⟩ | ⟨g', cap', cur, hv', hb, hh, hle, hcm, hcs, htake⟩
  · cases hv'
  injection hv' with ha _ hc
  injection ha with ha
  injection ha with hg
  subst hg; subst hc
  have hsz : (m + 1) * d.sz ≤ c * d.sz := Nat.mul_le_mul_right _ hm
  rw [Nat.succ_mul] at hsz
  have hzl : z.cells.toList.length = d.sz := by simpa using hz
  have hrun := run_storeCells_cells (P := P) g (m * d.sz) z.cells.toList 0 W (fun j hj => by
      rw [cell_of_row W g _ cur e (0, 0) hh]; simp; omega) (fun j _ => blk_frozen hh _) h1
  simp only [Nat.add_zero] at hrun
  obtain ⟨cur', h3, h4, h5⟩ := setCells_row z.cells.toList (m * d.sz) W cur hh (by omega)
  obtain ⟨s1, s2, s3, s4⟩ := setCells_same g z.cells.toList (m * d.sz) W
  have hfar : ∀ k', k' ≠ g → (W.setCells g (m * d.sz) z.cells.toList).heap[k']? = W.heap[k']? := fun k' hk' => setCells_far _ _ k' hk'
  refine ⟨W.setCells g (m * d.sz) z.cells.toList, ?_, ⟨hok, inner, ⟨hown.1, .inr ⟨g, c, cur', by rw [hn], hb, h3, by omega, hcm, by rw [h4, hcs], ?_⟩⟩, ?_⟩, ⟨s1, s2, s3, by rw [s4]; exact Nat.le_refl _, fun k' _ hk' => hfar k' (fun he => hk' (by rw [he]))⟩⟩
  · have hzc := zeroCells_one z.cells
    simp [Builtin.clear_, run_underlying ht, hv, hzc, hrun]
  · have h6 : (cur.toList.take (m * d.sz)).length = m * d.sz := by
      rw [List.length_take, Array.length_toList, hcs]
      omega
    rw [← htake, ← hn, h5, List.take_append_of_le_length (by rw [List.length_append, h6]; omega), List.take_append_of_le_length (by omega), List.take_take, Nat.min_self]
  · exact hr.imp_ (fun p q hp => d.M_move (fun k' hk' => hfar k' (fun he => hk'.2 (by rw [he]; simp [Value.ownBlock]))) hp)
end Go.Proofs.YtablikjahajkkaaG
