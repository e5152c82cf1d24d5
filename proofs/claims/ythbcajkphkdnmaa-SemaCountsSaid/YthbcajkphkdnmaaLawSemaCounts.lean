/- The law SemaCounts: for every input the program's function returns true, and the input reads behind the call as it read before. No condition. -/
import Derived.Test.YthbcajkphkdnmaaRows
import Derived.Test.YthbcajkphkdnmaaPSemaCountsx9
import Derived.Test.YthbcajkphkdnmaaPureSemaCounts
import Derived.Test.YthbcajkphkdnmaaOpen
import Derived.WalkKit
import Derived.ProofKit
import Derived.OpenShut
import Derived.ShutString
import Derived.ChangeOld
import Derived.Below
import Derived.SizedLaws
import Derived.Test.YthbcajkphkdnmaaWSized
namespace Go.Proofs.Ythbcajkphkdnmaa.semaCounts
open Go.ChangeShapes Go.WideShapes Go.ChangeAt Go.RowKit Go.Proofs.YthbcajkphkdnmaaW.PrintWords Go.Proofs.YthbcajkphkdnmaaW.PrintLast Go.Proofs.YthbcajkphkdnmaaW.PrintMore Go.Proofs.Ythbcajkphkdnmaa.PSemaCounts
set_option linter.unusedVariables false
theorem own : ownKnob Try.prog.godebug = none := by kernel_rfl
theorem laidOut : laidOutB Try.prog = true := by kernel_rfl
theorem rd49 {H : Type} {enc : TypeId × Value → H} {w : World} {held : Bool} : Open.Rd enc Try.prog w held 49 k49 (fun x => ((Lit.int .i64 x.f0).wf = true) ∧ ((Lit.int .i64 x.f1).wf = true)) := by
  intro fuel cs x h
  obtain ⟨hl, n, hf⟩ := Open.cells Try.underlying49 (os := [(0, 1), (1, 1)]) (by kernel_rfl) h
  have hl : cs.length = 2 := hl.trans (by kernel_rfl)
  obtain ⟨c0, c1, rfl⟩ := Open.len2 hl
  obtain ⟨y0, hy0⟩ := hf 0 _ _ rfl rfl
  obtain ⟨z0, hz0, q0⟩ := (Open.Rd.int Try.underlying3) _ [c0] _ hy0
  obtain rfl := Open.num hz0
  obtain ⟨y1, hy1⟩ := hf 1 _ _ rfl rfl
  obtain ⟨z1, hz1, q1⟩ := (Open.Rd.int Try.underlying3) _ [c1] _ hy1
  obtain rfl := Open.num hz1
  exact ⟨⟨z0, z1⟩, k49_mk _ _, q0, q1⟩
set_option maxRecDepth 100000 in
theorem lifted (os : Os) (started : os.Started) (H : Type) (enc : TypeId × Value → H) :
    ReturnsInHanded {} Try.checked os 4 .any (Rows.semaCountsSpec.pre6 enc Try.prog Try.f4 Rows.semaCountsRow.domain false) (Rows.semaCountsSpec.post enc Try.prog Try.f4 false true false false) := by
  refine returnsInHanded_of_change_sized (C := Try.checked) own started (by kernel_rfl) Try.func4
    (ChangeSpec.witness6 (enc := enc) (C := Try.checked) false ⟨#[], #[.int .u8 0, .slice none 0 0], []⟩ 8 (by kernel_rfl) (by kernel_rfl) (by kernel_rfl) (by kernel_rfl)) ?_
  intro W base args ds gs before hval0 hW hcnd hsz0 _
  have hval : ∀ (j : Nat) t v, Try.f4.params[j]? = some t → args[j]? = some v → Value.okWide Try.prog W .any base t v := hval0
  have hW' := hW
  obtain ⟨p, q, hA0, hV, rfl, hfz, hnd⟩ := hW
  have hA : DataW.TrodAll enc Try.prog W 0 (fun _ => true) true Try.f4.params.toList args.toList ds p := hA0
  rw [Try.params4] at hA hval
  obtain ⟨v0, vs0, d0, ds0, p0, q0, hargs, rfl, rfl, h0, r0⟩ := trodAll_cons hA
  obtain ⟨v1, vs1, d1, ds1, p1, q1, rfl, rfl, rfl, h1, r1⟩ := trodAll_cons r0
  obtain ⟨rfl, rfl, rfl⟩ := trodAll_nil r1
  obtain rfl : args = #[v0, v1] := by cases args; simp_all
  obtain ⟨rfl, rfl⟩ := trodVars_none hV
  obtain ⟨z0, rfl, rfl, rfl, q0⟩ := open_int Try.underlying5 (hval 0 5 v0 rfl rfl) h0
  obtain ⟨b1, m1, o1, rfl⟩ := okWide_slice Try.underlying47 (hval 1 47 v1 rfl rfl)
  have k1 := h1
  have lt1 : ∀ x ∈ p1, x.block < W.heap.size := by obtain ⟨m, hm⟩ := k1; exact DataW.trod_lt m _ _ _ hm
  obtain ⟨fuel1, hf1⟩ := h1
  obtain ⟨z1, hz1, q1⟩ := (Open.Rd.slice 49 Try.underlying47 (by kernel_rfl) rd49) _ [.slice b1 m1 o1] _ hf1
  obtain ⟨A1, n1, e1, hc1, hC1⟩ := Open.row hz1
  injection e1 with e1_0 e1_1 e1_2
  subst e1_0 e1_1 e1_2
  clear hA0 hval0 hsz0
  obtain ⟨k, h⟩ := Pure.SemaCounts z0 z1 q0 q1
  refine ((handshakerlaw18_SemaCounts.calls (k := k) (r := true) (w := W) (a0 := z0) (A1 := b1) (c1 := o1) (l1 := z1) (hr1 := hC1) (hc1 := hc1) (h := h)).mono fun e W' he => ?_)
  obtain ⟨rfl, bel⟩ := he
  exact ⟨_, rfl, _, _, _, [], _, [], hW', trodAll_mk1 (shut_bool Try.underlying4 _), (trodAll_cons_mk (shut_int Try.underlying5 q0) (trodAll_cons_mk (Below.trod laidOut (by kernel_rfl) (of_decide_eq_true (by kernel_rfl)) k1 bel lt1) trodAll_mk0)), rfl, bel.frame _, fun h => by cases h⟩
theorem over : Rows.semaCountsRow.holds Try.pinned (OpenSpec.ofChange Rows.semaCountsSpec) :=
  OpenClaim.holds_of_wide 4 Try.f4 rfl rfl rfl rfl rfl rfl rfl ⟨rfl, rfl, rfl, rfl, rfl⟩ rfl rfl rfl rfl rfl (by kernel_rfl) Try.func4 (by kernel_rfl)
    (of_decide_eq_true (by kernel_rfl)) (by unfold Func.isWrapper; first | (rw [if_pos (by decide +kernel)]; kernel_rfl) | (rw [if_neg (by decide +kernel)]; exact ⟨rfl, rfl⟩))
    (fun os started H enc _ => lifted os started H enc)
theorem proved : Rows.SemaCountsSaid := over
end Go.Proofs.Ythbcajkphkdnmaa.semaCounts
namespace Go.Proofs.Ythbcajkphkdnmaa
/-- The row, under a short name, for the claim. -/
theorem semaCounts_holds : Rows.SemaCountsSaid := semaCounts.proved
end Go.Proofs.Ythbcajkphkdnmaa
