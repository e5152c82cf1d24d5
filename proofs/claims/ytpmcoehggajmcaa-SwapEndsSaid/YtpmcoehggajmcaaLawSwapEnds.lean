/- The law SwapEnds: for every input the program's function returns true, and the input reads behind the call as it read before. No condition. -/
import Derived.Test.YtpmcoehggajmcaaRows
import Derived.Test.YtpmcoehggajmcaaPSwapEndsx5
import Derived.Test.YtpmcoehggajmcaaPureSwapEnds
import Derived.Test.YtpmcoehggajmcaaOpen
import Derived.WalkKit
import Derived.ProofKit
import Derived.OpenShut
import Derived.ShutString
import Derived.ChangeOld
import Derived.Below
import Derived.SizedLaws
import Derived.Test.YtpmcoehggajmcaaWSized
namespace Go.Proofs.Ytpmcoehggajmcaa.swapEnds
open Go.ChangeShapes Go.WideShapes Go.ChangeAt Go.RowKit Go.Proofs.YtpmcoehggajmcaaW.PrintWords Go.Proofs.YtpmcoehggajmcaaW.PrintLast Go.Proofs.YtpmcoehggajmcaaW.PrintMore Go.Proofs.Ytpmcoehggajmcaa.PSwapEnds
set_option linter.unusedVariables false
theorem own : ownKnob Try.prog.godebug = none := by kernel_rfl
theorem laidOut : laidOutB Try.prog = true := by kernel_rfl
theorem rd26 {H : Type} {enc : TypeId × Value → H} {w : World} {held : Bool} : Open.Rd enc Try.prog w held 26 k26 (fun x => ((Lit.int .i64 x.f0).wf = true) ∧ ((Lit.int .i64 x.f1).wf = true) ∧ ((Lit.int .i64 x.f2).wf = true) ∧ ((Lit.int .i64 x.f3).wf = true)) := by
  intro fuel cs x h
  obtain ⟨hl, n, hf⟩ := Open.cells Try.underlying26 (os := [(0, 1), (1, 1), (2, 1), (3, 1)]) (by kernel_rfl) h
  have hl : cs.length = 4 := hl.trans (by kernel_rfl)
  obtain ⟨c0, c1, c2, c3, rfl⟩ := Open.len4 hl
  obtain ⟨y0, hy0⟩ := hf 0 _ _ rfl rfl
  obtain ⟨z0, hz0, q0⟩ := (Open.Rd.int Try.underlying3) _ [c0] _ hy0
  obtain rfl := Open.num hz0
  obtain ⟨y1, hy1⟩ := hf 1 _ _ rfl rfl
  obtain ⟨z1, hz1, q1⟩ := (Open.Rd.int Try.underlying3) _ [c1] _ hy1
  obtain rfl := Open.num hz1
  obtain ⟨y2, hy2⟩ := hf 2 _ _ rfl rfl
  obtain ⟨z2, hz2, q2⟩ := (Open.Rd.int Try.underlying3) _ [c2] _ hy2
  obtain rfl := Open.num hz2
  obtain ⟨y3, hy3⟩ := hf 3 _ _ rfl rfl
  obtain ⟨z3, hz3, q3⟩ := (Open.Rd.int Try.underlying3) _ [c3] _ hy3
  obtain rfl := Open.num hz3
  exact ⟨⟨z0, z1, z2, z3⟩, k26_mk _ _, q0, q1, q2, q3⟩
theorem rd28 {H : Type} {enc : TypeId × Value → H} {w : World} {held : Bool} : Open.Rd enc Try.prog w held 28 k28 (fun x => (((Lit.int .i64 x.f0.f0).wf = true) ∧ ((Lit.int .i64 x.f0.f1).wf = true) ∧ ((Lit.int .i64 x.f0.f2).wf = true) ∧ ((Lit.int .i64 x.f0.f3).wf = true)) ∧ (True) ∧ (True)) := by
  intro fuel cs x h
  obtain ⟨hl, n, hf⟩ := Open.cells Try.underlying28 (os := [(0, 4), (4, 1), (5, 1)]) (by kernel_rfl) h
  have hl : cs.length = 6 := hl.trans (by kernel_rfl)
  obtain ⟨c0, c1, c2, c3, c4, c5, rfl⟩ := Open.len6 hl
  obtain ⟨y0, hy0⟩ := hf 0 _ _ rfl rfl
  obtain ⟨z0, hz0, q0⟩ := rd26 _ [c0, c1, c2, c3] _ hy0
  have e0 := k26_open hz0
  simp only [List.cons.injEq, and_true] at e0
  obtain ⟨rfl, rfl, rfl, rfl⟩ := e0
  obtain ⟨y1, hy1⟩ := hf 1 _ _ rfl rfl
  obtain ⟨z1, hz1, q1⟩ := (Open.Rd.bool Try.underlying4) _ [c4] _ hy1
  obtain rfl := Open.truth hz1
  obtain ⟨y2, hy2⟩ := hf 2 _ _ rfl rfl
  obtain ⟨z2, hz2, q2⟩ := (Open.Rd.bool Try.underlying4) _ [c5] _ hy2
  obtain rfl := Open.truth hz2
  exact ⟨⟨z0, z1, z2⟩, k28_mk _ _, q0, q1, q2⟩
set_option maxRecDepth 100000 in
theorem lifted (os : Os) (started : os.Started) (H : Type) (enc : TypeId × Value → H) :
    ReturnsInHanded {} Try.checked os 3 .any (Rows.swapEndsSpec.pre6 enc Try.prog Try.f3 Rows.swapEndsRow.domain false) (Rows.swapEndsSpec.post enc Try.prog Try.f3 false true false false) := by
  refine returnsInHanded_of_change_sized (C := Try.checked) own started (by kernel_rfl) Try.func3
    (ChangeSpec.witness6 (enc := enc) (C := Try.checked) false ⟨#[], #[.slice none 0 0], []⟩ 8 (by kernel_rfl) (by kernel_rfl) (by kernel_rfl) (by kernel_rfl)) ?_
  intro W base args ds gs before hval0 hW hcnd hsz0 _
  have hval : ∀ (j : Nat) t v, Try.f3.params[j]? = some t → args[j]? = some v → Value.okWide Try.prog W .any base t v := hval0
  have hW' := hW
  obtain ⟨p, q, hA0, hV, rfl, hfz, hnd⟩ := hW
  have hA : DataW.TrodAll enc Try.prog W 0 (fun _ => true) true Try.f3.params.toList args.toList ds p := hA0
  rw [Try.params3] at hA hval
  obtain ⟨v0, vs0, d0, ds0, p0, q0, hargs, rfl, rfl, h0, r0⟩ := trodAll_cons hA
  obtain ⟨rfl, rfl, rfl⟩ := trodAll_nil r0
  obtain rfl : args = #[v0] := by cases args; simp_all
  obtain ⟨rfl, rfl⟩ := trodVars_none hV
  obtain ⟨b0, m0, o0, rfl⟩ := okWide_slice Try.underlying22 (hval 0 22 v0 rfl rfl)
  have k0 := h0
  have lt0 : ∀ x ∈ p0, x.block < W.heap.size := by obtain ⟨m, hm⟩ := k0; exact DataW.trod_lt m _ _ _ hm
  obtain ⟨fuel0, hf0⟩ := h0
  obtain ⟨z0, hz0, q0⟩ := (Open.Rd.slice 28 Try.underlying22 (by kernel_rfl) rd28) _ [.slice b0 m0 o0] _ hf0
  obtain ⟨A0, n0, e0, hc0, hC0⟩ := Open.row hz0
  injection e0 with e0_0 e0_1 e0_2
  subst e0_0 e0_1 e0_2
  clear hA0 hval0 hsz0
  obtain ⟨k, h⟩ := Pure.SwapEnds z0 q0
  refine ((handshakerlaw21_SwapEnds.calls (k := k) (r := true) (w := W) (A0 := b0) (c0 := o0) (l0 := z0) (hr0 := hC0) (hc0 := hc0) (h := h)).mono fun e W' he => ?_)
  obtain ⟨rfl, bel⟩ := he
  exact ⟨_, rfl, _, _, _, [], _, [], hW', trodAll_mk1 (shut_bool Try.underlying4 _), (trodAll_cons_mk (Below.trod laidOut (by kernel_rfl) (of_decide_eq_true (by kernel_rfl)) k0 bel lt0) trodAll_mk0), rfl, bel.frame _, fun h => by cases h⟩
theorem over : Rows.swapEndsRow.holds Try.pinned (OpenSpec.ofChange Rows.swapEndsSpec) :=
  OpenClaim.holds_of_wide 3 Try.f3 rfl rfl rfl rfl rfl rfl rfl ⟨rfl, rfl, rfl, rfl, rfl⟩ rfl rfl rfl rfl rfl (by kernel_rfl) Try.func3 (by kernel_rfl)
    (of_decide_eq_true (by kernel_rfl)) (by unfold Func.isWrapper; first | (rw [if_pos (by decide +kernel)]; kernel_rfl) | (rw [if_neg (by decide +kernel)]; exact ⟨rfl, rfl⟩))
    (fun os started H enc _ => lifted os started H enc)
theorem proved : Rows.SwapEndsSaid := over
end Go.Proofs.Ytpmcoehggajmcaa.swapEnds
namespace Go.Proofs.Ytpmcoehggajmcaa
/-- The row, under a short name, for the claim. -/
theorem swapEnds_holds : Rows.SwapEndsSaid := swapEnds.proved
end Go.Proofs.Ytpmcoehggajmcaa
