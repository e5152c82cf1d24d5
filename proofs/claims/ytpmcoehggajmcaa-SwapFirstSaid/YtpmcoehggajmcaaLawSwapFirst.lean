/- The law SwapFirst: for every input the program's function returns true, and the input reads behind the call as it read before. No condition. -/
import Derived.Test.YtpmcoehggajmcaaRows
import Derived.Test.YtpmcoehggajmcaaPSwapFirstx7
import Derived.Test.YtpmcoehggajmcaaPureSwapFirst
import Derived.Test.YtpmcoehggajmcaaOpen
import Derived.WalkKit
import Derived.ProofKit
import Derived.OpenShut
import Derived.ShutString
import Derived.ChangeOld
import Derived.Below
import Derived.SizedLaws
import Derived.Test.YtpmcoehggajmcaaWSized
namespace Go.Proofs.Ytpmcoehggajmcaa.swapFirst
open Go.ChangeShapes Go.WideShapes Go.ChangeAt Go.RowKit Go.Proofs.YtpmcoehggajmcaaW.PrintWords Go.Proofs.YtpmcoehggajmcaaW.PrintLast Go.Proofs.YtpmcoehggajmcaaW.PrintMore Go.Proofs.Ytpmcoehggajmcaa.PSwapFirst
set_option linter.unusedVariables false
theorem own : ownKnob Try.prog.godebug = none := by kernel_rfl
theorem laidOut : laidOutB Try.prog = true := by kernel_rfl
theorem rd26 {H : Type} {enc : TypeId × Value → H} {w : World} {held : Bool} : Open.Rd enc Try.prog w held 26 k26 (fun x => ((Lit.int .i64 x.f0).wf = true) ∧ ((Lit.int .i64 x.f1).wf = true) ∧ ((Lit.int .i64 x.f2).wf = true) ∧ ((Lit.int .i64 x.f3).wf = true)) := by
  intro fuel cs x h
  obtain ⟨hl, n, hf⟩ := Open.cells Try.underlying26 (os := [(0, 1), (1, 1), (2, 1), (3, 1)]) (by kernel_rfl) h
  have hl : cs.length = 4 := hl.trans (by kernel_rfl)
  obtain ⟨c0, c1, c2, c3, rfl⟩ := Open.len4 hl
  obtain ⟨y0, hy0⟩ := hf 0 _ _ rfl rfl
  obtain ⟨z0, hz0, q0⟩ := (Open.Rd.int Try.underlying3) _ [c0] _ hy0
  obtain rfl := Open.num hz0
  obtain ⟨y1, hy1⟩ := hf 1 _ _ rfl rfl
  obtain ⟨z1, hz1, q1⟩ := (Open.Rd.int Try.underlying3) _ [c1] _ hy1
  obtain rfl := Open.num hz1
  obtain ⟨y2, hy2⟩ := hf 2 _ _ rfl rfl
  obtain ⟨z2, hz2, q2⟩ := (Open.Rd.int Try.underlying3) _ [c2] _ hy2
  obtain rfl := Open.num hz2
  obtain ⟨y3, hy3⟩ := hf 3 _ _ rfl rfl
  obtain ⟨z3, hz3, q3⟩ := (Open.Rd.int Try.underlying3) _ [c3] _ hy3
  obtain rfl := Open.num hz3
  exact ⟨⟨z0, z1, z2, z3⟩, k26_mk _ _, q0, q1, q2, q3⟩
set_option maxRecDepth 100000 in
theorem lifted (os : Os) (started : os.Started) (H : Type) (enc : TypeId × Value → H) :
    ReturnsInHanded {} Try.checked os 5 .any (Rows.swapFirstSpec.pre6 enc Try.prog Try.f5 Rows.swapFirstRow.domain false) (Rows.swapFirstSpec.post enc Try.prog Try.f5 false true false false) := by
  refine returnsInHanded_of_change_sized (C := Try.checked) own started (by kernel_rfl) Try.func5
    (ChangeSpec.witness6 (enc := enc) (C := Try.checked) false ⟨#[], #[.slice none 0 0, .agg #[.int .i64 0, .int .i64 0, .int .i64 0, .int .i64 0]], []⟩ 8 (by kernel_rfl) (by kernel_rfl) (by kernel_rfl) (by kernel_rfl)) ?_
  intro W base args ds gs before hval0 hW hcnd hsz0 _
  have hval : ∀ (j : Nat) t v, Try.f5.params[j]? = some t → args[j]? = some v → Value.okWide Try.prog W .any base t v := hval0
  have hW' := hW
  obtain ⟨p, q, hA0, hV, rfl, hfz, hnd⟩ := hW
  have hA : DataW.TrodAll enc Try.prog W 0 (fun _ => true) true Try.f5.params.toList args.toList ds p := hA0
  rw [Try.params5] at hA hval
  obtain ⟨v0, vs0, d0, ds0, p0, q0, hargs, rfl, rfl, h0, r0⟩ := trodAll_cons hA
  obtain ⟨v1, vs1, d1, ds1, p1, q1, rfl, rfl, rfl, h1, r1⟩ := trodAll_cons r0
  obtain ⟨rfl, rfl, rfl⟩ := trodAll_nil r1
  obtain rfl : args = #[v0, v1] := by cases args; simp_all
  obtain ⟨rfl, rfl⟩ := trodVars_none hV
  obtain ⟨b0, m0, o0, rfl⟩ := okWide_slice Try.underlying24 (hval 0 24 v0 rfl rfl)
  have k0 := h0
  have lt0 : ∀ x ∈ p0, x.block < W.heap.size := by obtain ⟨m, hm⟩ := k0; exact DataW.trod_lt m _ _ _ hm
  obtain ⟨fuel0, hf0⟩ := h0
  obtain ⟨z0, hz0, q0⟩ := (Open.Rd.slice 26 Try.underlying24 (by kernel_rfl) rd26) _ [.slice b0 m0 o0] _ hf0
  obtain ⟨A0, n0, e0, hc0, hC0⟩ := Open.row hz0
  injection e0 with e0_0 e0_1 e0_2
  subst e0_0 e0_1 e0_2
  obtain ⟨cs1, rfl, hz1⟩ := okWide_struct Try.underlying26 (hval 1 26 v1 rfl rfl)
  have k1 := h1
  have lt1 : ∀ x ∈ p1, x.block < W.heap.size := by obtain ⟨m, hm⟩ := k1; exact DataW.trod_lt m _ _ _ hm
  obtain ⟨fuel1, hf1⟩ := h1
  obtain ⟨hl1, n1, hf1⟩ := Open.cells Try.underlying26 (os := [(0, 1), (1, 1), (2, 1), (3, 1)]) (by kernel_rfl) hf1
  have hl1 : cs1.toList.length = 4 := hl1.trans (by kernel_rfl)
  obtain ⟨c1_0, c1_1, c1_2, c1_3, e1⟩ := Open.len4 hl1
  obtain rfl : cs1 = #[c1_0, c1_1, c1_2, c1_3] := Array.toList_inj.1 e1
  obtain ⟨y1_0, hy1_0⟩ := hf1 0 _ _ rfl rfl
  obtain ⟨z1_0, hz1_0, q1_0⟩ := (Open.Rd.int Try.underlying3) _ [c1_0] _ hy1_0
  obtain rfl := Open.num hz1_0
  obtain ⟨y1_1, hy1_1⟩ := hf1 1 _ _ rfl rfl
  obtain ⟨z1_1, hz1_1, q1_1⟩ := (Open.Rd.int Try.underlying3) _ [c1_1] _ hy1_1
  obtain rfl := Open.num hz1_1
  obtain ⟨y1_2, hy1_2⟩ := hf1 2 _ _ rfl rfl
  obtain ⟨z1_2, hz1_2, q1_2⟩ := (Open.Rd.int Try.underlying3) _ [c1_2] _ hy1_2
  obtain rfl := Open.num hz1_2
  obtain ⟨y1_3, hy1_3⟩ := hf1 3 _ _ rfl rfl
  obtain ⟨z1_3, hz1_3, q1_3⟩ := (Open.Rd.int Try.underlying3) _ [c1_3] _ hy1_3
  obtain rfl := Open.num hz1_3
  clear hA0 hval0 hsz0
  obtain ⟨k, h⟩ := Pure.SwapFirst z0 z1_0 z1_1 z1_2 z1_3 q0 q1_0 q1_1 q1_2 q1_3
  refine ((handshakerlaw21_SwapFirst.calls (k := k) (r := true) (w := W) (A0 := b0) (c0 := o0) (l0 := z0) (a1_0 := z1_0) (a1_1 := z1_1) (a1_2 := z1_2) (a1_3 := z1_3) (hr0 := hC0) (hc0 := hc0) (h := h)).mono fun e W' he => ?_)
  obtain ⟨rfl, bel⟩ := he
  exact ⟨_, rfl, _, _, _, [], _, [], hW', trodAll_mk1 (shut_bool Try.underlying4 _), (trodAll_cons_mk (Below.trod laidOut (by kernel_rfl) (of_decide_eq_true (by kernel_rfl)) k0 bel lt0) (trodAll_cons_mk (Below.trod laidOut (by kernel_rfl) (of_decide_eq_true (by kernel_rfl)) k1 bel lt1) trodAll_mk0)), rfl, bel.frame _, fun h => by cases h⟩
theorem over : Rows.swapFirstRow.holds Try.pinned (OpenSpec.ofChange Rows.swapFirstSpec) :=
  OpenClaim.holds_of_wide 5 Try.f5 rfl rfl rfl rfl rfl rfl rfl ⟨rfl, rfl, rfl, rfl, rfl⟩ rfl rfl rfl rfl rfl (by kernel_rfl) Try.func5 (by kernel_rfl)
    (of_decide_eq_true (by kernel_rfl)) (by unfold Func.isWrapper; first | (rw [if_pos (by decide +kernel)]; kernel_rfl) | (rw [if_neg (by decide +kernel)]; exact ⟨rfl, rfl⟩))
    (fun os started H enc _ => lifted os started H enc)
theorem proved : Rows.SwapFirstSaid := over
end Go.Proofs.Ytpmcoehggajmcaa.swapFirst
namespace Go.Proofs.Ytpmcoehggajmcaa
/-- The row, under a short name, for the claim. -/
theorem swapFirst_holds : Rows.SwapFirstSaid := swapFirst.proved
end Go.Proofs.Ytpmcoehggajmcaa
