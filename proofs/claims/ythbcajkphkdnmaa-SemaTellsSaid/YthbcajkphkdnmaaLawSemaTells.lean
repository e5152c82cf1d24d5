/- The law SemaTells: for every input the program's function returns true, and the input reads behind the call as it read before. No condition. -/
import Derived.Test.YthbcajkphkdnmaaRows
import Derived.Test.YthbcajkphkdnmaaPSemaTellsx15
import Derived.Test.YthbcajkphkdnmaaPureSemaTells
import Derived.Test.YthbcajkphkdnmaaOpen
import Derived.WalkKit
import Derived.ProofKit
import Derived.OpenShut
import Derived.ShutString
import Derived.ChangeOld
import Derived.Below
import Derived.SizedLaws
import Derived.Test.YthbcajkphkdnmaaWSized
namespace Go.Proofs.Ythbcajkphkdnmaa.semaTells
open Go.ChangeShapes Go.WideShapes Go.ChangeAt Go.RowKit Go.Proofs.YthbcajkphkdnmaaW.PrintWords Go.Proofs.YthbcajkphkdnmaaW.PrintLast Go.Proofs.YthbcajkphkdnmaaW.PrintMore Go.Proofs.Ythbcajkphkdnmaa.PSemaTells
set_option linter.unusedVariables false
theorem own : ownKnob Try.prog.godebug = none := by kernel_rfl
theorem laidOut : laidOutB Try.prog = true := by kernel_rfl
theorem rd50 {H : Type} {enc : TypeId × Value → H} {w : World} {held : Bool} : Open.Rd enc Try.prog w held 50 k50 (fun x => ((Lit.int .i64 x.f0).wf = true) ∧ ((Lit.int .i64 x.f1).wf = true)) := by
  intro fuel cs x h
  obtain ⟨hl, n, hf⟩ := Open.cells Try.underlying50 (os := [(0, 1), (1, 1)]) (by kernel_rfl) h
  have hl : cs.length = 2 := hl.trans (by kernel_rfl)
  obtain ⟨c0, c1, rfl⟩ := Open.len2 hl
  obtain ⟨y0, hy0⟩ := hf 0 _ _ rfl rfl
  obtain ⟨z0, hz0, q0⟩ := (Open.Rd.int Try.underlying3) _ [c0] _ hy0
  obtain rfl := Open.num hz0
  obtain ⟨y1, hy1⟩ := hf 1 _ _ rfl rfl
  obtain ⟨z1, hz1, q1⟩ := (Open.Rd.int Try.underlying3) _ [c1] _ hy1
  obtain rfl := Open.num hz1
  exact ⟨⟨z0, z1⟩, k50_mk _ _, q0, q1⟩
set_option maxRecDepth 100000 in
theorem lifted (os : Os) (started : os.Started) (H : Type) (enc : TypeId × Value → H) :
    ReturnsInHanded {} Try.checked os 3 .any (Rows.semaTellsSpec.pre6 enc Try.prog Try.f3 Rows.semaTellsRow.domain false) (Rows.semaTellsSpec.post enc Try.prog Try.f3 false true false false) := by
  refine returnsInHanded_of_change_sized (C := Try.checked) own started (by kernel_rfl) Try.func3
    (ChangeSpec.witness6 (enc := enc) (C := Try.checked) false ⟨#[], #[.agg #[.int .i64 0, .int .i64 0, .slice none 0 0], .int .i64 0, .int .i64 0], []⟩ 8 (by kernel_rfl) (by kernel_rfl) (by kernel_rfl) (by kernel_rfl)) ?_
  intro W base args ds gs before hval0 hW hcnd hsz0 _
  have hval : ∀ (j : Nat) t v, Try.f3.params[j]? = some t → args[j]? = some v → Value.okWide Try.prog W .any base t v := hval0
  have hW' := hW
  obtain ⟨p, q, hA0, hV, rfl, hfz, hnd⟩ := hW
  have hA : DataW.TrodAll enc Try.prog W 0 (fun _ => true) true Try.f3.params.toList args.toList ds p := hA0
  rw [Try.params3] at hA hval
  obtain ⟨v0, vs0, d0, ds0, p0, q0, hargs, rfl, rfl, h0, r0⟩ := trodAll_cons hA
  obtain ⟨v1, vs1, d1, ds1, p1, q1, rfl, rfl, rfl, h1, r1⟩ := trodAll_cons r0
  obtain ⟨v2, vs2, d2, ds2, p2, q2, rfl, rfl, rfl, h2, r2⟩ := trodAll_cons r1
  obtain ⟨rfl, rfl, rfl⟩ := trodAll_nil r2
  obtain rfl : args = #[v0, v1, v2] := by cases args; simp_all
  obtain ⟨rfl, rfl⟩ := trodVars_none hV
  obtain ⟨cs0, rfl, hz0⟩ := okWide_struct Try.underlying24 (hval 0 24 v0 rfl rfl)
  have k0 := h0
  have lt0 : ∀ x ∈ p0, x.block < W.heap.size := by obtain ⟨m, hm⟩ := k0; exact DataW.trod_lt m _ _ _ hm
  obtain ⟨fuel0, hf0⟩ := h0
  obtain ⟨hl0, n0, hf0⟩ := Open.cells Try.underlying24 (os := [(0, 1), (1, 1), (2, 1)]) (by kernel_rfl) hf0
  have hl0 : cs0.toList.length = 3 := hl0.trans (by kernel_rfl)
  obtain ⟨c0_0, c0_1, c0_2, e0⟩ := Open.len3 hl0
  obtain rfl : cs0 = #[c0_0, c0_1, c0_2] := Array.toList_inj.1 e0
  obtain ⟨y0_0, hy0_0⟩ := hf0 0 _ _ rfl rfl
  obtain ⟨z0_0, hz0_0, q0_0⟩ := (Open.Rd.int Try.underlying3) _ [c0_0] _ hy0_0
  obtain rfl := Open.num hz0_0
  obtain ⟨y0_1, hy0_1⟩ := hf0 1 _ _ rfl rfl
  obtain ⟨z0_1, hz0_1, q0_1⟩ := (Open.Rd.int Try.underlying3) _ [c0_1] _ hy0_1
  obtain rfl := Open.num hz0_1
  obtain ⟨y0_2, hy0_2⟩ := hf0 2 _ _ rfl rfl
  obtain ⟨z0_2, hz0_2, q0_2⟩ := (Open.Rd.slice 50 Try.underlying22 (by kernel_rfl) rd50) _ [c0_2] _ hy0_2
  obtain ⟨A0_2, n0_2, rfl, hc0_2, hC0_2⟩ := Open.row hz0_2
  obtain ⟨z1, rfl, rfl, rfl, q1⟩ := open_int Try.underlying3 (hval 1 3 v1 rfl rfl) h1
  obtain ⟨z2, rfl, rfl, rfl, q2⟩ := open_int Try.underlying3 (hval 2 3 v2 rfl rfl) h2
  clear hA0 hval0 hsz0
  obtain ⟨k, h⟩ := Pure.SemaTells z0_0 z0_1 z0_2 z1 z2 q0_0 q0_1 q0_2 q1 q2
  refine ((handshakerlaw18_SemaTells.calls (k := k) (r := true) (w := W) (a0_0 := z0_0) (a0_1 := z0_1) (A0_2 := A0_2) (c0_2 := n0_2) (l0_2 := z0_2) (a1 := z1) (a2 := z2) (hr0_2 := hC0_2) (hc0_2 := hc0_2) (h := h)).mono fun e W' he => ?_)
  obtain ⟨rfl, bel⟩ := he
  exact ⟨_, rfl, _, _, _, [], _, [], hW', trodAll_mk1 (shut_bool Try.underlying4 _), (trodAll_cons_mk (Below.trod laidOut (by kernel_rfl) (of_decide_eq_true (by kernel_rfl)) k0 bel lt0) (trodAll_cons_mk (shut_int Try.underlying3 q1) (trodAll_cons_mk (shut_int Try.underlying3 q2) trodAll_mk0))), rfl, bel.frame _, fun h => by cases h⟩
theorem over : Rows.semaTellsRow.holds Try.pinned (OpenSpec.ofChange Rows.semaTellsSpec) :=
  OpenClaim.holds_of_wide 3 Try.f3 rfl rfl rfl rfl rfl rfl rfl ⟨rfl, rfl, rfl, rfl, rfl⟩ rfl rfl rfl rfl rfl (by kernel_rfl) Try.func3 (by kernel_rfl)
    (of_decide_eq_true (by kernel_rfl)) (by unfold Func.isWrapper; first | (rw [if_pos (by decide +kernel)]; kernel_rfl) | (rw [if_neg (by decide +kernel)]; exact ⟨rfl, rfl⟩))
    (fun os started H enc _ => lifted os started H enc)
theorem proved : Rows.SemaTellsSaid := over
end Go.Proofs.Ythbcajkphkdnmaa.semaTells
namespace Go.Proofs.Ythbcajkphkdnmaa
/-- The row, under a short name, for the claim. -/
theorem semaTells_holds : Rows.SemaTellsSaid := semaTells.proved
end Go.Proofs.Ythbcajkphkdnmaa
