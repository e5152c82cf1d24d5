/- The law CondTells: for every input the program's function returns true, and the input reads behind the call as it read before. No condition. -/
import Derived.Test.YtllmfahkiabkcaaRows
import Derived.Test.YtllmfahkiabkcaaPCondTellsx10
import Derived.Test.YtllmfahkiabkcaaPureCondTells
import Derived.Test.YtllmfahkiabkcaaOpen
import Derived.WalkKit
import Derived.ProofKit
import Derived.OpenShut
import Derived.ShutString
import Derived.ChangeOld
import Derived.Below
import Derived.SizedLaws
import Derived.Test.YtllmfahkiabkcaaWSized
namespace Go.Proofs.Ytllmfahkiabkcaa.condTells
open Go.ChangeShapes Go.WideShapes Go.ChangeAt Go.RowKit Go.Proofs.YtllmfahkiabkcaaW.PrintWords Go.Proofs.YtllmfahkiabkcaaW.PrintLast Go.Proofs.YtllmfahkiabkcaaW.PrintMore Go.Proofs.Ytllmfahkiabkcaa.PCondTells
set_option linter.unusedVariables false
theorem own : ownKnob Try.prog.godebug = none := by kernel_rfl
theorem laidOut : laidOutB Try.prog = true := by kernel_rfl
set_option maxRecDepth 100000 in
theorem lifted (os : Os) (started : os.Started) (H : Type) (enc : TypeId × Value → H) :
    ReturnsInHanded {} Try.checked os 3 .any (Rows.condTellsSpec.pre6 enc Try.prog Try.f3 Rows.condTellsRow.domain false) (Rows.condTellsSpec.post enc Try.prog Try.f3 false true false false) := by
  refine returnsInHanded_of_change_sized (C := Try.checked) own started (by kernel_rfl) Try.func3
    (ChangeSpec.witness6 (enc := enc) (C := Try.checked) false ⟨#[], #[.agg #[.slice none 0 0, .slice none 0 0], .int .i64 0, .int .i64 0], []⟩ 8 (by kernel_rfl) (by kernel_rfl) (by kernel_rfl) (by kernel_rfl)) ?_
  intro W base args ds gs before hval0 hW hcnd hsz0 _
  have hval : ∀ (j : Nat) t v, Try.f3.params[j]? = some t → args[j]? = some v → Value.okWide Try.prog W .any base t v := hval0
  have hW' := hW
  obtain ⟨p, q, hA0, hV, rfl, hfz, hnd⟩ := hW
  have hA : DataW.TrodAll enc Try.prog W 0 (fun _ => true) true Try.f3.params.toList args.toList ds p := hA0
  rw [Try.params3] at hA hval
  obtain ⟨v0, vs0, d0, ds0, p0, q0, hargs, rfl, rfl, h0, r0⟩ := trodAll_cons hA
  obtain ⟨v1, vs1, d1, ds1, p1, q1, rfl, rfl, rfl, h1, r1⟩ := trodAll_cons r0
  obtain ⟨v2, vs2, d2, ds2, p2, q2, rfl, rfl, rfl, h2, r2⟩ := trodAll_cons r1
  obtain ⟨rfl, rfl, rfl⟩ := trodAll_nil r2
  obtain rfl : args = #[v0, v1, v2] := by cases args; simp_all
  obtain ⟨rfl, rfl⟩ := trodVars_none hV
  obtain ⟨cs0, rfl, hz0⟩ := okWide_struct Try.underlying24 (hval 0 24 v0 rfl rfl)
  have k0 := h0
  have lt0 : ∀ x ∈ p0, x.block < W.heap.size := by obtain ⟨m, hm⟩ := k0; exact DataW.trod_lt m _ _ _ hm
  obtain ⟨fuel0, hf0⟩ := h0
  obtain ⟨hl0, n0, hf0⟩ := Open.cells Try.underlying24 (os := [(0, 1), (1, 1)]) (by kernel_rfl) hf0
  have hl0 : cs0.toList.length = 2 := hl0.trans (by kernel_rfl)
  obtain ⟨c0_0, c0_1, e0⟩ := Open.len2 hl0
  obtain rfl : cs0 = #[c0_0, c0_1] := Array.toList_inj.1 e0
  obtain ⟨y0_0, hy0_0⟩ := hf0 0 _ _ rfl rfl
  obtain ⟨z0_0, hz0_0, q0_0⟩ := (Open.Rd.slice 3 Try.underlying22 (by kernel_rfl) (Open.Rd.int Try.underlying3)) _ [c0_0] _ hy0_0
  obtain ⟨A0_0, n0_0, rfl, hc0_0, hC0_0⟩ := Open.row hz0_0
  obtain ⟨y0_1, hy0_1⟩ := hf0 1 _ _ rfl rfl
  obtain ⟨z0_1, hz0_1, q0_1⟩ := (Open.Rd.slice 3 Try.underlying22 (by kernel_rfl) (Open.Rd.int Try.underlying3)) _ [c0_1] _ hy0_1
  obtain ⟨A0_1, n0_1, rfl, hc0_1, hC0_1⟩ := Open.row hz0_1
  obtain ⟨z1, rfl, rfl, rfl, q1⟩ := open_int Try.underlying3 (hval 1 3 v1 rfl rfl) h1
  obtain ⟨z2, rfl, rfl, rfl, q2⟩ := open_int Try.underlying3 (hval 2 3 v2 rfl rfl) h2
  clear hA0 hval0 hsz0
  obtain ⟨k, h⟩ := Pure.CondTells z0_0 z0_1 z1 z2 q0_0 q0_1 q1 q2
  refine ((handshakerlaw20_CondTells.calls (k := k) (r := true) (w := W) (A0_0 := A0_0) (c0_0 := n0_0) (l0_0 := z0_0) (A0_1 := A0_1) (c0_1 := n0_1) (l0_1 := z0_1) (a1 := z1) (a2 := z2) (hr0_0 := hC0_0) (hc0_0 := hc0_0) (hr0_1 := hC0_1) (hc0_1 := hc0_1) (h := h)).mono fun e W' he => ?_)
  obtain ⟨rfl, bel⟩ := he
  exact ⟨_, rfl, _, _, _, [], _, [], hW', trodAll_mk1 (shut_bool Try.underlying4 _), (trodAll_cons_mk (Below.trod laidOut (by kernel_rfl) (of_decide_eq_true (by kernel_rfl)) k0 bel lt0) (trodAll_cons_mk (shut_int Try.underlying3 q1) (trodAll_cons_mk (shut_int Try.underlying3 q2) trodAll_mk0))), rfl, bel.frame _, fun h => by cases h⟩
theorem over : Rows.condTellsRow.holds Try.pinned (OpenSpec.ofChange Rows.condTellsSpec) :=
  OpenClaim.holds_of_wide 3 Try.f3 rfl rfl rfl rfl rfl rfl rfl ⟨rfl, rfl, rfl, rfl, rfl⟩ rfl rfl rfl rfl rfl (by kernel_rfl) Try.func3 (by kernel_rfl)
    (of_decide_eq_true (by kernel_rfl)) (by unfold Func.isWrapper; first | (rw [if_pos (by decide +kernel)]; kernel_rfl) | (rw [if_neg (by decide +kernel)]; exact ⟨rfl, rfl⟩))
    (fun os started H enc _ => lifted os started H enc)
theorem proved : Rows.CondTellsSaid := over
end Go.Proofs.Ytllmfahkiabkcaa.condTells
namespace Go.Proofs.Ytllmfahkiabkcaa
/-- The row, under a short name, for the claim. -/
theorem condTells_holds : Rows.CondTellsSaid := condTells.proved
end Go.Proofs.Ytllmfahkiabkcaa
