/- The law CondKeeps: for every input the program's function returns true, and the input reads behind the call as it read before. No condition. -/
import Derived.Test.YtllmfahkiabkcaaRows
import Derived.Test.YtllmfahkiabkcaaPCondKeepsx5
import Derived.Test.YtllmfahkiabkcaaPureCondKeeps
import Derived.Test.YtllmfahkiabkcaaOpen
import Derived.WalkKit
import Derived.ProofKit
import Derived.OpenShut
import Derived.ShutString
import Derived.ChangeOld
import Derived.Below
import Derived.SizedLaws
import Derived.Test.YtllmfahkiabkcaaWSized
namespace Go.Proofs.Ytllmfahkiabkcaa.condKeeps
open Go.ChangeShapes Go.WideShapes Go.ChangeAt Go.RowKit Go.Proofs.YtllmfahkiabkcaaW.PrintWords Go.Proofs.YtllmfahkiabkcaaW.PrintLast Go.Proofs.YtllmfahkiabkcaaW.PrintMore Go.Proofs.Ytllmfahkiabkcaa.PCondKeeps
set_option linter.unusedVariables false
theorem own : ownKnob Try.prog.godebug = none := by kernel_rfl
theorem laidOut : laidOutB Try.prog = true := by kernel_rfl
theorem rd48 {H : Type} {enc : TypeId × Value → H} {w : World} {held : Bool} : Open.Rd enc Try.prog w held 48 k48 (fun x => ((Lit.int .u8 x.f0).wf = true) ∧ ((Lit.int .u8 x.f1).wf = true)) := by
  intro fuel cs x h
  obtain ⟨hl, n, hf⟩ := Open.cells Try.underlying48 (os := [(0, 1), (1, 1)]) (by kernel_rfl) h
  have hl : cs.length = 2 := hl.trans (by kernel_rfl)
  obtain ⟨c0, c1, rfl⟩ := Open.len2 hl
  obtain ⟨y0, hy0⟩ := hf 0 _ _ rfl rfl
  obtain ⟨z0, hz0, q0⟩ := (Open.Rd.int Try.underlying5) _ [c0] _ hy0
  obtain rfl := Open.num hz0
  obtain ⟨y1, hy1⟩ := hf 1 _ _ rfl rfl
  obtain ⟨z1, hz1, q1⟩ := (Open.Rd.int Try.underlying5) _ [c1] _ hy1
  obtain rfl := Open.num hz1
  exact ⟨⟨z0, z1⟩, k48_mk _ _, q0, q1⟩
set_option maxRecDepth 100000 in
theorem lifted (os : Os) (started : os.Started) (H : Type) (enc : TypeId × Value → H) :
    ReturnsInHanded {} Try.checked os 4 .any (Rows.condKeepsSpec.pre6 enc Try.prog Try.f4 Rows.condKeepsRow.domain false) (Rows.condKeepsSpec.post enc Try.prog Try.f4 false true false false) := by
  refine returnsInHanded_of_change_sized (C := Try.checked) own started (by kernel_rfl) Try.func4
    (ChangeSpec.witness6 (enc := enc) (C := Try.checked) false ⟨#[], #[.slice none 0 0], []⟩ 8 (by kernel_rfl) (by kernel_rfl) (by kernel_rfl) (by kernel_rfl)) ?_
  intro W base args ds gs before hval0 hW hcnd hsz0 _
  have hval : ∀ (j : Nat) t v, Try.f4.params[j]? = some t → args[j]? = some v → Value.okWide Try.prog W .any base t v := hval0
  have hW' := hW
  obtain ⟨p, q, hA0, hV, rfl, hfz, hnd⟩ := hW
  have hA : DataW.TrodAll enc Try.prog W 0 (fun _ => true) true Try.f4.params.toList args.toList ds p := hA0
  rw [Try.params4] at hA hval
  obtain ⟨v0, vs0, d0, ds0, p0, q0, hargs, rfl, rfl, h0, r0⟩ := trodAll_cons hA
  obtain ⟨rfl, rfl, rfl⟩ := trodAll_nil r0
  obtain rfl : args = #[v0] := by cases args; simp_all
  obtain ⟨rfl, rfl⟩ := trodVars_none hV
  obtain ⟨b0, m0, o0, rfl⟩ := okWide_slice Try.underlying46 (hval 0 46 v0 rfl rfl)
  have k0 := h0
  have lt0 : ∀ x ∈ p0, x.block < W.heap.size := by obtain ⟨m, hm⟩ := k0; exact DataW.trod_lt m _ _ _ hm
  obtain ⟨fuel0, hf0⟩ := h0
  obtain ⟨z0, hz0, q0⟩ := (Open.Rd.slice 48 Try.underlying46 (by kernel_rfl) rd48) _ [.slice b0 m0 o0] _ hf0
  obtain ⟨A0, n0, e0, hc0, hC0⟩ := Open.row hz0
  injection e0 with e0_0 e0_1 e0_2
  subst e0_0 e0_1 e0_2
  clear hA0 hval0 hsz0
  obtain ⟨k, h⟩ := Pure.CondKeeps z0 q0
  refine ((handshakerlaw20_CondKeeps.calls (k := k) (r := true) (w := W) (A0 := b0) (c0 := o0) (l0 := z0) (hr0 := hC0) (hc0 := hc0) (h := h)).mono fun e W' he => ?_)
  obtain ⟨rfl, bel⟩ := he
  exact ⟨_, rfl, _, _, _, [], _, [], hW', trodAll_mk1 (shut_bool Try.underlying4 _), (trodAll_cons_mk (Below.trod laidOut (by kernel_rfl) (of_decide_eq_true (by kernel_rfl)) k0 bel lt0) trodAll_mk0), rfl, bel.frame _, fun h => by cases h⟩
theorem over : Rows.condKeepsRow.holds Try.pinned (OpenSpec.ofChange Rows.condKeepsSpec) :=
  OpenClaim.holds_of_wide 4 Try.f4 rfl rfl rfl rfl rfl rfl rfl ⟨rfl, rfl, rfl, rfl, rfl⟩ rfl rfl rfl rfl rfl (by kernel_rfl) Try.func4 (by kernel_rfl)
    (of_decide_eq_true (by kernel_rfl)) (by unfold Func.isWrapper; first | (rw [if_pos (by decide +kernel)]; kernel_rfl) | (rw [if_neg (by decide +kernel)]; exact ⟨rfl, rfl⟩))
    (fun os started H enc _ => lifted os started H enc)
theorem proved : Rows.CondKeepsSaid := over
end Go.Proofs.Ytllmfahkiabkcaa.condKeeps
namespace Go.Proofs.Ytllmfahkiabkcaa
/-- The row, under a short name, for the claim. -/
theorem condKeeps_holds : Rows.CondKeepsSaid := condKeeps.proved
end Go.Proofs.Ytllmfahkiabkcaa
