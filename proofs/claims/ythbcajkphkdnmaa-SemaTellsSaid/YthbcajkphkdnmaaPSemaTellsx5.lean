/- Lean functions that say what functions of the given program compute, and proofs by walking the code that each call does just that; no condition but those that each statement names. -/
import Derived.Test.YthbcajkphkdnmaaPSemaTellsx0
import Derived.Test.YthbcajkphkdnmaaPSemaTellsx3
namespace Go.Proofs.Ythbcajkphkdnmaa.PSemaTells
open Go.RowKit Go.Proofs.YthbcajkphkdnmaaW.PrintWords Go.Proofs.YthbcajkphkdnmaaW.PrintLast Go.Proofs.YthbcajkphkdnmaaW.PrintMore
attribute [local go_sem] max2_int min2_int max_two min_two max_three min_three max_four min_four   -- for this text's walks alone
set_option linter.unusedVariables false
set_option linter.unusedSimpArgs false

-- NOT PRINTED: function 24 (sema_Ask_24)

/-! ### sema_Ask_26: function 26 (by hand) -/
def sema_Ask_26.f (l0 : List (S50)) : Option (List (S50)) := if l0.length < 8796093022208 then some l0 else none
set_option maxHeartbeats 8000000 in
set_option maxRecDepth 100000 in
theorem sema_Ask_26.calls (A0 : Option Addr) (c0 : Nat) (l0 : List (S50)) (r : List (S50)) (w : World) (hr0 : Kd.C k50 w A0 l0.length l0) (hc0 : l0.length ≤ c0) (h : sema_Ask_26.f l0 = some r) :
    Calls Try.prog 26 #[.slice A0 l0.length c0] w fun e w' => ∃ v0_ : Value, e = .returned (v0_) ∧ Kd.R k50 50 w' w.heap.size (fun _ => True) v0_ r ∧ Below w.heap.size w w' := by
  unfold sema_Ask_26.f at h
  by_cases hl : l0.length < 8796093022208
  · rw [if_pos hl] at h
    obtain rfl := Option.some.inj h
    clear h
    have HR := am hr0
    have HL := am hl
    have hu := Try.underlying22
    have q22 : ∀ (w : World) (a : Option Addr) (n c n' c' : Nat), (binOp .eql 22 (.slice a n c) (.slice none n' c')).run Try.prog w = .ok (.bool a.isNone) w := fun w a n c n' c' => Lib.run_eql_slice_nil w _ _ a n c n' c' Try.underlying22
    cases A0 with
    | none =>
      have h0 : l0 = [] := by
        cases l0 with
        | nil => rfl
        | cons x t => exact absurd (hr0.2.2 (by simp)) (by simp)
      subst h0
      clear hr0 hl HL
      go_enter Try.func26, Try.ntmps26
      go_wp2
      go_ret
      exact ⟨_, rfl, Kd.R_nil _ _ _ _ _, Below.refl _ _⟩
    | some a0 =>
      clear hr0 hl
      go_enter Try.func26, Try.ntmps26
      go_wp2_with (at_builtin; refine Kd.R_append_rows k50 (w0 := w) w.heap.size rfl _ _ 22 50 (.agg #[(.int .i64 0), (.int .i64 0)]) 16 rfl Try.underlying22 info50 rfl (by decide) (by omega) _ [] l0 (some a0) l0.length c0 (fun _ => True) (fun _ => False) rfl rfl ?aO ?aR (fun _ _ h => h) (fun _ h => h.elim) (fun _ _ => trivial) ?aB ?aS ?aL ?_)
      case aO => exact Go.Proofs.YthbcajkphkdnmaaG.made_empty _ _ _
      case aR => exact Kd.C_alloc HR.out _
      case aB => exact (Below.refl _ _).alloc (Nat.le_refl _) _
      case aS => simp
      case aL => have := HL.out; simp; omega
      intro v1 w1 ho hb hg hat
      go_wp2
      go_ret
      exact ⟨_, rfl, by simpa using ho, hb⟩
  · rw [if_neg hl] at h
    cases h

/-! ### any_sema_is_1: function 24 over 33 (by hand) -/
def any_sema_is_1.f (l0 : List (S50)) (q0 : Int) : Option (Bool) := some (l0.any (sema_is_1.p q0))
set_option maxHeartbeats 8000000 in
set_option maxRecDepth 100000 in
theorem any_sema_is_1.calls (A0 : Option Addr) (c0 : Nat) (l0 : List (S50)) (g : Nat) (q0 : Int) (r : Bool) (w : World) (hr0 : Kd.C k50 w A0 l0.length l0) (hc0 : l0.length ≤ c0) (hb0 : w.heap[g]? = some (.cells #[.int .i64 q0] 3 (0, 0))) (h : any_sema_is_1.f l0 q0 = some r) :
    Calls Try.prog 24 #[.slice A0 l0.length c0, .func (.func 33) #[] #[.pointer (some ⟨g, 0, none⟩)]] w fun e w' => e = .returned (.bool r) ∧ Below w.heap.size w w' := by
  obtain rfl := Option.some.inj h
  clear h
  have HR := am hr0
  have HC := am hc0
  have HBX := am hb0
  clear hr0 hc0 hb0
  have HI := am (Go.Proofs.YthbcajkphkdnmaaG.any_idx (sema_is_1.p q0) l0)
  go_enter Try.func24, Try.ntmps24
  go_wp2_with (go_at_call 32; (with_reducible refine (idx_sema_is_1.calls _ _ l0 g q0 _ _ ?side1 ?side2 ?side3 rfl).mono ?_); (case side1 => exact HR.out); (case side2 => exact HC.out); (case side3 => exact HBX.out); rintro e w2 ⟨rfl, hb⟩; have HB2 := am hb; clear hb)
  go_ret
  exact ⟨by rw [HI.out]; rfl, HB2.out⟩

end Go.Proofs.Ythbcajkphkdnmaa.PSemaTells
