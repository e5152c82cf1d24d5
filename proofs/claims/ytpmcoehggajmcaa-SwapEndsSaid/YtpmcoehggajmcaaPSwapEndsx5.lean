/- Lean functions that say what functions of the given program compute, and proofs by walking the code that each call does just that; no condition but those that each statement names. -/
import Derived.Test.YtpmcoehggajmcaaPSwapEndsx0
import Derived.Test.YtpmcoehggajmcaaPSwapEndsx1
import Derived.Test.YtpmcoehggajmcaaPSwapEndsx2
import Derived.Test.YtpmcoehggajmcaaPSwapEndsx3
import Derived.Test.YtpmcoehggajmcaaPSwapEndsx4
namespace Go.Proofs.Ytpmcoehggajmcaa.PSwapEnds
open Go.RowKit Go.Proofs.YtpmcoehggajmcaaW.PrintWords Go.Proofs.YtpmcoehggajmcaaW.PrintLast Go.Proofs.YtpmcoehggajmcaaW.PrintMore
attribute [local go_sem] max2_int min2_int max_two min_two max_three min_three max_four min_four   -- for this text's walks alone
set_option linter.unusedVariables false
set_option linter.unusedSimpArgs false

attribute [local go_sem high] eqA26
/-! ### handshakerlaw21_SwapEnds: function 3 -/
mutual
def handshakerlaw21_SwapEnds.l0 : Nat → List (S26) → Int → Int → List (S28) → Int → Int → Option (Bool)
  | 0, _, _, _, _, _, _ => none
  | k + 1, x3, x4, x5, x28, x29, x30 => if x30 < x29 then (if 0 ≤ x30 then (if x30 < (x28.length : Int) then (if (rd_T28 x28 x30).f1 = true then ((swap_Leave.f k x3 ((rd_T28 x28 x30).f0.f0)).bind fun bt251 => (if bt251.2.2.2.2.2 = 0 then (if bt251.2.1 = ((rd_T28 x28 x30).f0.f0) then ((swap_Right.f k bt251.1).bind fun t260 => (if t260 = true then (if x4 = (wrap64 ((wrap64 (x5 + 1)) + (bt251.1.length : Int))) then (handshakerlaw21_SwapEnds.l0 k bt251.1 x4 (wrap64 (x5 + 1)) x28 x29 (wrap64 (x30 + 1))) else (none)) else (none))) else (none)) else ((swap_Right.f k bt251.1).bind fun t261 => (if t261 = true then (if x4 = (wrap64 (x5 + (bt251.1.length : Int))) then (handshakerlaw21_SwapEnds.l0 k bt251.1 x4 x5 x28 x29 (wrap64 (x30 + 1))) else (none)) else (none))))) else (if (rd_T28 x28 x30).f2 = true then ((swap_Late.f k x3 ((rd_T28 x28 x30).f0.f3)).bind fun bt262 => (handshakerlaw21_SwapEnds.l1 k x4 x5 bt262.1 bt262.2 x28 x29 x30 bt262.2 (bt262.2.length : Int) 0 ((rd_T28 x28 x30).f0.f0) ((rd_T28 x28 x30).f0.f1) ((rd_T28 x28 x30).f0.f2) ((rd_T28 x28 x30).f0.f3) ((rd_T28 x28 x30).f1) ((rd_T28 x28 x30).f2))) else ((swap_Put.f k x3 ((rd_T28 x28 x30).f0.f0) ((rd_T28 x28 x30).f0.f1) ((rd_T28 x28 x30).f0.f2) ((rd_T28 x28 x30).f0.f3)).bind fun bt271 => (if bt271.2.2.2.2.2.2.2.2.2.2 = 0 then (handshakerlaw21_SwapEnds.j2 k (wrap64 (x4 + 1)) x5 bt271.1 bt271.2.2.2.2.2.2.2.2.2.1 bt271.2.2.2.2.2.2.2.2.2.2 x28 x29 x30 ((rd_T28 x28 x30).f0.f0) ((rd_T28 x28 x30).f0.f1) ((rd_T28 x28 x30).f0.f2) ((rd_T28 x28 x30).f0.f3) ((rd_T28 x28 x30).f1) ((rd_T28 x28 x30).f2) bt271.2.1 bt271.2.2.1 bt271.2.2.2.1 bt271.2.2.2.2.1 bt271.2.2.2.2.2.1 bt271.2.2.2.2.2.2.1 bt271.2.2.2.2.2.2.2.1 bt271.2.2.2.2.2.2.2.2.1) else (handshakerlaw21_SwapEnds.j2 k x4 x5 bt271.1 bt271.2.2.2.2.2.2.2.2.2.1 bt271.2.2.2.2.2.2.2.2.2.2 x28 x29 x30 ((rd_T28 x28 x30).f0.f0) ((rd_T28 x28 x30).f0.f1) ((rd_T28 x28 x30).f0.f2) ((rd_T28 x28 x30).f0.f3) ((rd_T28 x28 x30).f1) ((rd_T28 x28 x30).f2) bt271.2.1 bt271.2.2.1 bt271.2.2.2.1 bt271.2.2.2.2.1 bt271.2.2.2.2.2.1 bt271.2.2.2.2.2.2.1 bt271.2.2.2.2.2.2.2.1 bt271.2.2.2.2.2.2.2.2.1))))) else (none)) else (none)) else ((handshakerlaw21_awake.f k).bind fun t248 => (some t248))
def handshakerlaw21_SwapEnds.l1 : Nat → Int → Int → List (S26) → List (S26) → List (S28) → Int → Int → List (S26) → Int → Int → Int → Int → Int → Int → Bool → Bool → Option (Bool)
  | 0, _, _, _, _, _, _, _, _, _, _, _, _, _, _, _, _ => none
  | k + 1, x4, x5, x12, x13, x28, x29, x30, x141, x142, x143, x251000, x251001, x251002, x251003, x251004, x251005 => if x143 < x142 then (if 0 ≤ x143 then (if x143 < (x141.length : Int) then (if ((rd_T26 x141 x143).f3) = 0 then (none) else (if ((rd_T26 x141 x143).f3) > x251003 then (none) else (handshakerlaw21_SwapEnds.l1 k x4 x5 x12 x13 x28 x29 x30 x141 x142 (wrap64 (x143 + 1)) x251000 x251001 x251002 x251003 x251004 x251005))) else (none)) else (none)) else ((swap_Right.f k x12).bind fun t270 => (if t270 = true then (if x4 = (wrap64 ((wrap64 (x5 + (x13.length : Int))) + (x12.length : Int))) then (handshakerlaw21_SwapEnds.l0 k x12 x4 (wrap64 (x5 + (x13.length : Int))) x28 x29 (wrap64 (x30 + 1))) else (none)) else (none)))
def handshakerlaw21_SwapEnds.j2 : Nat → Int → Int → List (S26) → Bool → Int → List (S28) → Int → Int → Int → Int → Int → Int → Bool → Bool → Int → Int → Int → Int → Int → Int → Int → Int → Option (Bool)
  | 0, _, _, _, _, _, _, _, _, _, _, _, _, _, _, _, _, _, _, _, _, _, _ => none
  | k + 1, x4, x5, x16, x18, x19, x28, x29, x30, x251000, x251001, x251002, x251003, x251004, x251005, x285000, x285001, x285002, x285003, x285004, x285005, x285006, x285007 => if x18 = true then ((swap_Got.f x285000 x285001 x285002 x285003 x285004 x285005 x285006 x285007 x285000).bind fun bt285 => ((swap_Got.f x285000 x285001 x285002 x285003 x285004 x285005 x285006 x285007 x285004).bind fun bt287 => (if x19 = 0 then (if (!(x285004 == x251000) || (!(x285005 == x251001) || (!(x285006 == x251002) || (!(x285007 == x251003))))) = true then (none) else ((swap_Meet.f x285000 x285001 x285002 x285003 x285004 x285005 x285006 x285007).bind fun t289 => (if t289 = true then (if bt285.2 = true then (if bt287.2 = true then (if bt285.1 = x285006 then (handshakerlaw21_SwapEnds.j3 k x4 (wrap64 (x5 + 2)) x16 x28 x29 x30 (bt287.1 != x285002)) else (none)) else (none)) else (none)) else (none)))) else (none)))) else ((swap_Right.f k x16).bind fun t291 => (if t291 = true then (if x4 = (wrap64 (x5 + (x16.length : Int))) then (handshakerlaw21_SwapEnds.l0 k x16 x4 x5 x28 x29 (wrap64 (x30 + 1))) else (none)) else (none)))
def handshakerlaw21_SwapEnds.j3 : Nat → Int → Int → List (S26) → List (S28) → Int → Int → Bool → Option (Bool)
  | 0, _, _, _, _, _, _, _ => none
  | k + 1, x4, x5, x16, x28, x29, x30, x105 => if x105 = true then (none) else ((swap_Right.f k x16).bind fun t290 => (if t290 = true then (if x4 = (wrap64 (x5 + (x16.length : Int))) then (handshakerlaw21_SwapEnds.l0 k x16 x4 x5 x28 x29 (wrap64 (x30 + 1))) else (none)) else (none)))
end
def handshakerlaw21_SwapEnds.f (k : Nat) (l0 : List (S28)) : Option (Bool) := if (l0.length : Int) > 40 then ((handshakerlaw21_awake.f k).bind fun t247 => (some t247)) else (handshakerlaw21_SwapEnds.l0 k ([] : List (S26)) 0 0 l0 (l0.length : Int) 0)
theorem handshakerlaw21_SwapEnds.mono_l : ∀ k, (∀ y0 y1 y2 y3 y4 y5, LeO (handshakerlaw21_SwapEnds.l0 k y0 y1 y2 y3 y4 y5) (handshakerlaw21_SwapEnds.l0 (k + 1) y0 y1 y2 y3 y4 y5)) ∧ (∀ y0 y1 y2 y3 y4 y5 y6 y7 y8 y9 y10 y11 y12 y13 y14 y15, LeO (handshakerlaw21_SwapEnds.l1 k y0 y1 y2 y3 y4 y5 y6 y7 y8 y9 y10 y11 y12 y13 y14 y15) (handshakerlaw21_SwapEnds.l1 (k + 1) y0 y1 y2 y3 y4 y5 y6 y7 y8 y9 y10 y11 y12 y13 y14 y15)) ∧ (∀ y0 y1 y2 y3 y4 y5 y6 y7 y8 y9 y10 y11 y12 y13 y14 y15 y16 y17 y18 y19 y20 y21, LeO (handshakerlaw21_SwapEnds.j2 k y0 y1 y2 y3 y4 y5 y6 y7 y8 y9 y10 y11 y12 y13 y14 y15 y16 y17 y18 y19 y20 y21) (handshakerlaw21_SwapEnds.j2 (k + 1) y0 y1 y2 y3 y4 y5 y6 y7 y8 y9 y10 y11 y12 y13 y14 y15 y16 y17 y18 y19 y20 y21)) ∧ (∀ y0 y1 y2 y3 y4 y5 y6, LeO (handshakerlaw21_SwapEnds.j3 k y0 y1 y2 y3 y4 y5 y6) (handshakerlaw21_SwapEnds.j3 (k + 1) y0 y1 y2 y3 y4 y5 y6))
  | 0 => ⟨fun _ _ _ _ _ _ r h => by simp [handshakerlaw21_SwapEnds.l0] at h, fun _ _ _ _ _ _ _ _ _ _ _ _ _ _ _ _ r h => by simp [handshakerlaw21_SwapEnds.l1] at h, fun _ _ _ _ _ _ _ _ _ _ _ _ _ _ _ _ _ _ _ _ _ _ r h => by simp [handshakerlaw21_SwapEnds.j2] at h, fun _ _ _ _ _ _ _ r h => by simp [handshakerlaw21_SwapEnds.j3] at h⟩
  | k + 1 => by
    obtain ⟨ih0, ih1, ih2, ih3⟩ := handshakerlaw21_SwapEnds.mono_l k
    refine ⟨?_, ?_, ?_, ?_⟩
    · intro y0 y1 y2 y3 y4 y5
      unfold handshakerlaw21_SwapEnds.l0
      repeat' first
      | (with_reducible exact ih0 _ _ _ _ _ _)
      | (with_reducible exact ih1 _ _ _ _ _ _ _ _ _ _ _ _ _ _ _ _)
      | (with_reducible exact ih2 _ _ _ _ _ _ _ _ _ _ _ _ _ _ _ _ _ _ _ _ _ _)
      | (with_reducible exact ih3 _ _ _ _ _ _ _)
      | (with_reducible exact handshakerlaw21_awake.mono _)
      | (with_reducible exact swap_Late.mono _ _ _)
      | (with_reducible exact swap_Leave.mono _ _ _)
      | (with_reducible exact swap_Put.mono _ _ _ _ _ _)
      | (with_reducible exact swap_Right.mono _ _)
      | (with_reducible exact LeO.refl _)
      | (with_reducible exact LeO.none _)
      | (with_reducible refine LeO.ite ?_ ?_)
      | (with_reducible refine LeO.bind ?_ (fun _ => ?_))
      | exact ih0 _ _ _ _ _ _
      | exact ih1 _ _ _ _ _ _ _ _ _ _ _ _ _ _ _ _
      | exact ih2 _ _ _ _ _ _ _ _ _ _ _ _ _ _ _ _ _ _ _ _ _ _
      | exact ih3 _ _ _ _ _ _ _
      | exact handshakerlaw21_awake.mono _
      | exact swap_Late.mono _ _ _
      | exact swap_Leave.mono _ _ _
      | exact swap_Put.mono _ _ _ _ _ _
      | exact swap_Right.mono _ _
      | exact LeO.none _
      | refine LeO.ite ?_ ?_
      | refine LeO.bind ?_ (fun _ => ?_)
    · intro y0 y1 y2 y3 y4 y5 y6 y7 y8 y9 y10 y11 y12 y13 y14 y15
      unfold handshakerlaw21_SwapEnds.l1
      repeat' first
      | (with_reducible exact ih0 _ _ _ _ _ _)
      | (with_reducible exact ih1 _ _ _ _ _ _ _ _ _ _ _ _ _ _ _ _)
      | (with_reducible exact ih2 _ _ _ _ _ _ _ _ _ _ _ _ _ _ _ _ _ _ _ _ _ _)
      | (with_reducible exact ih3 _ _ _ _ _ _ _)
      | (with_reducible exact handshakerlaw21_awake.mono _)
      | (with_reducible exact swap_Late.mono _ _ _)
      | (with_reducible exact swap_Leave.mono _ _ _)
      | (with_reducible exact swap_Put.mono _ _ _ _ _ _)
      | (with_reducible exact swap_Right.mono _ _)
      | (with_reducible exact LeO.refl _)
      | (with_reducible exact LeO.none _)
      | (with_reducible refine LeO.ite ?_ ?_)
      | (with_reducible refine LeO.bind ?_ (fun _ => ?_))
      | exact ih0 _ _ _ _ _ _
      | exact ih1 _ _ _ _ _ _ _ _ _ _ _ _ _ _ _ _
      | exact ih2 _ _ _ _ _ _ _ _ _ _ _ _ _ _ _ _ _ _ _ _ _ _
      | exact ih3 _ _ _ _ _ _ _
      | exact handshakerlaw21_awake.mono _
      | exact swap_Late.mono _ _ _
      | exact swap_Leave.mono _ _ _
      | exact swap_Put.mono _ _ _ _ _ _
      | exact swap_Right.mono _ _
      | exact LeO.none _
      | refine LeO.ite ?_ ?_
      | refine LeO.bind ?_ (fun _ => ?_)
    · intro y0 y1 y2 y3 y4 y5 y6 y7 y8 y9 y10 y11 y12 y13 y14 y15 y16 y17 y18 y19 y20 y21
      unfold handshakerlaw21_SwapEnds.j2
      repeat' first
      | (with_reducible exact ih0 _ _ _ _ _ _)
      | (with_reducible exact ih1 _ _ _ _ _ _ _ _ _ _ _ _ _ _ _ _)
      | (with_reducible exact ih2 _ _ _ _ _ _ _ _ _ _ _ _ _ _ _ _ _ _ _ _ _ _)
      | (with_reducible exact ih3 _ _ _ _ _ _ _)
      | (with_reducible exact handshakerlaw21_awake.mono _)
      | (with_reducible exact swap_Late.mono _ _ _)
      | (with_reducible exact swap_Leave.mono _ _ _)
      | (with_reducible exact swap_Put.mono _ _ _ _ _ _)
      | (with_reducible exact swap_Right.mono _ _)
      | (with_reducible exact LeO.refl _)
      | (with_reducible exact LeO.none _)
      | (with_reducible refine LeO.ite ?_ ?_)
      | (with_reducible refine LeO.bind ?_ (fun _ => ?_))
      | exact ih0 _ _ _ _ _ _
      | exact ih1 _ _ _ _ _ _ _ _ _ _ _ _ _ _ _ _
      | exact ih2 _ _ _ _ _ _ _ _ _ _ _ _ _ _ _ _ _ _ _ _ _ _
      | exact ih3 _ _ _ _ _ _ _
      | exact handshakerlaw21_awake.mono _
      | exact swap_Late.mono _ _ _
      | exact swap_Leave.mono _ _ _
      | exact swap_Put.mono _ _ _ _ _ _
      | exact swap_Right.mono _ _
      | exact LeO.none _
      | refine LeO.ite ?_ ?_
      | refine LeO.bind ?_ (fun _ => ?_)
    · intro y0 y1 y2 y3 y4 y5 y6
      unfold handshakerlaw21_SwapEnds.j3
      repeat' first
      | (with_reducible exact ih0 _ _ _ _ _ _)
      | (with_reducible exact ih1 _ _ _ _ _ _ _ _ _ _ _ _ _ _ _ _)
      | (with_reducible exact ih2 _ _ _ _ _ _ _ _ _ _ _ _ _ _ _ _ _ _ _ _ _ _)
      | (with_reducible exact ih3 _ _ _ _ _ _ _)
      | (with_reducible exact handshakerlaw21_awake.mono _)
      | (with_reducible exact swap_Late.mono _ _ _)
      | (with_reducible exact swap_Leave.mono _ _ _)
      | (with_reducible exact swap_Put.mono _ _ _ _ _ _)
      | (with_reducible exact swap_Right.mono _ _)
      | (with_reducible exact LeO.refl _)
      | (with_reducible exact LeO.none _)
      | (with_reducible refine LeO.ite ?_ ?_)
      | (with_reducible refine LeO.bind ?_ (fun _ => ?_))
      | exact ih0 _ _ _ _ _ _
      | exact ih1 _ _ _ _ _ _ _ _ _ _ _ _ _ _ _ _
      | exact ih2 _ _ _ _ _ _ _ _ _ _ _ _ _ _ _ _ _ _ _ _ _ _
      | exact ih3 _ _ _ _ _ _ _
      | exact handshakerlaw21_awake.mono _
      | exact swap_Late.mono _ _ _
      | exact swap_Leave.mono _ _ _
      | exact swap_Put.mono _ _ _ _ _ _
      | exact swap_Right.mono _ _
      | exact LeO.none _
      | refine LeO.ite ?_ ?_
      | refine LeO.bind ?_ (fun _ => ?_)
theorem handshakerlaw21_SwapEnds.mono : ∀ a0 k, LeO (handshakerlaw21_SwapEnds.f k a0) (handshakerlaw21_SwapEnds.f (k + 1) a0) := by
  intro a0 k
  obtain ⟨ih0, ih1, ih2, ih3⟩ := handshakerlaw21_SwapEnds.mono_l k
  unfold handshakerlaw21_SwapEnds.f
  repeat' first
      | (with_reducible exact ih0 _ _ _ _ _ _)
      | (with_reducible exact ih1 _ _ _ _ _ _ _ _ _ _ _ _ _ _ _ _)
      | (with_reducible exact ih2 _ _ _ _ _ _ _ _ _ _ _ _ _ _ _ _ _ _ _ _ _ _)
      | (with_reducible exact ih3 _ _ _ _ _ _ _)
      | (with_reducible exact handshakerlaw21_awake.mono _)
      | (with_reducible exact swap_Late.mono _ _ _)
      | (with_reducible exact swap_Leave.mono _ _ _)
      | (with_reducible exact swap_Put.mono _ _ _ _ _ _)
      | (with_reducible exact swap_Right.mono _ _)
      | (with_reducible exact LeO.refl _)
      | (with_reducible exact LeO.none _)
      | (with_reducible refine LeO.ite ?_ ?_)
      | (with_reducible refine LeO.bind ?_ (fun _ => ?_))
      | exact ih0 _ _ _ _ _ _
      | exact ih1 _ _ _ _ _ _ _ _ _ _ _ _ _ _ _ _
      | exact ih2 _ _ _ _ _ _ _ _ _ _ _ _ _ _ _ _ _ _ _ _ _ _
      | exact ih3 _ _ _ _ _ _ _
      | exact handshakerlaw21_awake.mono _
      | exact swap_Late.mono _ _ _
      | exact swap_Leave.mono _ _ _
      | exact swap_Put.mono _ _ _ _ _ _
      | exact swap_Right.mono _ _
      | exact LeO.none _
      | refine LeO.ite ?_ ?_
      | refine LeO.bind ?_ (fun _ => ?_)
set_option maxHeartbeats 8000000 in
set_option maxRecDepth 100000 in
theorem handshakerlaw21_SwapEnds.calls (k : Nat) (A0 : Option Addr) (c0 : Nat) (l0 : List (S28)) (r : Bool) (w : World) (hr0 : Kd.C k28 w A0 l0.length l0) (hc0 : l0.length ≤ c0) (h : handshakerlaw21_SwapEnds.f k l0 = some r) :
    Calls Try.prog 3 #[.slice A0 l0.length c0] w fun e w' => e = .returned (.bool r) ∧ Below w.heap.size w w' := by
  have hu28 := Try.underlying28
  have hu26 := Try.underlying26
  have hu35 := Try.underlying35
  have HR0 := Aside0.mk hr0
  have HC0 := Aside0.mk hc0
  clear hr0 hc0
  have HB := Aside0.mk (Below.refl w.heap.size w)
  have H : (if (l0.length : Int) > 40 then ((handshakerlaw21_awake.f k).bind fun t247 => (some t247)) else (handshakerlaw21_SwapEnds.l0 k ([] : List (S26)) 0 0 l0 (l0.length : Int) 0)) = some r := h
  clear h
  by_cases c2 : (l0.length : Int) > 40
  · rw [if_pos c2] at H
    have c2b0 : decide (40 < (l0.length : Int)) = true := decide_eq_true c2
    have c2b1 : decide (40 < l0.length) = true := decide_eq_true (by omega)
    clear c2
    replace H := Option.bind_eq_some_iff.mp H
    obtain ⟨t247, A30, H⟩ := H
    replace H : (some t247) = some r := H
    have A3 := Aside0.mk A30
    clear A30
    obtain rfl := Option.some.inj H
    go_enter Try.func3, Try.ntmps3
    go_wp2_with (first | ((with_reducible refine gate_callee (f := 8) rfl ?_); refine goesL_ (some 27) rfl rfl Try.func8 (by kernel_rfl) rfl #[] rfl (by (try simp only [List.map_toArray, List.map_cons, List.map_nil]); first | done | rfl | (simp only [List.length_drop, List.length_take]; rfl)) ?_; (with_reducible refine (handshakerlaw21_awake.calls k  t247 _ A3.out).mono ?_); rintro e w4 ⟨rfl, hb⟩; refine ⟨_, rfl, ?_⟩; have n0_ := Aside0.mk (below_step (by repeat (first | (with_reducible first | exact HB.out | apply below_alloc | apply pw_below_drewN | apply below_drew1) | exact HB.out)) hb); clear HB; have HB := n0_; clear n0_; (try clear hb); (try clear hb2); (try clear hk); (try clear hi)))
    go_ret
    exact ⟨by first | rfl | (simp [errW_none, errW_some] <;> rfl) | (simp [*, errW_none, errW_some] <;> rfl), by repeat (first | (with_reducible first | exact HB.out | apply below_alloc | apply pw_below_drewN | apply below_drew1) | exact HB.out)⟩
  · rw [if_neg c2] at H
    have c2b0 : decide (40 < (l0.length : Int)) = false := decide_eq_false c2
    have c2b1 : decide (40 < l0.length) = false := decide_eq_false (by omega)
    clear c2
    have H' := Aside0.mk H
    clear H
    go_enter Try.func3, Try.ntmps3
    go_wp2
    go_loopg [3, 4, 5, 30] k (fun kq v3 v4 v5 v30 w' => ∃ (x3_1 : List (S26)) (x4_1 : Int) (x5_1 : Int) (x30_1 : Int), v4 = .int .i64 x4_1 ∧ v5 = .int .i64 x5_1 ∧ v30 = .int .i64 x30_1 ∧ Aside0 (handshakerlaw21_SwapEnds.l0 kq x3_1 x4_1 x5_1 l0 (l0.length : Int) x30_1 = some r) ∧ Aside0 (kq ≤ k) ∧ Aside0 (Kd.V k26 26 w' w.heap.size (fun _ => True) v3 x3_1) ∧ Aside0 (Below w.heap.size w w'))
    case atStart => exact ⟨(([] : List (S26))), (0), (0), (0), (by first | rfl | (simp; done) | (simp [*]; done)), (by first | rfl | (simp; done) | (simp [*]; done)), (by first | rfl | (simp; done) | (simp [*]; done)), H', ⟨Nat.le_refl _⟩, ⟨Kd.V_nil _ _ _ _ _⟩, ⟨by repeat (first | (with_reducible first | exact HB.out | apply below_alloc | apply pw_below_drewN | apply below_drew1) | exact HB.out)⟩⟩
    case round =>
      clear H'
      try clear c2
      try clear c2b0
      try clear c2b1
      try clear p2
      try clear c3
      obtain ⟨x3_1, x4_1, x5_1, x30_1, rfl, rfl, rfl, HA, HK1, HO_3, HB⟩ := hrel
      cases gk with
      | zero => exact absurd HA.out (by simp [handshakerlaw21_SwapEnds.l0])
      | succ k1 =>
        have H := HA.out
        clear HA
        simp only [handshakerlaw21_SwapEnds.l0] at H
        by_cases c5 : x30_1 < (l0.length : Int)
        · rw [if_pos c5] at H
          have c5b0 : decide (x30_1 < (l0.length : Int)) = true := decide_eq_true c5
          clear c5
          by_cases c6 : 0 ≤ x30_1
          · rw [if_pos c6] at H
            have c6b0 : decide (0 ≤ x30_1) = true := decide_eq_true c6
            clear c6
            by_cases c7 : x30_1 < (l0.length : Int)
            · rw [if_pos c7] at H
              have c7b0 : decide (x30_1 < (l0.length : Int)) = true := decide_eq_true c7
              clear c7
              obtain ⟨bq8, hbq8⟩ : ∃ b_ : Bool, b_ = ((rd_T28 l0 x30_1).f1) := ⟨_, rfl⟩
              replace H : (if bq8 = true then ((swap_Leave.f k1 x3_1 ((rd_T28 l0 x30_1).f0.f0)).bind fun bt251 => (if bt251.2.2.2.2.2 = 0 then (if bt251.2.1 = ((rd_T28 l0 x30_1).f0.f0) then ((swap_Right.f k1 bt251.1).bind fun t260 => (if t260 = true then (if x4_1 = (wrap64 ((wrap64 (x5_1 + 1)) + (bt251.1.length : Int))) then (handshakerlaw21_SwapEnds.l0 k1 bt251.1 x4_1 (wrap64 (x5_1 + 1)) l0 (l0.length : Int) (wrap64 (x30_1 + 1))) else (none)) else (none))) else (none)) else ((swap_Right.f k1 bt251.1).bind fun t261 => (if t261 = true then (if x4_1 = (wrap64 (x5_1 + (bt251.1.length : Int))) then (handshakerlaw21_SwapEnds.l0 k1 bt251.1 x4_1 x5_1 l0 (l0.length : Int) (wrap64 (x30_1 + 1))) else (none)) else (none))))) else (if (rd_T28 l0 x30_1).f2 = true then ((swap_Late.f k1 x3_1 ((rd_T28 l0 x30_1).f0.f3)).bind fun bt262 => (handshakerlaw21_SwapEnds.l1 k1 x4_1 x5_1 bt262.1 bt262.2 l0 (l0.length : Int) x30_1 bt262.2 (bt262.2.length : Int) 0 ((rd_T28 l0 x30_1).f0.f0) ((rd_T28 l0 x30_1).f0.f1) ((rd_T28 l0 x30_1).f0.f2) ((rd_T28 l0 x30_1).f0.f3) bq8 ((rd_T28 l0 x30_1).f2))) else ((swap_Put.f k1 x3_1 ((rd_T28 l0 x30_1).f0.f0) ((rd_T28 l0 x30_1).f0.f1) ((rd_T28 l0 x30_1).f0.f2) ((rd_T28 l0 x30_1).f0.f3)).bind fun bt271 => (if bt271.2.2.2.2.2.2.2.2.2.2 = 0 then (handshakerlaw21_SwapEnds.j2 k1 (wrap64 (x4_1 + 1)) x5_1 bt271.1 bt271.2.2.2.2.2.2.2.2.2.1 bt271.2.2.2.2.2.2.2.2.2.2 l0 (l0.length : Int) x30_1 ((rd_T28 l0 x30_1).f0.f0) ((rd_T28 l0 x30_1).f0.f1) ((rd_T28 l0 x30_1).f0.f2) ((rd_T28 l0 x30_1).f0.f3) bq8 ((rd_T28 l0 x30_1).f2) bt271.2.1 bt271.2.2.1 bt271.2.2.2.1 bt271.2.2.2.2.1 bt271.2.2.2.2.2.1 bt271.2.2.2.2.2.2.1 bt271.2.2.2.2.2.2.2.1 bt271.2.2.2.2.2.2.2.2.1) else (handshakerlaw21_SwapEnds.j2 k1 x4_1 x5_1 bt271.1 bt271.2.2.2.2.2.2.2.2.2.1 bt271.2.2.2.2.2.2.2.2.2.2 l0 (l0.length : Int) x30_1 ((rd_T28 l0 x30_1).f0.f0) ((rd_T28 l0 x30_1).f0.f1) ((rd_T28 l0 x30_1).f0.f2) ((rd_T28 l0 x30_1).f0.f3) bq8 ((rd_T28 l0 x30_1).f2) bt271.2.1 bt271.2.2.1 bt271.2.2.2.1 bt271.2.2.2.2.1 bt271.2.2.2.2.2.1 bt271.2.2.2.2.2.2.1 bt271.2.2.2.2.2.2.2.1 bt271.2.2.2.2.2.2.2.2.1))))) = some r := by rw [← hbq8] at H; exact H
              have Nbq8 := Aside0.mk hbq8
              clear hbq8
              by_cases c9 : bq8 = true
              · subst c9
                have H1 : ((swap_Leave.f k1 x3_1 ((rd_T28 l0 x30_1).f0.f0)).bind fun bt251 => (if bt251.2.2.2.2.2 = 0 then (if bt251.2.1 = ((rd_T28 l0 x30_1).f0.f0) then ((swap_Right.f k1 bt251.1).bind fun t260 => (if t260 = true then (if x4_1 = (wrap64 ((wrap64 (x5_1 + 1)) + (bt251.1.length : Int))) then (handshakerlaw21_SwapEnds.l0 k1 bt251.1 x4_1 (wrap64 (x5_1 + 1)) l0 (l0.length : Int) (wrap64 (x30_1 + 1))) else (none)) else (none))) else (none)) else ((swap_Right.f k1 bt251.1).bind fun t261 => (if t261 = true then (if x4_1 = (wrap64 (x5_1 + (bt251.1.length : Int))) then (handshakerlaw21_SwapEnds.l0 k1 bt251.1 x4_1 x5_1 l0 (l0.length : Int) (wrap64 (x30_1 + 1))) else (none)) else (none))))) = some r := by rw [if_pos rfl] at H; exact H
                clear H
                have H := H1
                clear H1
                replace H := Option.bind_eq_some_iff.mp H
                obtain ⟨⟨t251, t254, t255, t256, t257, t258⟩, A100, H⟩ := H
                replace H : (if t258 = 0 then (if t254 = ((rd_T28 l0 x30_1).f0.f0) then ((swap_Right.f k1 t251).bind fun t260 => (if t260 = true then (if x4_1 = (wrap64 ((wrap64 (x5_1 + 1)) + (t251.length : Int))) then (handshakerlaw21_SwapEnds.l0 k1 t251 x4_1 (wrap64 (x5_1 + 1)) l0 (l0.length : Int) (wrap64 (x30_1 + 1))) else (none)) else (none))) else (none)) else ((swap_Right.f k1 t251).bind fun t261 => (if t261 = true then (if x4_1 = (wrap64 (x5_1 + (t251.length : Int))) then (handshakerlaw21_SwapEnds.l0 k1 t251 x4_1 x5_1 l0 (l0.length : Int) (wrap64 (x30_1 + 1))) else (none)) else (none)))) = some r := H
                have A10 := Aside0.mk A100
                clear A100
                by_cases c11 : t258 = 0
                · rw [if_pos c11] at H
                  have c11b0 : (t258 == 0) = true := beq_iff_eq.mpr c11
                  have c11b1 : (t258 != 0) = false := bne_eq_false_iff_eq.mpr c11
                  clear c11
                  by_cases c12 : t254 = ((rd_T28 l0 x30_1).f0.f0)
                  · rw [if_pos c12] at H
                    have c12b0 : (t254 == ((rd_T28 l0 x30_1).f0.f0)) = true := beq_iff_eq.mpr c12
                    have c12b1 : (t254 != ((rd_T28 l0 x30_1).f0.f0)) = false := bne_eq_false_iff_eq.mpr c12
                    clear c12
                    replace H := Option.bind_eq_some_iff.mp H
                    obtain ⟨t260, A130, H⟩ := H
                    replace H : (if t260 = true then (if x4_1 = (wrap64 ((wrap64 (x5_1 + 1)) + (t251.length : Int))) then (handshakerlaw21_SwapEnds.l0 k1 t251 x4_1 (wrap64 (x5_1 + 1)) l0 (l0.length : Int) (wrap64 (x30_1 + 1))) else (none)) else (none)) = some r := H
                    have A13 := Aside0.mk A130
                    clear A130
                    by_cases c14 : t260 = true
                    · subst c14
                      have H1 : (if x4_1 = (wrap64 ((wrap64 (x5_1 + 1)) + (t251.length : Int))) then (handshakerlaw21_SwapEnds.l0 k1 t251 x4_1 (wrap64 (x5_1 + 1)) l0 (l0.length : Int) (wrap64 (x30_1 + 1))) else (none)) = some r := by rw [if_pos rfl] at H; exact H
                      clear H
                      have H := H1
                      clear H1
                      by_cases c15 : x4_1 = (wrap64 ((wrap64 (x5_1 + 1)) + (t251.length : Int)))
                      · rw [if_pos c15] at H
                        have c15b0 : (x4_1 == (wrap64 ((wrap64 (x5_1 + 1)) + (t251.length : Int)))) = true := beq_iff_eq.mpr c15
                        have c15b1 : (x4_1 != (wrap64 ((wrap64 (x5_1 + 1)) + (t251.length : Int)))) = false := bne_eq_false_iff_eq.mpr c15
                        clear c15
                        have H' := Aside0.mk H
                        clear H
                        have p249 : 0 ≤ (x30_1 : Int) := of_decide_eq_true (by first | (with_reducible assumption) | assumption)
                        have q249 : x30_1 < (l0.length : Int) := of_decide_eq_true (by first | (with_reducible assumption) | assumption)
                        obtain ⟨ad249, e249, hx249_0, hx249_1, hx249_2, hx249_3, hx249_4, hx249_5⟩ := at_T28 HR0.out x30_1 p249 q249
                        (try rw [← Nbq8.out] at hx249_4)
                        (try rw [← Nbq8.out] at hx249_5)
                        cases e249
                        replace hx249_0 := (HB.out.cell (World.block_lt_of_cell? w _ hx249_0)).trans hx249_0
                        replace hx249_1 := (HB.out.cell (World.block_lt_of_cell? w _ hx249_1)).trans hx249_1
                        replace hx249_2 := (HB.out.cell (World.block_lt_of_cell? w _ hx249_2)).trans hx249_2
                        replace hx249_3 := (HB.out.cell (World.block_lt_of_cell? w _ hx249_3)).trans hx249_3
                        replace hx249_4 := (HB.out.cell (World.block_lt_of_cell? w _ hx249_4)).trans hx249_4
                        replace hx249_5 := (HB.out.cell (World.block_lt_of_cell? w _ hx249_5)).trans hx249_5
                        replace p249 := eq_true p249
                        replace q249 := eq_true q249
                        go_wp2_with (first | ((with_reducible refine gate_dst (N := 7) rfl ?_); (try (refine gate_guard (by rfl) ?_; dsimp only)); refine box_event ?hg (N := 7) ?hd (cs := #[.int .i64 0, .int .i64 0, .int .i64 0, .int .i64 0, .bool false, .bool false]) (t := 28) ?hr ?_; (case hd => rfl); (case hg => rfl); (case hr => first | (go_simp; done) | (go_simp; rfl)); intro gb250 hg w16 hbox hb; have n0_ := Aside0.mk (Kd.V_below (Kd.V_elderB (by (with_reducible repeat (first | apply Kd.V_alloc | apply Kd.V_drewN | apply Kd.V_drew)); exact HO_3.out) gb250 (Nat.le_of_eq hg.symm)) hb); have n1_ := Aside0.mk (below_step (by repeat (first | (with_reducible first | exact HB.out | apply below_alloc | apply pw_below_drewN | apply below_drew1) | exact HB.out)) hb); have n2_ := Aside0.mk (hbox); have n3_ := Aside0.mk ((by rw [hg]; exact (below_size (by repeat (first | (with_reducible first | exact HB.out | apply below_alloc | apply pw_below_drewN | apply below_drew1) | exact HB.out))) : w.heap.size ≤ gb250)); have n4_ := Aside0.mk ((by rw [hg]; exact (below_size (by repeat (first | (with_reducible first | exact HB.out | apply below_alloc | apply pw_below_drewN | apply below_drew1) | exact HB.out))) : w.heap.size ≤ gb250)); clear HO_3; clear HB; have HO_3 := n0_; have HB := n1_; have BK250 := n2_; have GW250 := n3_; have GE250 := n4_; clear n0_ n1_ n2_ n3_ n4_; clear hb hbox hg; have hcz17_0 : w16.cell? ⟨gb250, 0, none⟩ = some (.int .i64 0) := (blk_cell BK250.out 0).trans rfl; have hcz17_1 : w16.cell? ⟨gb250, 1, none⟩ = some (.int .i64 0) := (blk_cell BK250.out 1).trans rfl; have hcz17_2 : w16.cell? ⟨gb250, 2, none⟩ = some (.int .i64 0) := (blk_cell BK250.out 2).trans rfl; have hcz17_3 : w16.cell? ⟨gb250, 3, none⟩ = some (.int .i64 0) := (blk_cell BK250.out 3).trans rfl; have hcz17_4 : w16.cell? ⟨gb250, 4, none⟩ = some (.bool false) := (blk_cell BK250.out 4).trans rfl; have hcz17_5 : w16.cell? ⟨gb250, 5, none⟩ = some (.bool false) := (blk_cell BK250.out 5).trans rfl; have hfz17_0 := blk_frozen BK250.out 0; have hfz17_1 := blk_frozen BK250.out 1; have hfz17_2 := blk_frozen BK250.out 2; have hfz17_3 := blk_frozen BK250.out 3; have hfz17_4 := blk_frozen BK250.out 4; have hfz17_5 := blk_frozen BK250.out 5) | ((with_reducible refine gate_store (t := 28) (p := 7) rfl ?_); refine store_event (t := 28) (p := 7) (v := ?vo_w18) (w1 := ((((((w16.setCell ⟨gb250, 0, none⟩ (.int .i64 ((rd_T28 l0 x30_1).f0.f0))).setCell ⟨gb250, 1, none⟩ (.int .i64 ((rd_T28 l0 x30_1).f0.f1))).setCell ⟨gb250, 2, none⟩ (.int .i64 ((rd_T28 l0 x30_1).f0.f2))).setCell ⟨gb250, 3, none⟩ (.int .i64 ((rd_T28 l0 x30_1).f0.f3))).setCell ⟨gb250, 4, none⟩ (.bool true)).setCell ⟨gb250, 5, none⟩ (.bool ((rd_T28 l0 x30_1).f2)))) ?hg ?ho ?hn ?hr ?_; (case ho => rfl); (case hg => rfl); (case hn => rfl); (case hr => first | (go_simp; done) | (go_simp; rfl)); intro w18 hw; have n0_ : Aside0 (Kd.V k26 26 w18 w.heap.size (fun k_ => k_ ≠ gb250) u3 x3_1) := ⟨(by rw [hw]; exact (by (with_reducible repeat (first | apply Kd.V_alloc | apply Kd.V_drewN | apply Kd.V_drew)); exact Kd.V_mono (Kd.V_far (p := ⟨gb250, 5, none⟩) (Kd.V_far (p := ⟨gb250, 4, none⟩) (Kd.V_far (p := ⟨gb250, 3, none⟩) (Kd.V_far (p := ⟨gb250, 2, none⟩) (Kd.V_far (p := ⟨gb250, 1, none⟩) (Kd.V_far (p := ⟨gb250, 0, none⟩) (Kd.V_mono HO_3.out (fun k_ hk => (⟨hk, hk.2⟩ : _ ∧ k_ ≠ gb250))) (fun _ hk => hk.2) (.int .i64 ((rd_T28 l0 x30_1).f0.f0))) (fun _ hk => hk.2) (.int .i64 ((rd_T28 l0 x30_1).f0.f1))) (fun _ hk => hk.2) (.int .i64 ((rd_T28 l0 x30_1).f0.f2))) (fun _ hk => hk.2) (.int .i64 ((rd_T28 l0 x30_1).f0.f3))) (fun _ hk => hk.2) (.bool true)) (fun _ hk => hk.2) (.bool ((rd_T28 l0 x30_1).f2))) (fun _ hk => hk.1.2)))⟩; have n1_ : Aside0 (w18.heap[gb250]? = some (.cells #[.int .i64 ((rd_T28 l0 x30_1).f0.f0), .int .i64 ((rd_T28 l0 x30_1).f0.f1), .int .i64 ((rd_T28 l0 x30_1).f0.f2), .int .i64 ((rd_T28 l0 x30_1).f0.f3), .bool true, .bool ((rd_T28 l0 x30_1).f2)] 28 (0, 0))) := ⟨(by rw [hw]; exact (by (with_reducible repeat (first | refine blk_drewN ?_ _ | refine blk_drew ?_ | refine blk_alloc ?_ _)); refine blk_put (cs := #[.int .i64 ((rd_T28 l0 x30_1).f0.f0), .int .i64 ((rd_T28 l0 x30_1).f0.f1), .int .i64 ((rd_T28 l0 x30_1).f0.f2), .int .i64 ((rd_T28 l0 x30_1).f0.f3), .bool true, .bool false]) ?_ 5 _ rfl; (with_reducible repeat (first | refine blk_drewN ?_ _ | refine blk_drew ?_ | refine blk_alloc ?_ _)); refine blk_put (cs := #[.int .i64 ((rd_T28 l0 x30_1).f0.f0), .int .i64 ((rd_T28 l0 x30_1).f0.f1), .int .i64 ((rd_T28 l0 x30_1).f0.f2), .int .i64 ((rd_T28 l0 x30_1).f0.f3), .bool false, .bool false]) ?_ 4 _ rfl; (with_reducible repeat (first | refine blk_drewN ?_ _ | refine blk_drew ?_ | refine blk_alloc ?_ _)); refine blk_put (cs := #[.int .i64 ((rd_T28 l0 x30_1).f0.f0), .int .i64 ((rd_T28 l0 x30_1).f0.f1), .int .i64 ((rd_T28 l0 x30_1).f0.f2), .int .i64 0, .bool false, .bool false]) ?_ 3 _ rfl; (with_reducible repeat (first | refine blk_drewN ?_ _ | refine blk_drew ?_ | refine blk_alloc ?_ _)); refine blk_put (cs := #[.int .i64 ((rd_T28 l0 x30_1).f0.f0), .int .i64 ((rd_T28 l0 x30_1).f0.f1), .int .i64 0, .int .i64 0, .bool false, .bool false]) ?_ 2 _ rfl; (with_reducible repeat (first | refine blk_drewN ?_ _ | refine blk_drew ?_ | refine blk_alloc ?_ _)); refine blk_put (cs := #[.int .i64 ((rd_T28 l0 x30_1).f0.f0), .int .i64 0, .int .i64 0, .int .i64 0, .bool false, .bool false]) ?_ 1 _ rfl; (with_reducible repeat (first | refine blk_drewN ?_ _ | refine blk_drew ?_ | refine blk_alloc ?_ _)); refine blk_put (cs := #[.int .i64 0, .int .i64 0, .int .i64 0, .int .i64 0, .bool false, .bool false]) ?_ 0 _ rfl; (with_reducible repeat (first | refine blk_drewN ?_ _ | refine blk_drew ?_ | refine blk_alloc ?_ _)); exact BK250.out))⟩; have n2_ : Aside0 (Below w.heap.size w w18) := ⟨(by rw [hw]; exact (by repeat (first | (with_reducible first | exact HB.out | apply below_alloc | apply pw_below_drewN | apply below_drew1 | refine below_set ?_ GE250.out) | exact HB.out)))⟩; clear hw; clear HO_3; clear BK250; clear HB; have HO_3 := n0_; have BK250 := n1_; have HB := n2_; clear n0_ n1_ n2_; have hcz19_0 : w18.cell? ⟨gb250, 0, none⟩ = some (.int .i64 ((rd_T28 l0 x30_1).f0.f0)) := (blk_cell BK250.out 0).trans rfl; have hcz19_1 : w18.cell? ⟨gb250, 1, none⟩ = some (.int .i64 ((rd_T28 l0 x30_1).f0.f1)) := (blk_cell BK250.out 1).trans rfl; have hcz19_2 : w18.cell? ⟨gb250, 2, none⟩ = some (.int .i64 ((rd_T28 l0 x30_1).f0.f2)) := (blk_cell BK250.out 2).trans rfl; have hcz19_3 : w18.cell? ⟨gb250, 3, none⟩ = some (.int .i64 ((rd_T28 l0 x30_1).f0.f3)) := (blk_cell BK250.out 3).trans rfl; have hcz19_4 : w18.cell? ⟨gb250, 4, none⟩ = some (.bool true) := (blk_cell BK250.out 4).trans rfl; have hcz19_5 : w18.cell? ⟨gb250, 5, none⟩ = some (.bool ((rd_T28 l0 x30_1).f2)) := (blk_cell BK250.out 5).trans rfl; have hfz19_0 := blk_frozen BK250.out 0; have hfz19_1 := blk_frozen BK250.out 1; have hfz19_2 := blk_frozen BK250.out 2; have hfz19_3 := blk_frozen BK250.out 3; have hfz19_4 := blk_frozen BK250.out 4; have hfz19_5 := blk_frozen BK250.out 5; obtain ⟨Ao20, co20, eo20⟩ := Kd.V_slice HO_3.out; subst eo20) | ((with_reducible refine gate_callee (f := 9) rfl ?_); refine goesL_ (some 115) rfl rfl Try.func9 (by kernel_rfl) rfl #[.slice Ao20 x3_1.length co20, .int .i64 ((rd_T28 l0 x30_1).f0.f0)] rfl (by (try simp only [List.map_toArray, List.map_cons, List.map_nil]); first | done | rfl | (simp only [List.length_drop, List.length_take]; rfl)) ?_; (with_reducible refine (swap_Leave.calls k1 (fun k_ => k_ ≠ gb250) _ _ x3_1 ((rd_T28 l0 x30_1).f0.f0) t251 t254 t255 t256 t257 t258 _ ?side1 A10.out).mono ?_); (case side1 => exact HO_3.out); rintro e w21 ⟨v252, rfl, ho0, hb⟩; refine ⟨_, rfl, ?_⟩; have n0_ := Aside0.mk (Kd.V_below (by (with_reducible repeat (first | apply Kd.V_alloc | apply Kd.V_drewN | apply Kd.V_drew)); exact HO_3.out) hb); have n1_ := Aside0.mk (Kd.V_lower (Kd.V_mono (ok' := fun k_ => k_ ≠ gb250) ho0 (fun k_ hk_ => Or.elim hk_ (fun hs_ => hs_) (fun hn_ => (Kd.freshB (g := gb250) (o := .cells #[.int .i64 ((rd_T28 l0 x30_1).f0.f0), .int .i64 ((rd_T28 l0 x30_1).f0.f1), .int .i64 ((rd_T28 l0 x30_1).f0.f2), .int .i64 ((rd_T28 l0 x30_1).f0.f3), .bool true, .bool ((rd_T28 l0 x30_1).f2)] 28 (0, 0)) (by (with_reducible repeat (first | refine blk_drewN ?_ _ | refine blk_drew ?_ | refine blk_alloc ?_ _)); exact BK250.out) k_ hn_)))) (below_size (by repeat (first | (with_reducible first | exact HB.out | apply below_alloc | apply pw_below_drewN | apply below_drew1 | refine below_set ?_ GE250.out) | exact HB.out)))); have n2_ := Aside0.mk (blk_below (g := gb250) (o := .cells #[.int .i64 ((rd_T28 l0 x30_1).f0.f0), .int .i64 ((rd_T28 l0 x30_1).f0.f1), .int .i64 ((rd_T28 l0 x30_1).f0.f2), .int .i64 ((rd_T28 l0 x30_1).f0.f3), .bool true, .bool ((rd_T28 l0 x30_1).f2)] 28 (0, 0)) (by (with_reducible repeat (first | refine blk_drewN ?_ _ | refine blk_drew ?_ | refine blk_alloc ?_ _)); exact BK250.out) hb); have n3_ := Aside0.mk (below_step (by repeat (first | (with_reducible first | exact HB.out | apply below_alloc | apply pw_below_drewN | apply below_drew1 | refine below_set ?_ GE250.out) | exact HB.out)) hb); clear HO_3; clear BK250; clear HB; have HO_3 := n0_; have HO253 := n1_; have BK250 := n2_; have HB := n3_; clear n0_ n1_ n2_ n3_; (try clear hb); (try clear hb2); (try clear hk); (try clear hi); (try clear ho0)) | ((with_reducible refine gate_dst (N := 10) rfl ?_); (try (refine gate_guard (by rfl) ?_; dsimp only)); refine box_event ?hg (N := 10) ?hd (cs := #[.int .i64 0, .int .i64 0, .int .i64 0, .int .i64 0]) (t := 26) ?hr ?_; (case hd => rfl); (case hg => rfl); (case hr => first | (go_simp; done) | (go_simp; rfl)); intro gb259 hg w22 hbox hb; have n0_ := Aside0.mk (Kd.V_below (Kd.V_elderB (by (with_reducible repeat (first | apply Kd.V_alloc | apply Kd.V_drewN | apply Kd.V_drew)); exact HO_3.out) gb259 (Nat.le_of_eq hg.symm)) hb); have n1_ := Aside0.mk (Kd.V_below (Kd.V_elderB (by (with_reducible repeat (first | apply Kd.V_alloc | apply Kd.V_drewN | apply Kd.V_drew)); exact HO253.out) gb259 (Nat.le_of_eq hg.symm)) hb); have n2_ := Aside0.mk (blk_below (g := gb250) (o := .cells #[.int .i64 ((rd_T28 l0 x30_1).f0.f0), .int .i64 ((rd_T28 l0 x30_1).f0.f1), .int .i64 ((rd_T28 l0 x30_1).f0.f2), .int .i64 ((rd_T28 l0 x30_1).f0.f3), .bool true, .bool ((rd_T28 l0 x30_1).f2)] 28 (0, 0)) (by (with_reducible repeat (first | refine blk_drewN ?_ _ | refine blk_drew ?_ | refine blk_alloc ?_ _)); exact BK250.out) hb); have n3_ := Aside0.mk (below_step (by repeat (first | (with_reducible first | exact HB.out | apply below_alloc | apply pw_below_drewN | apply below_drew1 | refine below_set ?_ GE250.out) | exact HB.out)) hb); have n4_ := Aside0.mk (hbox); have n5_ := Aside0.mk ((by rw [hg]; exact (below_size (by repeat (first | (with_reducible first | exact HB.out | apply below_alloc | apply pw_below_drewN | apply below_drew1 | refine below_set ?_ GE250.out) | exact HB.out))) : w.heap.size ≤ gb259)); have n6_ := Aside0.mk ((by rw [hg]; exact (below_size (by repeat (first | (with_reducible first | exact HB.out | apply below_alloc | apply pw_below_drewN | apply below_drew1 | refine below_set ?_ GE250.out) | exact HB.out))) : w.heap.size ≤ gb259)); have n7_ := Aside0.mk ((by rw [hg]; exact Nat.ne_of_lt (blk_lt (g := gb250) (o := .cells #[.int .i64 ((rd_T28 l0 x30_1).f0.f0), .int .i64 ((rd_T28 l0 x30_1).f0.f1), .int .i64 ((rd_T28 l0 x30_1).f0.f2), .int .i64 ((rd_T28 l0 x30_1).f0.f3), .bool true, .bool ((rd_T28 l0 x30_1).f2)] 28 (0, 0)) (by (with_reducible repeat (first | refine blk_drewN ?_ _ | refine blk_drew ?_ | refine blk_alloc ?_ _)); exact BK250.out)) : gb250 ≠ gb259)); have n8_ := Aside0.mk ((by rw [hg]; exact Nat.ne_of_gt (blk_lt (g := gb250) (o := .cells #[.int .i64 ((rd_T28 l0 x30_1).f0.f0), .int .i64 ((rd_T28 l0 x30_1).f0.f1), .int .i64 ((rd_T28 l0 x30_1).f0.f2), .int .i64 ((rd_T28 l0 x30_1).f0.f3), .bool true, .bool ((rd_T28 l0 x30_1).f2)] 28 (0, 0)) (by (with_reducible repeat (first | refine blk_drewN ?_ _ | refine blk_drew ?_ | refine blk_alloc ?_ _)); exact BK250.out)) : gb259 ≠ gb250)); clear HO_3; clear HO253; clear BK250; clear HB; have HO_3 := n0_; have HO253 := n1_; have BK250 := n2_; have HB := n3_; have BK259 := n4_; have GW259 := n5_; have GE259 := n6_; have NB250_259 := n7_; have NB259_250 := n8_; clear n0_ n1_ n2_ n3_ n4_ n5_ n6_ n7_ n8_; clear hb hbox hg; have hnb23 := NB259_250.out; have hnc23 := NB250_259.out; have hcz24_0 : w22.cell? ⟨gb259, 0, none⟩ = some (.int .i64 0) := (blk_cell BK259.out 0).trans rfl; have hcz24_1 : w22.cell? ⟨gb259, 1, none⟩ = some (.int .i64 0) := (blk_cell BK259.out 1).trans rfl; have hcz24_2 : w22.cell? ⟨gb259, 2, none⟩ = some (.int .i64 0) := (blk_cell BK259.out 2).trans rfl; have hcz24_3 : w22.cell? ⟨gb259, 3, none⟩ = some (.int .i64 0) := (blk_cell BK259.out 3).trans rfl; have hfz24_0 := blk_frozen BK259.out 0; have hfz24_1 := blk_frozen BK259.out 1; have hfz24_2 := blk_frozen BK259.out 2; have hfz24_3 := blk_frozen BK259.out 3; have hcz25_0 : w22.cell? ⟨gb250, 0, none⟩ = some (.int .i64 ((rd_T28 l0 x30_1).f0.f0)) := (blk_cell BK250.out 0).trans rfl; have hcz25_1 : w22.cell? ⟨gb250, 1, none⟩ = some (.int .i64 ((rd_T28 l0 x30_1).f0.f1)) := (blk_cell BK250.out 1).trans rfl; have hcz25_2 : w22.cell? ⟨gb250, 2, none⟩ = some (.int .i64 ((rd_T28 l0 x30_1).f0.f2)) := (blk_cell BK250.out 2).trans rfl; have hcz25_3 : w22.cell? ⟨gb250, 3, none⟩ = some (.int .i64 ((rd_T28 l0 x30_1).f0.f3)) := (blk_cell BK250.out 3).trans rfl; have hcz25_4 : w22.cell? ⟨gb250, 4, none⟩ = some (.bool true) := (blk_cell BK250.out 4).trans rfl; have hcz25_5 : w22.cell? ⟨gb250, 5, none⟩ = some (.bool ((rd_T28 l0 x30_1).f2)) := (blk_cell BK250.out 5).trans rfl; have hfz25_0 := blk_frozen BK250.out 0; have hfz25_1 := blk_frozen BK250.out 1; have hfz25_2 := blk_frozen BK250.out 2; have hfz25_3 := blk_frozen BK250.out 3; have hfz25_4 := blk_frozen BK250.out 4; have hfz25_5 := blk_frozen BK250.out 5; obtain ⟨Ao26, co26, eo26⟩ := Kd.V_slice HO253.out; subst eo26) | ((with_reducible refine gate_callee (f := 14) rfl ?_); refine goesL_ (some 166) rfl rfl Try.func14 (by kernel_rfl) rfl #[.slice Ao26 t251.length co26] rfl (by (try simp only [List.map_toArray, List.map_cons, List.map_nil]); first | done | rfl | (simp only [List.length_drop, List.length_take]; rfl)) ?_; (with_reducible refine (swap_Right.calls k1 _ _ t251 true _ ?side1 ?side2 A13.out).mono ?_); (case side1 => refine (Kd.V_reads' (e := 26) (base := w.heap.size) (ok := fun k_ => (k_ ≠ gb250 ∧ k_ ≠ gb259)) (n := t251.length) (c := co26) ?_).2.2; exact (by (with_reducible repeat (first | apply Kd.V_alloc | apply Kd.V_drewN | apply Kd.V_drew)); exact (Kd.V_mono (Kd.V_far (p := ⟨gb259, 3, none⟩) (Kd.V_far (p := ⟨gb259, 2, none⟩) (Kd.V_far (p := ⟨gb259, 1, none⟩) (Kd.V_far (p := ⟨gb259, 0, none⟩) (Kd.V_mono HO253.out (fun k_ hk => (⟨hk, hk.2⟩ : _ ∧ k_ ≠ gb259))) (fun _ hk => hk.2) (.int .i64 t254)) (fun _ hk => hk.2) (.int .i64 t255)) (fun _ hk => hk.2) (.int .i64 t256)) (fun _ hk => hk.2) (.int .i64 t257)) (fun _ h_ => h_.1)))); (case side2 => exact (Kd.V_reads' HO253.out).2.1); rintro e w27 ⟨rfl, hb⟩; refine ⟨_, rfl, ?_⟩; have n0_ := Aside0.mk (Kd.V_below (by (with_reducible repeat (first | apply Kd.V_alloc | apply Kd.V_drewN | apply Kd.V_drew)); exact (Kd.V_mono (Kd.V_far (p := ⟨gb259, 3, none⟩) (Kd.V_far (p := ⟨gb259, 2, none⟩) (Kd.V_far (p := ⟨gb259, 1, none⟩) (Kd.V_far (p := ⟨gb259, 0, none⟩) (Kd.V_mono HO_3.out (fun k_ hk => (⟨hk, hk.2⟩ : _ ∧ k_ ≠ gb259))) (fun _ hk => hk.2) (.int .i64 t254)) (fun _ hk => hk.2) (.int .i64 t255)) (fun _ hk => hk.2) (.int .i64 t256)) (fun _ hk => hk.2) (.int .i64 t257)) (fun _ h_ => h_.1))) hb); have n1_ := Aside0.mk (Kd.V_below (by (with_reducible repeat (first | apply Kd.V_alloc | apply Kd.V_drewN | apply Kd.V_drew)); exact (Kd.V_mono (Kd.V_far (p := ⟨gb259, 3, none⟩) (Kd.V_far (p := ⟨gb259, 2, none⟩) (Kd.V_far (p := ⟨gb259, 1, none⟩) (Kd.V_far (p := ⟨gb259, 0, none⟩) (Kd.V_mono HO253.out (fun k_ hk => (⟨hk, hk.2⟩ : _ ∧ k_ ≠ gb259))) (fun _ hk => hk.2) (.int .i64 t254)) (fun _ hk => hk.2) (.int .i64 t255)) (fun _ hk => hk.2) (.int .i64 t256)) (fun _ hk => hk.2) (.int .i64 t257)) (fun _ h_ => h_.1))) hb); have n2_ := Aside0.mk (blk_below (g := gb250) (o := .cells #[.int .i64 ((rd_T28 l0 x30_1).f0.f0), .int .i64 ((rd_T28 l0 x30_1).f0.f1), .int .i64 ((rd_T28 l0 x30_1).f0.f2), .int .i64 ((rd_T28 l0 x30_1).f0.f3), .bool true, .bool ((rd_T28 l0 x30_1).f2)] 28 (0, 0)) (by (with_reducible repeat (first | refine blk_drewN ?_ _ | refine blk_drew ?_ | refine blk_alloc ?_ _)); refine blk_far ?_ NB250_259.out _; (with_reducible repeat (first | refine blk_drewN ?_ _ | refine blk_drew ?_ | refine blk_alloc ?_ _)); refine blk_far ?_ NB250_259.out _; (with_reducible repeat (first | refine blk_drewN ?_ _ | refine blk_drew ?_ | refine blk_alloc ?_ _)); refine blk_far ?_ NB250_259.out _; (with_reducible repeat (first | refine blk_drewN ?_ _ | refine blk_drew ?_ | refine blk_alloc ?_ _)); refine blk_far ?_ NB250_259.out _; (with_reducible repeat (first | refine blk_drewN ?_ _ | refine blk_drew ?_ | refine blk_alloc ?_ _)); exact BK250.out) hb); have n3_ := Aside0.mk (blk_below (g := gb259) (o := .cells #[.int .i64 t254, .int .i64 t255, .int .i64 t256, .int .i64 t257] 26 (0, 0)) (by (with_reducible repeat (first | refine blk_drewN ?_ _ | refine blk_drew ?_ | refine blk_alloc ?_ _)); refine blk_put (cs := #[.int .i64 t254, .int .i64 t255, .int .i64 t256, .int .i64 0]) ?_ 3 _ rfl; (with_reducible repeat (first | refine blk_drewN ?_ _ | refine blk_drew ?_ | refine blk_alloc ?_ _)); refine blk_put (cs := #[.int .i64 t254, .int .i64 t255, .int .i64 0, .int .i64 0]) ?_ 2 _ rfl; (with_reducible repeat (first | refine blk_drewN ?_ _ | refine blk_drew ?_ | refine blk_alloc ?_ _)); refine blk_put (cs := #[.int .i64 t254, .int .i64 0, .int .i64 0, .int .i64 0]) ?_ 1 _ rfl; (with_reducible repeat (first | refine blk_drewN ?_ _ | refine blk_drew ?_ | refine blk_alloc ?_ _)); refine blk_put (cs := #[.int .i64 0, .int .i64 0, .int .i64 0, .int .i64 0]) ?_ 0 _ rfl; (with_reducible repeat (first | refine blk_drewN ?_ _ | refine blk_drew ?_ | refine blk_alloc ?_ _)); exact BK259.out) hb); have n4_ := Aside0.mk (below_step (by repeat (first | (with_reducible first | exact HB.out | apply below_alloc | apply pw_below_drewN | apply below_drew1 | refine below_set ?_ GE250.out | refine below_set ?_ GE259.out) | exact HB.out)) hb); clear HO_3; clear HO253; clear BK250; clear BK259; clear HB; have HO_3 := n0_; have HO253 := n1_; have BK250 := n2_; have BK259 := n3_; have HB := n4_; clear n0_ n1_ n2_ n3_ n4_; (try clear hb); (try clear hb2); (try clear hk); (try clear hi)))
                        go_roundg k1
                        case measure => have := HK1.out; omega
                        case rel => exact ⟨(t251), (x4_1), (wrap64 (x5_1 + 1)), (wrap64 (x30_1 + 1)), (by first | rfl | (simp; done) | (simp [*]; done)), (by first | rfl | (simp; done) | (simp [*]; done)), (by first | rfl | (simp; done) | (simp [*]; done)), H', ⟨by have := HK1.out; omega⟩, ⟨by (with_reducible repeat (first | apply Kd.V_alloc | apply Kd.V_drewN | apply Kd.V_drew)); exact Kd.V_mono HO253.out (fun _ hk => trivial)⟩, ⟨by repeat (first | (with_reducible first | exact HB.out | apply below_alloc | apply pw_below_drewN | apply below_drew1 | refine below_set ?_ GE250.out | refine below_set ?_ GE259.out) | exact HB.out)⟩⟩
                      · rw [if_neg c15] at H
                        exact absurd H (by simp)
                    · replace c14 := Bool.eq_false_iff.mpr c14
                      subst c14
                      have H1 : (none) = some r := by rw [if_neg (show ¬ (false = true) by decide)] at H; exact H
                      clear H
                      have H := H1
                      clear H1
                      exact absurd H (by simp)
                  · rw [if_neg c12] at H
                    exact absurd H (by simp)
                · rw [if_neg c11] at H
                  have c11b0 : (t258 == 0) = false := beq_eq_false_iff_ne.mpr c11
                  have c11b1 : (t258 != 0) = true := bne_iff_ne.mpr c11
                  replace H := Option.bind_eq_some_iff.mp H
                  obtain ⟨t261, A280, H⟩ := H
                  replace H : (if t261 = true then (if x4_1 = (wrap64 (x5_1 + (t251.length : Int))) then (handshakerlaw21_SwapEnds.l0 k1 t251 x4_1 x5_1 l0 (l0.length : Int) (wrap64 (x30_1 + 1))) else (none)) else (none)) = some r := H
                  have A28 := Aside0.mk A280
                  clear A280
                  by_cases c29 : t261 = true
                  · subst c29
                    have H1 : (if x4_1 = (wrap64 (x5_1 + (t251.length : Int))) then (handshakerlaw21_SwapEnds.l0 k1 t251 x4_1 x5_1 l0 (l0.length : Int) (wrap64 (x30_1 + 1))) else (none)) = some r := by rw [if_pos rfl] at H; exact H
                    clear H
                    have H := H1
                    clear H1
                    by_cases c30 : x4_1 = (wrap64 (x5_1 + (t251.length : Int)))
                    · rw [if_pos c30] at H
                      have c30b0 : (x4_1 == (wrap64 (x5_1 + (t251.length : Int)))) = true := beq_iff_eq.mpr c30
                      have c30b1 : (x4_1 != (wrap64 (x5_1 + (t251.length : Int)))) = false := bne_eq_false_iff_eq.mpr c30
                      clear c30
                      have H' := Aside0.mk H
                      clear H
                      have p249 : 0 ≤ (x30_1 : Int) := of_decide_eq_true (by first | (with_reducible assumption) | assumption)
                      have q249 : x30_1 < (l0.length : Int) := of_decide_eq_true (by first | (with_reducible assumption) | assumption)
                      obtain ⟨ad249, e249, hx249_0, hx249_1, hx249_2, hx249_3, hx249_4, hx249_5⟩ := at_T28 HR0.out x30_1 p249 q249
                      (try rw [← Nbq8.out] at hx249_4)
                      (try rw [← Nbq8.out] at hx249_5)
                      cases e249
                      replace hx249_0 := (HB.out.cell (World.block_lt_of_cell? w _ hx249_0)).trans hx249_0
                      replace hx249_1 := (HB.out.cell (World.block_lt_of_cell? w _ hx249_1)).trans hx249_1
                      replace hx249_2 := (HB.out.cell (World.block_lt_of_cell? w _ hx249_2)).trans hx249_2
                      replace hx249_3 := (HB.out.cell (World.block_lt_of_cell? w _ hx249_3)).trans hx249_3
                      replace hx249_4 := (HB.out.cell (World.block_lt_of_cell? w _ hx249_4)).trans hx249_4
                      replace hx249_5 := (HB.out.cell (World.block_lt_of_cell? w _ hx249_5)).trans hx249_5
                      replace p249 := eq_true p249
                      replace q249 := eq_true q249
                      go_wp2_with (first | ((with_reducible refine gate_dst (N := 7) rfl ?_); (try (refine gate_guard (by rfl) ?_; dsimp only)); refine box_event ?hg (N := 7) ?hd (cs := #[.int .i64 0, .int .i64 0, .int .i64 0, .int .i64 0, .bool false, .bool false]) (t := 28) ?hr ?_; (case hd => rfl); (case hg => rfl); (case hr => first | (go_simp; done) | (go_simp; rfl)); intro gb250 hg w31 hbox hb; have n0_ := Aside0.mk (Kd.V_below (Kd.V_elderB (by (with_reducible repeat (first | apply Kd.V_alloc | apply Kd.V_drewN | apply Kd.V_drew)); exact HO_3.out) gb250 (Nat.le_of_eq hg.symm)) hb); have n1_ := Aside0.mk (below_step (by repeat (first | (with_reducible first | exact HB.out | apply below_alloc | apply pw_below_drewN | apply below_drew1) | exact HB.out)) hb); have n2_ := Aside0.mk (hbox); have n3_ := Aside0.mk ((by rw [hg]; exact (below_size (by repeat (first | (with_reducible first | exact HB.out | apply below_alloc | apply pw_below_drewN | apply below_drew1) | exact HB.out))) : w.heap.size ≤ gb250)); have n4_ := Aside0.mk ((by rw [hg]; exact (below_size (by repeat (first | (with_reducible first | exact HB.out | apply below_alloc | apply pw_below_drewN | apply below_drew1) | exact HB.out))) : w.heap.size ≤ gb250)); clear HO_3; clear HB; have HO_3 := n0_; have HB := n1_; have BK250 := n2_; have GW250 := n3_; have GE250 := n4_; clear n0_ n1_ n2_ n3_ n4_; clear hb hbox hg; have hcz32_0 : w31.cell? ⟨gb250, 0, none⟩ = some (.int .i64 0) := (blk_cell BK250.out 0).trans rfl; have hcz32_1 : w31.cell? ⟨gb250, 1, none⟩ = some (.int .i64 0) := (blk_cell BK250.out 1).trans rfl; have hcz32_2 : w31.cell? ⟨gb250, 2, none⟩ = some (.int .i64 0) := (blk_cell BK250.out 2).trans rfl; have hcz32_3 : w31.cell? ⟨gb250, 3, none⟩ = some (.int .i64 0) := (blk_cell BK250.out 3).trans rfl; have hcz32_4 : w31.cell? ⟨gb250, 4, none⟩ = some (.bool false) := (blk_cell BK250.out 4).trans rfl; have hcz32_5 : w31.cell? ⟨gb250, 5, none⟩ = some (.bool false) := (blk_cell BK250.out 5).trans rfl; have hfz32_0 := blk_frozen BK250.out 0; have hfz32_1 := blk_frozen BK250.out 1; have hfz32_2 := blk_frozen BK250.out 2; have hfz32_3 := blk_frozen BK250.out 3; have hfz32_4 := blk_frozen BK250.out 4; have hfz32_5 := blk_frozen BK250.out 5) | ((with_reducible refine gate_store (t := 28) (p := 7) rfl ?_); refine store_event (t := 28) (p := 7) (v := ?vo_w33) (w1 := ((((((w31.setCell ⟨gb250, 0, none⟩ (.int .i64 ((rd_T28 l0 x30_1).f0.f0))).setCell ⟨gb250, 1, none⟩ (.int .i64 ((rd_T28 l0 x30_1).f0.f1))).setCell ⟨gb250, 2, none⟩ (.int .i64 ((rd_T28 l0 x30_1).f0.f2))).setCell ⟨gb250, 3, none⟩ (.int .i64 ((rd_T28 l0 x30_1).f0.f3))).setCell ⟨gb250, 4, none⟩ (.bool true)).setCell ⟨gb250, 5, none⟩ (.bool ((rd_T28 l0 x30_1).f2)))) ?hg ?ho ?hn ?hr ?_; (case ho => rfl); (case hg => rfl); (case hn => rfl); (case hr => first | (go_simp; done) | (go_simp; rfl)); intro w33 hw; have n0_ : Aside0 (Kd.V k26 26 w33 w.heap.size (fun k_ => k_ ≠ gb250) u3 x3_1) := ⟨(by rw [hw]; exact (by (with_reducible repeat (first | apply Kd.V_alloc | apply Kd.V_drewN | apply Kd.V_drew)); exact Kd.V_mono (Kd.V_far (p := ⟨gb250, 5, none⟩) (Kd.V_far (p := ⟨gb250, 4, none⟩) (Kd.V_far (p := ⟨gb250, 3, none⟩) (Kd.V_far (p := ⟨gb250, 2, none⟩) (Kd.V_far (p := ⟨gb250, 1, none⟩) (Kd.V_far (p := ⟨gb250, 0, none⟩) (Kd.V_mono HO_3.out (fun k_ hk => (⟨hk, hk.2⟩ : _ ∧ k_ ≠ gb250))) (fun _ hk => hk.2) (.int .i64 ((rd_T28 l0 x30_1).f0.f0))) (fun _ hk => hk.2) (.int .i64 ((rd_T28 l0 x30_1).f0.f1))) (fun _ hk => hk.2) (.int .i64 ((rd_T28 l0 x30_1).f0.f2))) (fun _ hk => hk.2) (.int .i64 ((rd_T28 l0 x30_1).f0.f3))) (fun _ hk => hk.2) (.bool true)) (fun _ hk => hk.2) (.bool ((rd_T28 l0 x30_1).f2))) (fun _ hk => hk.1.2)))⟩; have n1_ : Aside0 (w33.heap[gb250]? = some (.cells #[.int .i64 ((rd_T28 l0 x30_1).f0.f0), .int .i64 ((rd_T28 l0 x30_1).f0.f1), .int .i64 ((rd_T28 l0 x30_1).f0.f2), .int .i64 ((rd_T28 l0 x30_1).f0.f3), .bool true, .bool ((rd_T28 l0 x30_1).f2)] 28 (0, 0))) := ⟨(by rw [hw]; exact (by (with_reducible repeat (first | refine blk_drewN ?_ _ | refine blk_drew ?_ | refine blk_alloc ?_ _)); refine blk_put (cs := #[.int .i64 ((rd_T28 l0 x30_1).f0.f0), .int .i64 ((rd_T28 l0 x30_1).f0.f1), .int .i64 ((rd_T28 l0 x30_1).f0.f2), .int .i64 ((rd_T28 l0 x30_1).f0.f3), .bool true, .bool false]) ?_ 5 _ rfl; (with_reducible repeat (first | refine blk_drewN ?_ _ | refine blk_drew ?_ | refine blk_alloc ?_ _)); refine blk_put (cs := #[.int .i64 ((rd_T28 l0 x30_1).f0.f0), .int .i64 ((rd_T28 l0 x30_1).f0.f1), .int .i64 ((rd_T28 l0 x30_1).f0.f2), .int .i64 ((rd_T28 l0 x30_1).f0.f3), .bool false, .bool false]) ?_ 4 _ rfl; (with_reducible repeat (first | refine blk_drewN ?_ _ | refine blk_drew ?_ | refine blk_alloc ?_ _)); refine blk_put (cs := #[.int .i64 ((rd_T28 l0 x30_1).f0.f0), .int .i64 ((rd_T28 l0 x30_1).f0.f1), .int .i64 ((rd_T28 l0 x30_1).f0.f2), .int .i64 0, .bool false, .bool false]) ?_ 3 _ rfl; (with_reducible repeat (first | refine blk_drewN ?_ _ | refine blk_drew ?_ | refine blk_alloc ?_ _)); refine blk_put (cs := #[.int .i64 ((rd_T28 l0 x30_1).f0.f0), .int .i64 ((rd_T28 l0 x30_1).f0.f1), .int .i64 0, .int .i64 0, .bool false, .bool false]) ?_ 2 _ rfl; (with_reducible repeat (first | refine blk_drewN ?_ _ | refine blk_drew ?_ | refine blk_alloc ?_ _)); refine blk_put (cs := #[.int .i64 ((rd_T28 l0 x30_1).f0.f0), .int .i64 0, .int .i64 0, .int .i64 0, .bool false, .bool false]) ?_ 1 _ rfl; (with_reducible repeat (first | refine blk_drewN ?_ _ | refine blk_drew ?_ | refine blk_alloc ?_ _)); refine blk_put (cs := #[.int .i64 0, .int .i64 0, .int .i64 0, .int .i64 0, .bool false, .bool false]) ?_ 0 _ rfl; (with_reducible repeat (first | refine blk_drewN ?_ _ | refine blk_drew ?_ | refine blk_alloc ?_ _)); exact BK250.out))⟩; have n2_ : Aside0 (Below w.heap.size w w33) := ⟨(by rw [hw]; exact (by repeat (first | (with_reducible first | exact HB.out | apply below_alloc | apply pw_below_drewN | apply below_drew1 | refine below_set ?_ GE250.out) | exact HB.out)))⟩; clear hw; clear HO_3; clear BK250; clear HB; have HO_3 := n0_; have BK250 := n1_; have HB := n2_; clear n0_ n1_ n2_; have hcz34_0 : w33.cell? ⟨gb250, 0, none⟩ = some (.int .i64 ((rd_T28 l0 x30_1).f0.f0)) := (blk_cell BK250.out 0).trans rfl; have hcz34_1 : w33.cell? ⟨gb250, 1, none⟩ = some (.int .i64 ((rd_T28 l0 x30_1).f0.f1)) := (blk_cell BK250.out 1).trans rfl; have hcz34_2 : w33.cell? ⟨gb250, 2, none⟩ = some (.int .i64 ((rd_T28 l0 x30_1).f0.f2)) := (blk_cell BK250.out 2).trans rfl; have hcz34_3 : w33.cell? ⟨gb250, 3, none⟩ = some (.int .i64 ((rd_T28 l0 x30_1).f0.f3)) := (blk_cell BK250.out 3).trans rfl; have hcz34_4 : w33.cell? ⟨gb250, 4, none⟩ = some (.bool true) := (blk_cell BK250.out 4).trans rfl; have hcz34_5 : w33.cell? ⟨gb250, 5, none⟩ = some (.bool ((rd_T28 l0 x30_1).f2)) := (blk_cell BK250.out 5).trans rfl; have hfz34_0 := blk_frozen BK250.out 0; have hfz34_1 := blk_frozen BK250.out 1; have hfz34_2 := blk_frozen BK250.out 2; have hfz34_3 := blk_frozen BK250.out 3; have hfz34_4 := blk_frozen BK250.out 4; have hfz34_5 := blk_frozen BK250.out 5; obtain ⟨Ao35, co35, eo35⟩ := Kd.V_slice HO_3.out; subst eo35) | ((with_reducible refine gate_callee (f := 9) rfl ?_); refine goesL_ (some 115) rfl rfl Try.func9 (by kernel_rfl) rfl #[.slice Ao35 x3_1.length co35, .int .i64 ((rd_T28 l0 x30_1).f0.f0)] rfl (by (try simp only [List.map_toArray, List.map_cons, List.map_nil]); first | done | rfl | (simp only [List.length_drop, List.length_take]; rfl)) ?_; (with_reducible refine (swap_Leave.calls k1 (fun k_ => k_ ≠ gb250) _ _ x3_1 ((rd_T28 l0 x30_1).f0.f0) t251 t254 t255 t256 t257 t258 _ ?side1 A10.out).mono ?_); (case side1 => exact HO_3.out); rintro e w36 ⟨v252, rfl, ho0, hb⟩; refine ⟨_, rfl, ?_⟩; have n0_ := Aside0.mk (Kd.V_below (by (with_reducible repeat (first | apply Kd.V_alloc | apply Kd.V_drewN | apply Kd.V_drew)); exact HO_3.out) hb); have n1_ := Aside0.mk (Kd.V_lower (Kd.V_mono (ok' := fun k_ => k_ ≠ gb250) ho0 (fun k_ hk_ => Or.elim hk_ (fun hs_ => hs_) (fun hn_ => (Kd.freshB (g := gb250) (o := .cells #[.int .i64 ((rd_T28 l0 x30_1).f0.f0), .int .i64 ((rd_T28 l0 x30_1).f0.f1), .int .i64 ((rd_T28 l0 x30_1).f0.f2), .int .i64 ((rd_T28 l0 x30_1).f0.f3), .bool true, .bool ((rd_T28 l0 x30_1).f2)] 28 (0, 0)) (by (with_reducible repeat (first | refine blk_drewN ?_ _ | refine blk_drew ?_ | refine blk_alloc ?_ _)); exact BK250.out) k_ hn_)))) (below_size (by repeat (first | (with_reducible first | exact HB.out | apply below_alloc | apply pw_below_drewN | apply below_drew1 | refine below_set ?_ GE250.out) | exact HB.out)))); have n2_ := Aside0.mk (blk_below (g := gb250) (o := .cells #[.int .i64 ((rd_T28 l0 x30_1).f0.f0), .int .i64 ((rd_T28 l0 x30_1).f0.f1), .int .i64 ((rd_T28 l0 x30_1).f0.f2), .int .i64 ((rd_T28 l0 x30_1).f0.f3), .bool true, .bool ((rd_T28 l0 x30_1).f2)] 28 (0, 0)) (by (with_reducible repeat (first | refine blk_drewN ?_ _ | refine blk_drew ?_ | refine blk_alloc ?_ _)); exact BK250.out) hb); have n3_ := Aside0.mk (below_step (by repeat (first | (with_reducible first | exact HB.out | apply below_alloc | apply pw_below_drewN | apply below_drew1 | refine below_set ?_ GE250.out) | exact HB.out)) hb); clear HO_3; clear BK250; clear HB; have HO_3 := n0_; have HO253 := n1_; have BK250 := n2_; have HB := n3_; clear n0_ n1_ n2_ n3_; (try clear hb); (try clear hb2); (try clear hk); (try clear hi); (try clear ho0)) | ((with_reducible refine gate_dst (N := 10) rfl ?_); (try (refine gate_guard (by rfl) ?_; dsimp only)); refine box_event ?hg (N := 10) ?hd (cs := #[.int .i64 0, .int .i64 0, .int .i64 0, .int .i64 0]) (t := 26) ?hr ?_; (case hd => rfl); (case hg => rfl); (case hr => first | (go_simp; done) | (go_simp; rfl)); intro gb259 hg w37 hbox hb; have n0_ := Aside0.mk (Kd.V_below (Kd.V_elderB (by (with_reducible repeat (first | apply Kd.V_alloc | apply Kd.V_drewN | apply Kd.V_drew)); exact HO_3.out) gb259 (Nat.le_of_eq hg.symm)) hb); have n1_ := Aside0.mk (Kd.V_below (Kd.V_elderB (by (with_reducible repeat (first | apply Kd.V_alloc | apply Kd.V_drewN | apply Kd.V_drew)); exact HO253.out) gb259 (Nat.le_of_eq hg.symm)) hb); have n2_ := Aside0.mk (blk_below (g := gb250) (o := .cells #[.int .i64 ((rd_T28 l0 x30_1).f0.f0), .int .i64 ((rd_T28 l0 x30_1).f0.f1), .int .i64 ((rd_T28 l0 x30_1).f0.f2), .int .i64 ((rd_T28 l0 x30_1).f0.f3), .bool true, .bool ((rd_T28 l0 x30_1).f2)] 28 (0, 0)) (by (with_reducible repeat (first | refine blk_drewN ?_ _ | refine blk_drew ?_ | refine blk_alloc ?_ _)); exact BK250.out) hb); have n3_ := Aside0.mk (below_step (by repeat (first | (with_reducible first | exact HB.out | apply below_alloc | apply pw_below_drewN | apply below_drew1 | refine below_set ?_ GE250.out) | exact HB.out)) hb); have n4_ := Aside0.mk (hbox); have n5_ := Aside0.mk ((by rw [hg]; exact (below_size (by repeat (first | (with_reducible first | exact HB.out | apply below_alloc | apply pw_below_drewN | apply below_drew1 | refine below_set ?_ GE250.out) | exact HB.out))) : w.heap.size ≤ gb259)); have n6_ := Aside0.mk ((by rw [hg]; exact (below_size (by repeat (first | (with_reducible first | exact HB.out | apply below_alloc | apply pw_below_drewN | apply below_drew1 | refine below_set ?_ GE250.out) | exact HB.out))) : w.heap.size ≤ gb259)); have n7_ := Aside0.mk ((by rw [hg]; exact Nat.ne_of_lt (blk_lt (g := gb250) (o := .cells #[.int .i64 ((rd_T28 l0 x30_1).f0.f0), .int .i64 ((rd_T28 l0 x30_1).f0.f1), .int .i64 ((rd_T28 l0 x30_1).f0.f2), .int .i64 ((rd_T28 l0 x30_1).f0.f3), .bool true, .bool ((rd_T28 l0 x30_1).f2)] 28 (0, 0)) (by (with_reducible repeat (first | refine blk_drewN ?_ _ | refine blk_drew ?_ | refine blk_alloc ?_ _)); exact BK250.out)) : gb250 ≠ gb259)); have n8_ := Aside0.mk ((by rw [hg]; exact Nat.ne_of_gt (blk_lt (g := gb250) (o := .cells #[.int .i64 ((rd_T28 l0 x30_1).f0.f0), .int .i64 ((rd_T28 l0 x30_1).f0.f1), .int .i64 ((rd_T28 l0 x30_1).f0.f2), .int .i64 ((rd_T28 l0 x30_1).f0.f3), .bool true, .bool ((rd_T28 l0 x30_1).f2)] 28 (0, 0)) (by (with_reducible repeat (first | refine blk_drewN ?_ _ | refine blk_drew ?_ | refine blk_alloc ?_ _)); exact BK250.out)) : gb259 ≠ gb250)); clear HO_3; clear HO253; clear BK250; clear HB; have HO_3 := n0_; have HO253 := n1_; have BK250 := n2_; have HB := n3_; have BK259 := n4_; have GW259 := n5_; have GE259 := n6_; have NB250_259 := n7_; have NB259_250 := n8_; clear n0_ n1_ n2_ n3_ n4_ n5_ n6_ n7_ n8_; clear hb hbox hg; have hnb38 := NB259_250.out; have hnc38 := NB250_259.out; have hcz39_0 : w37.cell? ⟨gb259, 0, none⟩ = some (.int .i64 0) := (blk_cell BK259.out 0).trans rfl; have hcz39_1 : w37.cell? ⟨gb259, 1, none⟩ = some (.int .i64 0) := (blk_cell BK259.out 1).trans rfl; have hcz39_2 : w37.cell? ⟨gb259, 2, none⟩ = some (.int .i64 0) := (blk_cell BK259.out 2).trans rfl; have hcz39_3 : w37.cell? ⟨gb259, 3, none⟩ = some (.int .i64 0) := (blk_cell BK259.out 3).trans rfl; have hfz39_0 := blk_frozen BK259.out 0; have hfz39_1 := blk_frozen BK259.out 1; have hfz39_2 := blk_frozen BK259.out 2; have hfz39_3 := blk_frozen BK259.out 3; obtain ⟨Ao40, co40, eo40⟩ := Kd.V_slice HO253.out; subst eo40) | ((with_reducible refine gate_callee (f := 14) rfl ?_); refine goesL_ (some 166) rfl rfl Try.func14 (by kernel_rfl) rfl #[.slice Ao40 t251.length co40] rfl (by (try simp only [List.map_toArray, List.map_cons, List.map_nil]); first | done | rfl | (simp only [List.length_drop, List.length_take]; rfl)) ?_; (with_reducible refine (swap_Right.calls k1 _ _ t251 true _ ?side1 ?side2 A28.out).mono ?_); (case side1 => refine (Kd.V_reads' (e := 26) (base := w.heap.size) (ok := fun k_ => (k_ ≠ gb250 ∧ k_ ≠ gb259)) (n := t251.length) (c := co40) ?_).2.2; exact (by (with_reducible repeat (first | apply Kd.V_alloc | apply Kd.V_drewN | apply Kd.V_drew)); exact (Kd.V_mono (Kd.V_far (p := ⟨gb259, 3, none⟩) (Kd.V_far (p := ⟨gb259, 2, none⟩) (Kd.V_far (p := ⟨gb259, 1, none⟩) (Kd.V_far (p := ⟨gb259, 0, none⟩) (Kd.V_mono HO253.out (fun k_ hk => (⟨hk, hk.2⟩ : _ ∧ k_ ≠ gb259))) (fun _ hk => hk.2) (.int .i64 t254)) (fun _ hk => hk.2) (.int .i64 t255)) (fun _ hk => hk.2) (.int .i64 t256)) (fun _ hk => hk.2) (.int .i64 t257)) (fun _ h_ => h_.1)))); (case side2 => exact (Kd.V_reads' HO253.out).2.1); rintro e w41 ⟨rfl, hb⟩; refine ⟨_, rfl, ?_⟩; have n0_ := Aside0.mk (Kd.V_below (by (with_reducible repeat (first | apply Kd.V_alloc | apply Kd.V_drewN | apply Kd.V_drew)); exact (Kd.V_mono (Kd.V_far (p := ⟨gb259, 3, none⟩) (Kd.V_far (p := ⟨gb259, 2, none⟩) (Kd.V_far (p := ⟨gb259, 1, none⟩) (Kd.V_far (p := ⟨gb259, 0, none⟩) (Kd.V_mono HO_3.out (fun k_ hk => (⟨hk, hk.2⟩ : _ ∧ k_ ≠ gb259))) (fun _ hk => hk.2) (.int .i64 t254)) (fun _ hk => hk.2) (.int .i64 t255)) (fun _ hk => hk.2) (.int .i64 t256)) (fun _ hk => hk.2) (.int .i64 t257)) (fun _ h_ => h_.1))) hb); have n1_ := Aside0.mk (Kd.V_below (by (with_reducible repeat (first | apply Kd.V_alloc | apply Kd.V_drewN | apply Kd.V_drew)); exact (Kd.V_mono (Kd.V_far (p := ⟨gb259, 3, none⟩) (Kd.V_far (p := ⟨gb259, 2, none⟩) (Kd.V_far (p := ⟨gb259, 1, none⟩) (Kd.V_far (p := ⟨gb259, 0, none⟩) (Kd.V_mono HO253.out (fun k_ hk => (⟨hk, hk.2⟩ : _ ∧ k_ ≠ gb259))) (fun _ hk => hk.2) (.int .i64 t254)) (fun _ hk => hk.2) (.int .i64 t255)) (fun _ hk => hk.2) (.int .i64 t256)) (fun _ hk => hk.2) (.int .i64 t257)) (fun _ h_ => h_.1))) hb); have n2_ := Aside0.mk (blk_below (g := gb250) (o := .cells #[.int .i64 ((rd_T28 l0 x30_1).f0.f0), .int .i64 ((rd_T28 l0 x30_1).f0.f1), .int .i64 ((rd_T28 l0 x30_1).f0.f2), .int .i64 ((rd_T28 l0 x30_1).f0.f3), .bool true, .bool ((rd_T28 l0 x30_1).f2)] 28 (0, 0)) (by (with_reducible repeat (first | refine blk_drewN ?_ _ | refine blk_drew ?_ | refine blk_alloc ?_ _)); refine blk_far ?_ NB250_259.out _; (with_reducible repeat (first | refine blk_drewN ?_ _ | refine blk_drew ?_ | refine blk_alloc ?_ _)); refine blk_far ?_ NB250_259.out _; (with_reducible repeat (first | refine blk_drewN ?_ _ | refine blk_drew ?_ | refine blk_alloc ?_ _)); refine blk_far ?_ NB250_259.out _; (with_reducible repeat (first | refine blk_drewN ?_ _ | refine blk_drew ?_ | refine blk_alloc ?_ _)); refine blk_far ?_ NB250_259.out _; (with_reducible repeat (first | refine blk_drewN ?_ _ | refine blk_drew ?_ | refine blk_alloc ?_ _)); exact BK250.out) hb); have n3_ := Aside0.mk (blk_below (g := gb259) (o := .cells #[.int .i64 t254, .int .i64 t255, .int .i64 t256, .int .i64 t257] 26 (0, 0)) (by (with_reducible repeat (first | refine blk_drewN ?_ _ | refine blk_drew ?_ | refine blk_alloc ?_ _)); refine blk_put (cs := #[.int .i64 t254, .int .i64 t255, .int .i64 t256, .int .i64 0]) ?_ 3 _ rfl; (with_reducible repeat (first | refine blk_drewN ?_ _ | refine blk_drew ?_ | refine blk_alloc ?_ _)); refine blk_put (cs := #[.int .i64 t254, .int .i64 t255, .int .i64 0, .int .i64 0]) ?_ 2 _ rfl; (with_reducible repeat (first | refine blk_drewN ?_ _ | refine blk_drew ?_ | refine blk_alloc ?_ _)); refine blk_put (cs := #[.int .i64 t254, .int .i64 0, .int .i64 0, .int .i64 0]) ?_ 1 _ rfl; (with_reducible repeat (first | refine blk_drewN ?_ _ | refine blk_drew ?_ | refine blk_alloc ?_ _)); refine blk_put (cs := #[.int .i64 0, .int .i64 0, .int .i64 0, .int .i64 0]) ?_ 0 _ rfl; (with_reducible repeat (first | refine blk_drewN ?_ _ | refine blk_drew ?_ | refine blk_alloc ?_ _)); exact BK259.out) hb); have n4_ := Aside0.mk (below_step (by repeat (first | (with_reducible first | exact HB.out | apply below_alloc | apply pw_below_drewN | apply below_drew1 | refine below_set ?_ GE250.out | refine below_set ?_ GE259.out) | exact HB.out)) hb); clear HO_3; clear HO253; clear BK250; clear BK259; clear HB; have HO_3 := n0_; have HO253 := n1_; have BK250 := n2_; have BK259 := n3_; have HB := n4_; clear n0_ n1_ n2_ n3_ n4_; (try clear hb); (try clear hb2); (try clear hk); (try clear hi)))
                      go_roundg k1
                      case measure => have := HK1.out; omega
                      case rel => exact ⟨(t251), (x4_1), (x5_1), (wrap64 (x30_1 + 1)), (by first | rfl | (simp; done) | (simp [*]; done)), (by first | rfl | (simp; done) | (simp [*]; done)), (by first | rfl | (simp; done) | (simp [*]; done)), H', ⟨by have := HK1.out; omega⟩, ⟨by (with_reducible repeat (first | apply Kd.V_alloc | apply Kd.V_drewN | apply Kd.V_drew)); exact Kd.V_mono HO253.out (fun _ hk => trivial)⟩, ⟨by repeat (first | (with_reducible first | exact HB.out | apply below_alloc | apply pw_below_drewN | apply below_drew1 | refine below_set ?_ GE250.out | refine below_set ?_ GE259.out) | exact HB.out)⟩⟩
                    · rw [if_neg c30] at H
                      exact absurd H (by simp)
                  · replace c29 := Bool.eq_false_iff.mpr c29
                    subst c29
                    have H1 : (none) = some r := by rw [if_neg (show ¬ (false = true) by decide)] at H; exact H
                    clear H
                    have H := H1
                    clear H1
                    exact absurd H (by simp)
              · replace c9 := Bool.eq_false_iff.mpr c9
                subst c9
                have H1 : (if (rd_T28 l0 x30_1).f2 = true then ((swap_Late.f k1 x3_1 ((rd_T28 l0 x30_1).f0.f3)).bind fun bt262 => (handshakerlaw21_SwapEnds.l1 k1 x4_1 x5_1 bt262.1 bt262.2 l0 (l0.length : Int) x30_1 bt262.2 (bt262.2.length : Int) 0 ((rd_T28 l0 x30_1).f0.f0) ((rd_T28 l0 x30_1).f0.f1) ((rd_T28 l0 x30_1).f0.f2) ((rd_T28 l0 x30_1).f0.f3) false ((rd_T28 l0 x30_1).f2))) else ((swap_Put.f k1 x3_1 ((rd_T28 l0 x30_1).f0.f0) ((rd_T28 l0 x30_1).f0.f1) ((rd_T28 l0 x30_1).f0.f2) ((rd_T28 l0 x30_1).f0.f3)).bind fun bt271 => (if bt271.2.2.2.2.2.2.2.2.2.2 = 0 then (handshakerlaw21_SwapEnds.j2 k1 (wrap64 (x4_1 + 1)) x5_1 bt271.1 bt271.2.2.2.2.2.2.2.2.2.1 bt271.2.2.2.2.2.2.2.2.2.2 l0 (l0.length : Int) x30_1 ((rd_T28 l0 x30_1).f0.f0) ((rd_T28 l0 x30_1).f0.f1) ((rd_T28 l0 x30_1).f0.f2) ((rd_T28 l0 x30_1).f0.f3) false ((rd_T28 l0 x30_1).f2) bt271.2.1 bt271.2.2.1 bt271.2.2.2.1 bt271.2.2.2.2.1 bt271.2.2.2.2.2.1 bt271.2.2.2.2.2.2.1 bt271.2.2.2.2.2.2.2.1 bt271.2.2.2.2.2.2.2.2.1) else (handshakerlaw21_SwapEnds.j2 k1 x4_1 x5_1 bt271.1 bt271.2.2.2.2.2.2.2.2.2.1 bt271.2.2.2.2.2.2.2.2.2.2 l0 (l0.length : Int) x30_1 ((rd_T28 l0 x30_1).f0.f0) ((rd_T28 l0 x30_1).f0.f1) ((rd_T28 l0 x30_1).f0.f2) ((rd_T28 l0 x30_1).f0.f3) false ((rd_T28 l0 x30_1).f2) bt271.2.1 bt271.2.2.1 bt271.2.2.2.1 bt271.2.2.2.2.1 bt271.2.2.2.2.2.1 bt271.2.2.2.2.2.2.1 bt271.2.2.2.2.2.2.2.1 bt271.2.2.2.2.2.2.2.2.1)))) = some r := by rw [if_neg (show ¬ (false = true) by decide)] at H; exact H
                clear H
                have H := H1
                clear H1
                obtain ⟨bq42, hbq42⟩ : ∃ b_ : Bool, b_ = ((rd_T28 l0 x30_1).f2) := ⟨_, rfl⟩
                replace H : (if bq42 = true then ((swap_Late.f k1 x3_1 ((rd_T28 l0 x30_1).f0.f3)).bind fun bt262 => (handshakerlaw21_SwapEnds.l1 k1 x4_1 x5_1 bt262.1 bt262.2 l0 (l0.length : Int) x30_1 bt262.2 (bt262.2.length : Int) 0 ((rd_T28 l0 x30_1).f0.f0) ((rd_T28 l0 x30_1).f0.f1) ((rd_T28 l0 x30_1).f0.f2) ((rd_T28 l0 x30_1).f0.f3) false bq42)) else ((swap_Put.f k1 x3_1 ((rd_T28 l0 x30_1).f0.f0) ((rd_T28 l0 x30_1).f0.f1) ((rd_T28 l0 x30_1).f0.f2) ((rd_T28 l0 x30_1).f0.f3)).bind fun bt271 => (if bt271.2.2.2.2.2.2.2.2.2.2 = 0 then (handshakerlaw21_SwapEnds.j2 k1 (wrap64 (x4_1 + 1)) x5_1 bt271.1 bt271.2.2.2.2.2.2.2.2.2.1 bt271.2.2.2.2.2.2.2.2.2.2 l0 (l0.length : Int) x30_1 ((rd_T28 l0 x30_1).f0.f0) ((rd_T28 l0 x30_1).f0.f1) ((rd_T28 l0 x30_1).f0.f2) ((rd_T28 l0 x30_1).f0.f3) false bq42 bt271.2.1 bt271.2.2.1 bt271.2.2.2.1 bt271.2.2.2.2.1 bt271.2.2.2.2.2.1 bt271.2.2.2.2.2.2.1 bt271.2.2.2.2.2.2.2.1 bt271.2.2.2.2.2.2.2.2.1) else (handshakerlaw21_SwapEnds.j2 k1 x4_1 x5_1 bt271.1 bt271.2.2.2.2.2.2.2.2.2.1 bt271.2.2.2.2.2.2.2.2.2.2 l0 (l0.length : Int) x30_1 ((rd_T28 l0 x30_1).f0.f0) ((rd_T28 l0 x30_1).f0.f1) ((rd_T28 l0 x30_1).f0.f2) ((rd_T28 l0 x30_1).f0.f3) false bq42 bt271.2.1 bt271.2.2.1 bt271.2.2.2.1 bt271.2.2.2.2.1 bt271.2.2.2.2.2.1 bt271.2.2.2.2.2.2.1 bt271.2.2.2.2.2.2.2.1 bt271.2.2.2.2.2.2.2.2.1)))) = some r := by rw [← hbq42] at H; exact H
                have Nbq42 := Aside0.mk hbq42
                clear hbq42
                by_cases c43 : bq42 = true
                · subst c43
                  have H1 : ((swap_Late.f k1 x3_1 ((rd_T28 l0 x30_1).f0.f3)).bind fun bt262 => (handshakerlaw21_SwapEnds.l1 k1 x4_1 x5_1 bt262.1 bt262.2 l0 (l0.length : Int) x30_1 bt262.2 (bt262.2.length : Int) 0 ((rd_T28 l0 x30_1).f0.f0) ((rd_T28 l0 x30_1).f0.f1) ((rd_T28 l0 x30_1).f0.f2) ((rd_T28 l0 x30_1).f0.f3) false true)) = some r := by rw [if_pos rfl] at H; exact H
                  clear H
                  have H := H1
                  clear H1
                  replace H := Option.bind_eq_some_iff.mp H
                  obtain ⟨⟨t262, t265⟩, A440, H⟩ := H
                  replace H : (handshakerlaw21_SwapEnds.l1 k1 x4_1 x5_1 t262 t265 l0 (l0.length : Int) x30_1 t265 (t265.length : Int) 0 ((rd_T28 l0 x30_1).f0.f0) ((rd_T28 l0 x30_1).f0.f1) ((rd_T28 l0 x30_1).f0.f2) ((rd_T28 l0 x30_1).f0.f3) false true) = some r := H
                  have A44 := Aside0.mk A440
                  clear A440
                  have H' := Aside0.mk H
                  clear H
                  have p249 : 0 ≤ (x30_1 : Int) := of_decide_eq_true (by first | (with_reducible assumption) | assumption)
                  have q249 : x30_1 < (l0.length : Int) := of_decide_eq_true (by first | (with_reducible assumption) | assumption)
                  obtain ⟨ad249, e249, hx249_0, hx249_1, hx249_2, hx249_3, hx249_4, hx249_5⟩ := at_T28 HR0.out x30_1 p249 q249
                  (try rw [← Nbq8.out] at hx249_4)
                  (try rw [← Nbq42.out] at hx249_4)
                  (try rw [← Nbq8.out] at hx249_5)
                  (try rw [← Nbq42.out] at hx249_5)
                  cases e249
                  replace hx249_0 := (HB.out.cell (World.block_lt_of_cell? w _ hx249_0)).trans hx249_0
                  replace hx249_1 := (HB.out.cell (World.block_lt_of_cell? w _ hx249_1)).trans hx249_1
                  replace hx249_2 := (HB.out.cell (World.block_lt_of_cell? w _ hx249_2)).trans hx249_2
                  replace hx249_3 := (HB.out.cell (World.block_lt_of_cell? w _ hx249_3)).trans hx249_3
                  replace hx249_4 := (HB.out.cell (World.block_lt_of_cell? w _ hx249_4)).trans hx249_4
                  replace hx249_5 := (HB.out.cell (World.block_lt_of_cell? w _ hx249_5)).trans hx249_5
                  replace p249 := eq_true p249
                  replace q249 := eq_true q249
                  go_wp2_with (first | ((with_reducible refine gate_dst (N := 7) rfl ?_); (try (refine gate_guard (by rfl) ?_; dsimp only)); refine box_event ?hg (N := 7) ?hd (cs := #[.int .i64 0, .int .i64 0, .int .i64 0, .int .i64 0, .bool false, .bool false]) (t := 28) ?hr ?_; (case hd => rfl); (case hg => rfl); (case hr => first | (go_simp; done) | (go_simp; rfl)); intro gb250 hg w45 hbox hb; have n0_ := Aside0.mk (Kd.V_below (Kd.V_elderB (by (with_reducible repeat (first | apply Kd.V_alloc | apply Kd.V_drewN | apply Kd.V_drew)); exact HO_3.out) gb250 (Nat.le_of_eq hg.symm)) hb); have n1_ := Aside0.mk (below_step (by repeat (first | (with_reducible first | exact HB.out | apply below_alloc | apply pw_below_drewN | apply below_drew1) | exact HB.out)) hb); have n2_ := Aside0.mk (hbox); have n3_ := Aside0.mk ((by rw [hg]; exact (below_size (by repeat (first | (with_reducible first | exact HB.out | apply below_alloc | apply pw_below_drewN | apply below_drew1) | exact HB.out))) : w.heap.size ≤ gb250)); have n4_ := Aside0.mk ((by rw [hg]; exact (below_size (by repeat (first | (with_reducible first | exact HB.out | apply below_alloc | apply pw_below_drewN | apply below_drew1) | exact HB.out))) : w.heap.size ≤ gb250)); clear HO_3; clear HB; have HO_3 := n0_; have HB := n1_; have BK250 := n2_; have GW250 := n3_; have GE250 := n4_; clear n0_ n1_ n2_ n3_ n4_; clear hb hbox hg; have hcz46_0 : w45.cell? ⟨gb250, 0, none⟩ = some (.int .i64 0) := (blk_cell BK250.out 0).trans rfl; have hcz46_1 : w45.cell? ⟨gb250, 1, none⟩ = some (.int .i64 0) := (blk_cell BK250.out 1).trans rfl; have hcz46_2 : w45.cell? ⟨gb250, 2, none⟩ = some (.int .i64 0) := (blk_cell BK250.out 2).trans rfl; have hcz46_3 : w45.cell? ⟨gb250, 3, none⟩ = some (.int .i64 0) := (blk_cell BK250.out 3).trans rfl; have hcz46_4 : w45.cell? ⟨gb250, 4, none⟩ = some (.bool false) := (blk_cell BK250.out 4).trans rfl; have hcz46_5 : w45.cell? ⟨gb250, 5, none⟩ = some (.bool false) := (blk_cell BK250.out 5).trans rfl; have hfz46_0 := blk_frozen BK250.out 0; have hfz46_1 := blk_frozen BK250.out 1; have hfz46_2 := blk_frozen BK250.out 2; have hfz46_3 := blk_frozen BK250.out 3; have hfz46_4 := blk_frozen BK250.out 4; have hfz46_5 := blk_frozen BK250.out 5) | ((with_reducible refine gate_store (t := 28) (p := 7) rfl ?_); refine store_event (t := 28) (p := 7) (v := ?vo_w47) (w1 := ((((((w45.setCell ⟨gb250, 0, none⟩ (.int .i64 ((rd_T28 l0 x30_1).f0.f0))).setCell ⟨gb250, 1, none⟩ (.int .i64 ((rd_T28 l0 x30_1).f0.f1))).setCell ⟨gb250, 2, none⟩ (.int .i64 ((rd_T28 l0 x30_1).f0.f2))).setCell ⟨gb250, 3, none⟩ (.int .i64 ((rd_T28 l0 x30_1).f0.f3))).setCell ⟨gb250, 4, none⟩ (.bool false)).setCell ⟨gb250, 5, none⟩ (.bool true))) ?hg ?ho ?hn ?hr ?_; (case ho => rfl); (case hg => rfl); (case hn => rfl); (case hr => first | (go_simp; done) | (go_simp; rfl)); intro w47 hw; have n0_ : Aside0 (Kd.V k26 26 w47 w.heap.size (fun k_ => k_ ≠ gb250) u3 x3_1) := ⟨(by rw [hw]; exact (by (with_reducible repeat (first | apply Kd.V_alloc | apply Kd.V_drewN | apply Kd.V_drew)); exact Kd.V_mono (Kd.V_far (p := ⟨gb250, 5, none⟩) (Kd.V_far (p := ⟨gb250, 4, none⟩) (Kd.V_far (p := ⟨gb250, 3, none⟩) (Kd.V_far (p := ⟨gb250, 2, none⟩) (Kd.V_far (p := ⟨gb250, 1, none⟩) (Kd.V_far (p := ⟨gb250, 0, none⟩) (Kd.V_mono HO_3.out (fun k_ hk => (⟨hk, hk.2⟩ : _ ∧ k_ ≠ gb250))) (fun _ hk => hk.2) (.int .i64 ((rd_T28 l0 x30_1).f0.f0))) (fun _ hk => hk.2) (.int .i64 ((rd_T28 l0 x30_1).f0.f1))) (fun _ hk => hk.2) (.int .i64 ((rd_T28 l0 x30_1).f0.f2))) (fun _ hk => hk.2) (.int .i64 ((rd_T28 l0 x30_1).f0.f3))) (fun _ hk => hk.2) (.bool false)) (fun _ hk => hk.2) (.bool true)) (fun _ hk => hk.1.2)))⟩; have n1_ : Aside0 (w47.heap[gb250]? = some (.cells #[.int .i64 ((rd_T28 l0 x30_1).f0.f0), .int .i64 ((rd_T28 l0 x30_1).f0.f1), .int .i64 ((rd_T28 l0 x30_1).f0.f2), .int .i64 ((rd_T28 l0 x30_1).f0.f3), .bool false, .bool true] 28 (0, 0))) := ⟨(by rw [hw]; exact (by (with_reducible repeat (first | refine blk_drewN ?_ _ | refine blk_drew ?_ | refine blk_alloc ?_ _)); refine blk_put (cs := #[.int .i64 ((rd_T28 l0 x30_1).f0.f0), .int .i64 ((rd_T28 l0 x30_1).f0.f1), .int .i64 ((rd_T28 l0 x30_1).f0.f2), .int .i64 ((rd_T28 l0 x30_1).f0.f3), .bool false, .bool false]) ?_ 5 _ rfl; (with_reducible repeat (first | refine blk_drewN ?_ _ | refine blk_drew ?_ | refine blk_alloc ?_ _)); refine blk_put (cs := #[.int .i64 ((rd_T28 l0 x30_1).f0.f0), .int .i64 ((rd_T28 l0 x30_1).f0.f1), .int .i64 ((rd_T28 l0 x30_1).f0.f2), .int .i64 ((rd_T28 l0 x30_1).f0.f3), .bool false, .bool false]) ?_ 4 _ rfl; (with_reducible repeat (first | refine blk_drewN ?_ _ | refine blk_drew ?_ | refine blk_alloc ?_ _)); refine blk_put (cs := #[.int .i64 ((rd_T28 l0 x30_1).f0.f0), .int .i64 ((rd_T28 l0 x30_1).f0.f1), .int .i64 ((rd_T28 l0 x30_1).f0.f2), .int .i64 0, .bool false, .bool false]) ?_ 3 _ rfl; (with_reducible repeat (first | refine blk_drewN ?_ _ | refine blk_drew ?_ | refine blk_alloc ?_ _)); refine blk_put (cs := #[.int .i64 ((rd_T28 l0 x30_1).f0.f0), .int .i64 ((rd_T28 l0 x30_1).f0.f1), .int .i64 0, .int .i64 0, .bool false, .bool false]) ?_ 2 _ rfl; (with_reducible repeat (first | refine blk_drewN ?_ _ | refine blk_drew ?_ | refine blk_alloc ?_ _)); refine blk_put (cs := #[.int .i64 ((rd_T28 l0 x30_1).f0.f0), .int .i64 0, .int .i64 0, .int .i64 0, .bool false, .bool false]) ?_ 1 _ rfl; (with_reducible repeat (first | refine blk_drewN ?_ _ | refine blk_drew ?_ | refine blk_alloc ?_ _)); refine blk_put (cs := #[.int .i64 0, .int .i64 0, .int .i64 0, .int .i64 0, .bool false, .bool false]) ?_ 0 _ rfl; (with_reducible repeat (first | refine blk_drewN ?_ _ | refine blk_drew ?_ | refine blk_alloc ?_ _)); exact BK250.out))⟩; have n2_ : Aside0 (Below w.heap.size w w47) := ⟨(by rw [hw]; exact (by repeat (first | (with_reducible first | exact HB.out | apply below_alloc | apply pw_below_drewN | apply below_drew1 | refine below_set ?_ GE250.out) | exact HB.out)))⟩; clear hw; clear HO_3; clear BK250; clear HB; have HO_3 := n0_; have BK250 := n1_; have HB := n2_; clear n0_ n1_ n2_; have hcz48_0 : w47.cell? ⟨gb250, 0, none⟩ = some (.int .i64 ((rd_T28 l0 x30_1).f0.f0)) := (blk_cell BK250.out 0).trans rfl; have hcz48_1 : w47.cell? ⟨gb250, 1, none⟩ = some (.int .i64 ((rd_T28 l0 x30_1).f0.f1)) := (blk_cell BK250.out 1).trans rfl; have hcz48_2 : w47.cell? ⟨gb250, 2, none⟩ = some (.int .i64 ((rd_T28 l0 x30_1).f0.f2)) := (blk_cell BK250.out 2).trans rfl; have hcz48_3 : w47.cell? ⟨gb250, 3, none⟩ = some (.int .i64 ((rd_T28 l0 x30_1).f0.f3)) := (blk_cell BK250.out 3).trans rfl; have hcz48_4 : w47.cell? ⟨gb250, 4, none⟩ = some (.bool false) := (blk_cell BK250.out 4).trans rfl; have hcz48_5 : w47.cell? ⟨gb250, 5, none⟩ = some (.bool true) := (blk_cell BK250.out 5).trans rfl; have hfz48_0 := blk_frozen BK250.out 0; have hfz48_1 := blk_frozen BK250.out 1; have hfz48_2 := blk_frozen BK250.out 2; have hfz48_3 := blk_frozen BK250.out 3; have hfz48_4 := blk_frozen BK250.out 4; have hfz48_5 := blk_frozen BK250.out 5; obtain ⟨Ao49, co49, eo49⟩ := Kd.V_slice HO_3.out; subst eo49) | ((with_reducible refine gate_callee (f := 10) rfl ?_); refine goesL_ (some 138) rfl rfl Try.func10 (by kernel_rfl) rfl #[.slice Ao49 x3_1.length co49, .int .i64 ((rd_T28 l0 x30_1).f0.f3)] rfl (by (try simp only [List.map_toArray, List.map_cons, List.map_nil]); first | done | rfl | (simp only [List.length_drop, List.length_take]; rfl)) ?_; (with_reducible refine (swap_Late.calls k1 (fun k_ => k_ ≠ gb250) _ _ x3_1 ((rd_T28 l0 x30_1).f0.f3) t262 t265 _ ?side1 A44.out).mono ?_); (case side1 => exact HO_3.out); rintro e w50 ⟨v263, v266, rfl, ho0, ho1, hb⟩; refine ⟨_, rfl, ?_⟩; have n0_ := Aside0.mk (Kd.V_elder' (by (with_reducible repeat (first | apply Kd.V_alloc | apply Kd.V_drewN | apply Kd.V_drew)); exact HO_3.out) (Kd.R_base ho1) hb); have n1_ := Aside0.mk (Kd.V_lower (Kd.V_mono (ok' := fun k_ => some k_ ≠ (v266 : Value).ownBlock ∧ k_ ≠ gb250) ho0 (fun k_ hk_ => ⟨hk_.2, Or.elim hk_.1 (fun hs_ => hs_) (fun hn_ => (Kd.freshB (g := gb250) (o := .cells #[.int .i64 ((rd_T28 l0 x30_1).f0.f0), .int .i64 ((rd_T28 l0 x30_1).f0.f1), .int .i64 ((rd_T28 l0 x30_1).f0.f2), .int .i64 ((rd_T28 l0 x30_1).f0.f3), .bool false, .bool true] 28 (0, 0)) (by (with_reducible repeat (first | refine blk_drewN ?_ _ | refine blk_drew ?_ | refine blk_alloc ?_ _)); exact BK250.out) k_ hn_))⟩)) (below_size (by repeat (first | (with_reducible first | exact HB.out | apply below_alloc | apply pw_below_drewN | apply below_drew1 | refine below_set ?_ GE250.out) | exact HB.out)))); have n2_ := Aside0.mk (Kd.R_lower (Kd.R_mono (ok' := fun k_ => True) ho1 (fun _ hk_ => trivial)) (below_size (by repeat (first | (with_reducible first | exact HB.out | apply below_alloc | apply pw_below_drewN | apply below_drew1 | refine below_set ?_ GE250.out) | exact HB.out)))); have n3_ := Aside0.mk (blk_below (g := gb250) (o := .cells #[.int .i64 ((rd_T28 l0 x30_1).f0.f0), .int .i64 ((rd_T28 l0 x30_1).f0.f1), .int .i64 ((rd_T28 l0 x30_1).f0.f2), .int .i64 ((rd_T28 l0 x30_1).f0.f3), .bool false, .bool true] 28 (0, 0)) (by (with_reducible repeat (first | refine blk_drewN ?_ _ | refine blk_drew ?_ | refine blk_alloc ?_ _)); exact BK250.out) hb); have n4_ := Aside0.mk (below_step (by repeat (first | (with_reducible first | exact HB.out | apply below_alloc | apply pw_below_drewN | apply below_drew1 | refine below_set ?_ GE250.out) | exact HB.out)) hb); clear HO_3; clear BK250; clear HB; have HO_3 := n0_; have HO264 := n1_; have HO267 := n2_; have BK250 := n3_; have HB := n4_; clear n0_ n1_ n2_ n3_ n4_; (try clear hb); (try clear hb2); (try clear hk); (try clear hi); (try clear ho0); (try clear ho1); obtain ⟨Ao51, co51, eo51⟩ := Kd.R_slice HO267.out; subst eo51))
                  go_loopg [143] k1 (fun kq v143 w' => ∃ (x143_2 : Int), v143 = .int .i64 x143_2 ∧ Aside0 (handshakerlaw21_SwapEnds.l1 kq x4_1 x5_1 t262 t265 l0 (l0.length : Int) x30_1 t265 (t265.length : Int) x143_2 ((rd_T28 l0 x30_1).f0.f0) ((rd_T28 l0 x30_1).f0.f1) ((rd_T28 l0 x30_1).f0.f2) ((rd_T28 l0 x30_1).f0.f3) false true = some r) ∧ Aside0 (kq ≤ k1) ∧ Aside0 (Kd.V k26 26 w' w.heap.size (fun k_ => some k_ ≠ ((.slice Ao51 t265.length co51) : Value).ownBlock ∧ some k_ ≠ ((.slice Ao51 t265.length co51) : Value).ownBlock ∧ k_ ≠ gb250) v263 t262) ∧ Aside0 (Kd.R k26 26 w' w.heap.size (fun _ => True) (.slice Ao51 t265.length co51) t265) ∧ Aside0 (Kd.R k26 26 w' w.heap.size (fun _ => True) (.slice Ao51 t265.length co51) t265) ∧ Aside0 (w'.heap[gb250]? = some (.cells #[.int .i64 ((rd_T28 l0 x30_1).f0.f0), .int .i64 ((rd_T28 l0 x30_1).f0.f1), .int .i64 ((rd_T28 l0 x30_1).f0.f2), .int .i64 ((rd_T28 l0 x30_1).f0.f3), .bool false, .bool true] 28 (0, 0))) ∧ Aside0 (Below w.heap.size w w'))
                  case atStart => exact ⟨(0), (by first | rfl | (simp; done) | (simp [*]; done)), H', ⟨Nat.le_refl _⟩, ⟨by (with_reducible repeat (first | apply Kd.V_alloc | apply Kd.V_drewN | apply Kd.V_drew)); exact Kd.V_mono HO264.out (fun _ hk => ⟨hk.1, ⟨hk.1, hk.2⟩⟩)⟩, ⟨by (with_reducible repeat (first | apply Kd.R_alloc | apply Kd.R_drewN | apply Kd.R_drew)); exact HO267.out⟩, ⟨by (with_reducible repeat (first | apply Kd.R_alloc | apply Kd.R_drewN | apply Kd.R_drew)); exact HO267.out⟩, ⟨by (with_reducible repeat (first | refine blk_drewN ?_ _ | refine blk_drew ?_ | refine blk_alloc ?_ _)); exact BK250.out⟩, ⟨by repeat (first | (with_reducible first | exact HB.out | apply below_alloc | apply pw_below_drewN | apply below_drew1 | refine below_set ?_ GE250.out) | exact HB.out)⟩⟩
                  case round =>
                    clear H'
                    try clear c1
                    try clear c2
                    try clear c2b0
                    try clear c2b1
                    try clear p2
                    try clear q2
                    try clear hx2
                    try clear c3
                    try clear c4
                    try clear q4
                    try clear c5
                    try clear c5b0
                    try clear c6
                    try clear c6b0
                    try clear p6
                    try clear c7
                    try clear c7b0
                    try clear c8
                    try clear q8
                    try clear c9
                    try clear c10
                    try clear c11
                    try clear c11b0
                    try clear c11b1
                    try clear c12
                    try clear c12b0
                    try clear c12b1
                    try clear c14
                    try clear c15
                    try clear c15b0
                    try clear c15b1
                    try clear c23
                    try clear p24
                    try clear q24
                    try clear hx24
                    try clear c29
                    try clear c30
                    try clear c30b0
                    try clear c30b1
                    try clear c38
                    try clear q42
                    try clear c43
                    try clear hcz17_0
                    try clear hcz17_1
                    try clear hcz17_2
                    try clear hcz17_3
                    try clear hcz17_4
                    try clear hcz17_5
                    try clear hcz19_0
                    try clear hcz19_1
                    try clear hcz19_2
                    try clear hcz19_3
                    try clear hcz19_4
                    try clear hcz19_5
                    try clear hcz24_0
                    try clear hcz24_1
                    try clear hcz24_2
                    try clear hcz24_3
                    try clear hcz25_0
                    try clear hcz25_1
                    try clear hcz25_2
                    try clear hcz25_3
                    try clear hcz25_4
                    try clear hcz25_5
                    try clear hcz32_0
                    try clear hcz32_1
                    try clear hcz32_2
                    try clear hcz32_3
                    try clear hcz32_4
                    try clear hcz32_5
                    try clear hcz34_0
                    try clear hcz34_1
                    try clear hcz34_2
                    try clear hcz34_3
                    try clear hcz34_4
                    try clear hcz34_5
                    try clear hcz39_0
                    try clear hcz39_1
                    try clear hcz39_2
                    try clear hcz39_3
                    try clear hcz46_0
                    try clear hcz46_1
                    try clear hcz46_2
                    try clear hcz46_3
                    try clear hcz46_4
                    try clear hcz46_5
                    try clear hcz48_0
                    try clear hcz48_1
                    try clear hcz48_2
                    try clear hcz48_3
                    try clear hcz48_4
                    try clear hcz48_5
                    try clear hfz17_0
                    try clear hfz17_1
                    try clear hfz17_2
                    try clear hfz17_3
                    try clear hfz17_4
                    try clear hfz17_5
                    try clear hfz19_0
                    try clear hfz19_1
                    try clear hfz19_2
                    try clear hfz19_3
                    try clear hfz19_4
                    try clear hfz19_5
                    try clear hfz24_0
                    try clear hfz24_1
                    try clear hfz24_2
                    try clear hfz24_3
                    try clear hfz25_0
                    try clear hfz25_1
                    try clear hfz25_2
                    try clear hfz25_3
                    try clear hfz25_4
                    try clear hfz25_5
                    try clear hfz32_0
                    try clear hfz32_1
                    try clear hfz32_2
                    try clear hfz32_3
                    try clear hfz32_4
                    try clear hfz32_5
                    try clear hfz34_0
                    try clear hfz34_1
                    try clear hfz34_2
                    try clear hfz34_3
                    try clear hfz34_4
                    try clear hfz34_5
                    try clear hfz39_0
                    try clear hfz39_1
                    try clear hfz39_2
                    try clear hfz39_3
                    try clear hfz46_0
                    try clear hfz46_1
                    try clear hfz46_2
                    try clear hfz46_3
                    try clear hfz46_4
                    try clear hfz46_5
                    try clear hfz48_0
                    try clear hfz48_1
                    try clear hfz48_2
                    try clear hfz48_3
                    try clear hfz48_4
                    try clear hfz48_5
                    try clear hx249_0
                    try clear hx249_1
                    try clear hx249_2
                    try clear hx249_3
                    try clear hx249_4
                    try clear hx249_5
                    try clear p2
                    try clear p249
                    try clear q249
                    obtain ⟨x143_2, rfl, HA, HK2, HO_12, HO_13, HO_141, BK250, HB⟩ := hrel
                    cases gk with
                    | zero => exact absurd HA.out (by simp [handshakerlaw21_SwapEnds.l1])
                    | succ k2 =>
                      have H := HA.out
                      clear HA
                      simp only [handshakerlaw21_SwapEnds.l1] at H
                      by_cases c52 : x143_2 < (t265.length : Int)
                      · rw [if_pos c52] at H
                        have c52b0 : decide (x143_2 < (t265.length : Int)) = true := decide_eq_true c52
                        clear c52
                        by_cases c53 : 0 ≤ x143_2
                        · rw [if_pos c53] at H
                          have c53b0 : decide (0 ≤ x143_2) = true := decide_eq_true c53
                          clear c53
                          by_cases c54 : x143_2 < (t265.length : Int)
                          · rw [if_pos c54] at H
                            have c54b0 : decide (x143_2 < (t265.length : Int)) = true := decide_eq_true c54
                            clear c54
                            by_cases c55 : ((rd_T26 t265 x143_2).f3) = 0
                            · rw [if_pos c55] at H
                              exact absurd H (by simp)
                            · rw [if_neg c55] at H
                              have c55b0 : (((rd_T26 t265 x143_2).f3) == 0) = false := beq_eq_false_iff_ne.mpr c55
                              have c55b1 : (((rd_T26 t265 x143_2).f3) != 0) = true := bne_iff_ne.mpr c55
                              by_cases c56 : ((rd_T26 t265 x143_2).f3) > ((rd_T28 l0 x30_1).f0.f3)
                              · rw [if_pos c56] at H
                                exact absurd H (by simp)
                              · rw [if_neg c56] at H
                                have c56b0 : decide (((rd_T28 l0 x30_1).f0.f3) < ((rd_T26 t265 x143_2).f3)) = false := decide_eq_false c56
                                clear c56
                                have H' := Aside0.mk H
                                clear H
                                have p268 : 0 ≤ (x143_2 : Int) := of_decide_eq_true (by first | (with_reducible assumption) | assumption)
                                have q268 : x143_2 < (t265.length : Int) := of_decide_eq_true (by first | (with_reducible assumption) | assumption)
                                obtain ⟨ad268, e268, hx268_0, hx268_1, hx268_2, hx268_3⟩ := at_T26 (Kd.R_reads' HO_141.out).2.2 x143_2 p268 q268
                                cases e268
                                replace p268 := eq_true p268
                                replace q268 := eq_true q268
                                go_wp2_with (first | ((with_reducible refine gate_dst (N := 15) rfl ?_); (try (refine gate_guard (by rfl) ?_; dsimp only)); refine box_event ?hg (N := 15) ?hd (cs := #[.int .i64 0, .int .i64 0, .int .i64 0, .int .i64 0]) (t := 26) ?hr ?_; (case hd => rfl); (case hg => rfl); (case hr => first | (go_simp; done) | (go_simp; rfl)); intro gb269 hg w57 hbox hb; have n0_ := Aside0.mk (Kd.V_below (Kd.V_elderB (by (with_reducible repeat (first | apply Kd.V_alloc | apply Kd.V_drewN | apply Kd.V_drew)); exact HO_12.out) gb269 (Nat.le_of_eq hg.symm)) hb); have n1_ := Aside0.mk (Kd.R_below (Kd.R_elderB (by (with_reducible repeat (first | apply Kd.R_alloc | apply Kd.R_drewN | apply Kd.R_drew)); exact HO_13.out) gb269 (Nat.le_of_eq hg.symm)) hb); have n2_ := Aside0.mk (Kd.R_below (Kd.R_elderB (by (with_reducible repeat (first | apply Kd.R_alloc | apply Kd.R_drewN | apply Kd.R_drew)); exact HO_141.out) gb269 (Nat.le_of_eq hg.symm)) hb); have n3_ := Aside0.mk (blk_below (g := gb250) (o := .cells #[.int .i64 ((rd_T28 l0 x30_1).f0.f0), .int .i64 ((rd_T28 l0 x30_1).f0.f1), .int .i64 ((rd_T28 l0 x30_1).f0.f2), .int .i64 ((rd_T28 l0 x30_1).f0.f3), .bool false, .bool true] 28 (0, 0)) (by (with_reducible repeat (first | refine blk_drewN ?_ _ | refine blk_drew ?_ | refine blk_alloc ?_ _)); exact BK250.out) hb); have n4_ := Aside0.mk (below_step (by repeat (first | (with_reducible first | exact HB.out | apply below_alloc | apply pw_below_drewN | apply below_drew1 | refine below_set ?_ GE250.out) | exact HB.out)) hb); have n5_ := Aside0.mk (hbox); have n6_ := Aside0.mk ((by rw [hg]; exact (below_size (by repeat (first | (with_reducible first | exact HB.out | apply below_alloc | apply pw_below_drewN | apply below_drew1 | refine below_set ?_ GE250.out) | exact HB.out))) : w.heap.size ≤ gb269)); have n7_ := Aside0.mk ((by rw [hg]; exact (below_size (by repeat (first | (with_reducible first | exact HB.out | apply below_alloc | apply pw_below_drewN | apply below_drew1 | refine below_set ?_ GE250.out) | exact HB.out))) : w.heap.size ≤ gb269)); have n8_ := Aside0.mk ((by rw [hg]; exact Nat.ne_of_lt (blk_lt (g := gb250) (o := .cells #[.int .i64 ((rd_T28 l0 x30_1).f0.f0), .int .i64 ((rd_T28 l0 x30_1).f0.f1), .int .i64 ((rd_T28 l0 x30_1).f0.f2), .int .i64 ((rd_T28 l0 x30_1).f0.f3), .bool false, .bool true] 28 (0, 0)) (by (with_reducible repeat (first | refine blk_drewN ?_ _ | refine blk_drew ?_ | refine blk_alloc ?_ _)); exact BK250.out)) : gb250 ≠ gb269)); have n9_ := Aside0.mk ((by rw [hg]; exact Nat.ne_of_gt (blk_lt (g := gb250) (o := .cells #[.int .i64 ((rd_T28 l0 x30_1).f0.f0), .int .i64 ((rd_T28 l0 x30_1).f0.f1), .int .i64 ((rd_T28 l0 x30_1).f0.f2), .int .i64 ((rd_T28 l0 x30_1).f0.f3), .bool false, .bool true] 28 (0, 0)) (by (with_reducible repeat (first | refine blk_drewN ?_ _ | refine blk_drew ?_ | refine blk_alloc ?_ _)); exact BK250.out)) : gb269 ≠ gb250)); clear HO_12; clear HO_13; clear HO_141; clear BK250; clear HB; have HO_12 := n0_; have HO_13 := n1_; have HO_141 := n2_; have BK250 := n3_; have HB := n4_; have BK269 := n5_; have GW269 := n6_; have GE269 := n7_; have NB250_269 := n8_; have NB269_250 := n9_; clear n0_ n1_ n2_ n3_ n4_ n5_ n6_ n7_ n8_ n9_; clear hb hbox hg; have hnb58 := NB269_250.out; have hnc58 := NB250_269.out; have hcz59_0 : w57.cell? ⟨gb269, 0, none⟩ = some (.int .i64 0) := (blk_cell BK269.out 0).trans rfl; have hcz59_1 : w57.cell? ⟨gb269, 1, none⟩ = some (.int .i64 0) := (blk_cell BK269.out 1).trans rfl; have hcz59_2 : w57.cell? ⟨gb269, 2, none⟩ = some (.int .i64 0) := (blk_cell BK269.out 2).trans rfl; have hcz59_3 : w57.cell? ⟨gb269, 3, none⟩ = some (.int .i64 0) := (blk_cell BK269.out 3).trans rfl; have hfz59_0 := blk_frozen BK269.out 0; have hfz59_1 := blk_frozen BK269.out 1; have hfz59_2 := blk_frozen BK269.out 2; have hfz59_3 := blk_frozen BK269.out 3; have hcz60_0 : w57.cell? ⟨gb250, 0, none⟩ = some (.int .i64 ((rd_T28 l0 x30_1).f0.f0)) := (blk_cell BK250.out 0).trans rfl; have hcz60_1 : w57.cell? ⟨gb250, 1, none⟩ = some (.int .i64 ((rd_T28 l0 x30_1).f0.f1)) := (blk_cell BK250.out 1).trans rfl; have hcz60_2 : w57.cell? ⟨gb250, 2, none⟩ = some (.int .i64 ((rd_T28 l0 x30_1).f0.f2)) := (blk_cell BK250.out 2).trans rfl; have hcz60_3 : w57.cell? ⟨gb250, 3, none⟩ = some (.int .i64 ((rd_T28 l0 x30_1).f0.f3)) := (blk_cell BK250.out 3).trans rfl; have hcz60_4 : w57.cell? ⟨gb250, 4, none⟩ = some (.bool false) := (blk_cell BK250.out 4).trans rfl; have hcz60_5 : w57.cell? ⟨gb250, 5, none⟩ = some (.bool true) := (blk_cell BK250.out 5).trans rfl; have hfz60_0 := blk_frozen BK250.out 0; have hfz60_1 := blk_frozen BK250.out 1; have hfz60_2 := blk_frozen BK250.out 2; have hfz60_3 := blk_frozen BK250.out 3; have hfz60_4 := blk_frozen BK250.out 4; have hfz60_5 := blk_frozen BK250.out 5))
                                go_roundg k2
                                case measure => have := HK1.out; have := HK2.out; omega
                                case rel => exact ⟨(wrap64 (x143_2 + 1)), (by first | rfl | (simp; done) | (simp [*]; done)), H', ⟨by have := HK1.out; have := HK2.out; omega⟩, ⟨by (with_reducible repeat (first | apply Kd.V_alloc | apply Kd.V_drewN | apply Kd.V_drew)); exact Kd.V_mono (Kd.V_far (p := ⟨gb269, 3, none⟩) (Kd.V_far (p := ⟨gb269, 2, none⟩) (Kd.V_far (p := ⟨gb269, 1, none⟩) (Kd.V_far (p := ⟨gb269, 0, none⟩) (Kd.V_mono HO_12.out (fun k_ hk => (⟨hk, hk.2⟩ : _ ∧ k_ ≠ gb269))) (fun _ hk => hk.2) (.int .i64 ((rd_T26 t265 x143_2).f0))) (fun _ hk => hk.2) (.int .i64 ((rd_T26 t265 x143_2).f1))) (fun _ hk => hk.2) (.int .i64 ((rd_T26 t265 x143_2).f2))) (fun _ hk => hk.2) (.int .i64 ((rd_T26 t265 x143_2).f3))) (fun _ hk => ⟨hk.1.1.1, ⟨hk.1.1.2.1, hk.1.1.2.2⟩⟩)⟩, ⟨by (with_reducible repeat (first | apply Kd.R_alloc | apply Kd.R_drewN | apply Kd.R_drew)); exact Kd.R_mono (Kd.R_far (p := ⟨gb269, 3, none⟩) (Kd.R_far (p := ⟨gb269, 2, none⟩) (Kd.R_far (p := ⟨gb269, 1, none⟩) (Kd.R_far (p := ⟨gb269, 0, none⟩) (Kd.R_mono HO_13.out (fun k_ hk => (⟨hk, hk.2⟩ : _ ∧ k_ ≠ gb269))) (fun _ hk => hk.2) (.int .i64 ((rd_T26 t265 x143_2).f0))) (fun _ hk => hk.2) (.int .i64 ((rd_T26 t265 x143_2).f1))) (fun _ hk => hk.2) (.int .i64 ((rd_T26 t265 x143_2).f2))) (fun _ hk => hk.2) (.int .i64 ((rd_T26 t265 x143_2).f3))) (fun _ hk => trivial)⟩, ⟨by (with_reducible repeat (first | apply Kd.R_alloc | apply Kd.R_drewN | apply Kd.R_drew)); exact Kd.R_mono (Kd.R_far (p := ⟨gb269, 3, none⟩) (Kd.R_far (p := ⟨gb269, 2, none⟩) (Kd.R_far (p := ⟨gb269, 1, none⟩) (Kd.R_far (p := ⟨gb269, 0, none⟩) (Kd.R_mono HO_141.out (fun k_ hk => (⟨hk, hk.2⟩ : _ ∧ k_ ≠ gb269))) (fun _ hk => hk.2) (.int .i64 ((rd_T26 t265 x143_2).f0))) (fun _ hk => hk.2) (.int .i64 ((rd_T26 t265 x143_2).f1))) (fun _ hk => hk.2) (.int .i64 ((rd_T26 t265 x143_2).f2))) (fun _ hk => hk.2) (.int .i64 ((rd_T26 t265 x143_2).f3))) (fun _ hk => trivial)⟩, ⟨by (with_reducible repeat (first | refine blk_drewN ?_ _ | refine blk_drew ?_ | refine blk_alloc ?_ _)); refine blk_far ?_ NB250_269.out _; (with_reducible repeat (first | refine blk_drewN ?_ _ | refine blk_drew ?_ | refine blk_alloc ?_ _)); refine blk_far ?_ NB250_269.out _; (with_reducible repeat (first | refine blk_drewN ?_ _ | refine blk_drew ?_ | refine blk_alloc ?_ _)); refine blk_far ?_ NB250_269.out _; (with_reducible repeat (first | refine blk_drewN ?_ _ | refine blk_drew ?_ | refine blk_alloc ?_ _)); refine blk_far ?_ NB250_269.out _; (with_reducible repeat (first | refine blk_drewN ?_ _ | refine blk_drew ?_ | refine blk_alloc ?_ _)); exact BK250.out⟩, ⟨by repeat (first | (with_reducible first | exact HB.out | apply below_alloc | apply pw_below_drewN | apply below_drew1 | refine below_set ?_ GE250.out | refine below_set ?_ GE269.out) | exact HB.out)⟩⟩
                          · rw [if_neg c54] at H
                            exact absurd H (by simp)
                        · rw [if_neg c53] at H
                          exact absurd H (by simp)
                      · rw [if_neg c52] at H
                        have c52b0 : decide (x143_2 < (t265.length : Int)) = false := decide_eq_false c52
                        clear c52
                        replace H := Option.bind_eq_some_iff.mp H
                        obtain ⟨t270, A610, H⟩ := H
                        replace H : (if t270 = true then (if x4_1 = (wrap64 ((wrap64 (x5_1 + (t265.length : Int))) + (t262.length : Int))) then (handshakerlaw21_SwapEnds.l0 k2 t262 x4_1 (wrap64 (x5_1 + (t265.length : Int))) l0 (l0.length : Int) (wrap64 (x30_1 + 1))) else (none)) else (none)) = some r := H
                        have A61 := Aside0.mk A610
                        clear A610
                        by_cases c62 : t270 = true
                        · subst c62
                          have H1 : (if x4_1 = (wrap64 ((wrap64 (x5_1 + (t265.length : Int))) + (t262.length : Int))) then (handshakerlaw21_SwapEnds.l0 k2 t262 x4_1 (wrap64 (x5_1 + (t265.length : Int))) l0 (l0.length : Int) (wrap64 (x30_1 + 1))) else (none)) = some r := by rw [if_pos rfl] at H; exact H
                          clear H
                          have H := H1
                          clear H1
                          by_cases c63 : x4_1 = (wrap64 ((wrap64 (x5_1 + (t265.length : Int))) + (t262.length : Int)))
                          · rw [if_pos c63] at H
                            have c63b0 : (x4_1 == (wrap64 ((wrap64 (x5_1 + (t265.length : Int))) + (t262.length : Int)))) = true := beq_iff_eq.mpr c63
                            have c63b1 : (x4_1 != (wrap64 ((wrap64 (x5_1 + (t265.length : Int))) + (t262.length : Int)))) = false := bne_eq_false_iff_eq.mpr c63
                            clear c63
                            have H' := Aside0.mk H
                            clear H
                            obtain ⟨Ao64, co64, eo64⟩ := Kd.V_slice HO_12.out
                            subst eo64
                            go_wp2_with (first | ((with_reducible refine gate_callee (f := 14) rfl ?_); refine goesL_ (some 166) rfl rfl Try.func14 (by kernel_rfl) rfl #[.slice Ao64 t262.length co64] rfl (by (try simp only [List.map_toArray, List.map_cons, List.map_nil]); first | done | rfl | (simp only [List.length_drop, List.length_take]; rfl)) ?_; (with_reducible refine (swap_Right.calls k2 _ _ t262 true _ ?side1 ?side2 A61.out).mono ?_); (case side1 => repeat (first | exact (Kd.V_reads' HO_12.out).2.2 | (with_reducible refine Kd.C_alloc ?_ _) | (with_reducible refine Kd.C_drewN ?_ _) | (with_reducible refine Kd.C_drew ?_))); (case side2 => exact (Kd.V_reads' HO_12.out).2.1); rintro e w65 ⟨rfl, hb⟩; refine ⟨_, rfl, ?_⟩; have n0_ := Aside0.mk (Kd.V_below (by (with_reducible repeat (first | apply Kd.V_alloc | apply Kd.V_drewN | apply Kd.V_drew)); exact HO_12.out) hb); have n1_ := Aside0.mk (Kd.R_below (by (with_reducible repeat (first | apply Kd.R_alloc | apply Kd.R_drewN | apply Kd.R_drew)); exact HO_13.out) hb); have n2_ := Aside0.mk (Kd.R_below (by (with_reducible repeat (first | apply Kd.R_alloc | apply Kd.R_drewN | apply Kd.R_drew)); exact HO_141.out) hb); have n3_ := Aside0.mk (blk_below (g := gb250) (o := .cells #[.int .i64 ((rd_T28 l0 x30_1).f0.f0), .int .i64 ((rd_T28 l0 x30_1).f0.f1), .int .i64 ((rd_T28 l0 x30_1).f0.f2), .int .i64 ((rd_T28 l0 x30_1).f0.f3), .bool false, .bool true] 28 (0, 0)) (by (with_reducible repeat (first | refine blk_drewN ?_ _ | refine blk_drew ?_ | refine blk_alloc ?_ _)); exact BK250.out) hb); have n4_ := Aside0.mk (below_step (by repeat (first | (with_reducible first | exact HB.out | apply below_alloc | apply pw_below_drewN | apply below_drew1 | refine below_set ?_ GE250.out) | exact HB.out)) hb); clear HO_12; clear HO_13; clear HO_141; clear BK250; clear HB; have HO_12 := n0_; have HO_13 := n1_; have HO_141 := n2_; have BK250 := n3_; have HB := n4_; clear n0_ n1_ n2_ n3_ n4_; (try clear hb); (try clear hb2); (try clear hk); (try clear hi)))
                            go_roundg k2
                            case measure => have := HK1.out; have := HK2.out; omega
                            case rel => exact ⟨(t262), (x4_1), (wrap64 (x5_1 + (t265.length : Int))), (wrap64 (x30_1 + 1)), (by first | rfl | (simp; done) | (simp [*]; done)), (by first | rfl | (simp; done) | (simp [*]; done)), (by first | rfl | (simp; done) | (simp [*]; done)), H', ⟨by have := HK1.out; have := HK2.out; omega⟩, ⟨by (with_reducible repeat (first | apply Kd.V_alloc | apply Kd.V_drewN | apply Kd.V_drew)); exact Kd.V_mono HO_12.out (fun _ hk => trivial)⟩, ⟨by repeat (first | (with_reducible first | exact HB.out | apply below_alloc | apply pw_below_drewN | apply below_drew1 | refine below_set ?_ GE250.out) | exact HB.out)⟩⟩
                          · rw [if_neg c63] at H
                            exact absurd H (by simp)
                        · replace c62 := Bool.eq_false_iff.mpr c62
                          subst c62
                          have H1 : (none) = some r := by rw [if_neg (show ¬ (false = true) by decide)] at H; exact H
                          clear H
                          have H := H1
                          clear H1
                          exact absurd H (by simp)
                · replace c43 := Bool.eq_false_iff.mpr c43
                  subst c43
                  have H1 : ((swap_Put.f k1 x3_1 ((rd_T28 l0 x30_1).f0.f0) ((rd_T28 l0 x30_1).f0.f1) ((rd_T28 l0 x30_1).f0.f2) ((rd_T28 l0 x30_1).f0.f3)).bind fun bt271 => (if bt271.2.2.2.2.2.2.2.2.2.2 = 0 then (handshakerlaw21_SwapEnds.j2 k1 (wrap64 (x4_1 + 1)) x5_1 bt271.1 bt271.2.2.2.2.2.2.2.2.2.1 bt271.2.2.2.2.2.2.2.2.2.2 l0 (l0.length : Int) x30_1 ((rd_T28 l0 x30_1).f0.f0) ((rd_T28 l0 x30_1).f0.f1) ((rd_T28 l0 x30_1).f0.f2) ((rd_T28 l0 x30_1).f0.f3) false false bt271.2.1 bt271.2.2.1 bt271.2.2.2.1 bt271.2.2.2.2.1 bt271.2.2.2.2.2.1 bt271.2.2.2.2.2.2.1 bt271.2.2.2.2.2.2.2.1 bt271.2.2.2.2.2.2.2.2.1) else (handshakerlaw21_SwapEnds.j2 k1 x4_1 x5_1 bt271.1 bt271.2.2.2.2.2.2.2.2.2.1 bt271.2.2.2.2.2.2.2.2.2.2 l0 (l0.length : Int) x30_1 ((rd_T28 l0 x30_1).f0.f0) ((rd_T28 l0 x30_1).f0.f1) ((rd_T28 l0 x30_1).f0.f2) ((rd_T28 l0 x30_1).f0.f3) false false bt271.2.1 bt271.2.2.1 bt271.2.2.2.1 bt271.2.2.2.2.1 bt271.2.2.2.2.2.1 bt271.2.2.2.2.2.2.1 bt271.2.2.2.2.2.2.2.1 bt271.2.2.2.2.2.2.2.2.1))) = some r := by rw [if_neg (show ¬ (false = true) by decide)] at H; exact H
                  clear H
                  have H := H1
                  clear H1
                  replace H := Option.bind_eq_some_iff.mp H
                  obtain ⟨⟨t271, t274, t275, t276, t277, t278, t279, t280, t281, t282, t283⟩, A660, H⟩ := H
                  replace H : (if t283 = 0 then (handshakerlaw21_SwapEnds.j2 k1 (wrap64 (x4_1 + 1)) x5_1 t271 t282 t283 l0 (l0.length : Int) x30_1 ((rd_T28 l0 x30_1).f0.f0) ((rd_T28 l0 x30_1).f0.f1) ((rd_T28 l0 x30_1).f0.f2) ((rd_T28 l0 x30_1).f0.f3) false false t274 t275 t276 t277 t278 t279 t280 t281) else (handshakerlaw21_SwapEnds.j2 k1 x4_1 x5_1 t271 t282 t283 l0 (l0.length : Int) x30_1 ((rd_T28 l0 x30_1).f0.f0) ((rd_T28 l0 x30_1).f0.f1) ((rd_T28 l0 x30_1).f0.f2) ((rd_T28 l0 x30_1).f0.f3) false false t274 t275 t276 t277 t278 t279 t280 t281)) = some r := H
                  have A66 := Aside0.mk A660
                  clear A660
                  have HC67 := Aside0.mk H
                  clear H
                  have p249 : 0 ≤ (x30_1 : Int) := of_decide_eq_true (by first | (with_reducible assumption) | assumption)
                  have q249 : x30_1 < (l0.length : Int) := of_decide_eq_true (by first | (with_reducible assumption) | assumption)
                  obtain ⟨ad249, e249, hx249_0, hx249_1, hx249_2, hx249_3, hx249_4, hx249_5⟩ := at_T28 HR0.out x30_1 p249 q249
                  (try rw [← Nbq8.out] at hx249_4)
                  (try rw [← Nbq42.out] at hx249_4)
                  (try rw [← Nbq8.out] at hx249_5)
                  (try rw [← Nbq42.out] at hx249_5)
                  cases e249
                  replace hx249_0 := (HB.out.cell (World.block_lt_of_cell? w _ hx249_0)).trans hx249_0
                  replace hx249_1 := (HB.out.cell (World.block_lt_of_cell? w _ hx249_1)).trans hx249_1
                  replace hx249_2 := (HB.out.cell (World.block_lt_of_cell? w _ hx249_2)).trans hx249_2
                  replace hx249_3 := (HB.out.cell (World.block_lt_of_cell? w _ hx249_3)).trans hx249_3
                  replace hx249_4 := (HB.out.cell (World.block_lt_of_cell? w _ hx249_4)).trans hx249_4
                  replace hx249_5 := (HB.out.cell (World.block_lt_of_cell? w _ hx249_5)).trans hx249_5
                  replace p249 := eq_true p249
                  replace q249 := eq_true q249
                  go_upto_if 45 with (first | ((with_reducible refine gate_dst (N := 7) rfl ?_); (try (refine gate_guard (by rfl) ?_; dsimp only)); refine box_event ?hg (N := 7) ?hd (cs := #[.int .i64 0, .int .i64 0, .int .i64 0, .int .i64 0, .bool false, .bool false]) (t := 28) ?hr ?_; (case hd => rfl); (case hg => rfl); (case hr => first | (go_simp; done) | (go_simp; rfl)); intro gb250 hg w68 hbox hb; have n0_ := Aside0.mk (Kd.V_below (Kd.V_elderB (by (with_reducible repeat (first | apply Kd.V_alloc | apply Kd.V_drewN | apply Kd.V_drew)); exact HO_3.out) gb250 (Nat.le_of_eq hg.symm)) hb); have n1_ := Aside0.mk (below_step (by repeat (first | (with_reducible first | exact HB.out | apply below_alloc | apply pw_below_drewN | apply below_drew1) | exact HB.out)) hb); have n2_ := Aside0.mk (hbox); have n3_ := Aside0.mk ((by rw [hg]; exact (below_size (by repeat (first | (with_reducible first | exact HB.out | apply below_alloc | apply pw_below_drewN | apply below_drew1) | exact HB.out))) : w.heap.size ≤ gb250)); have n4_ := Aside0.mk ((by rw [hg]; exact (below_size (by repeat (first | (with_reducible first | exact HB.out | apply below_alloc | apply pw_below_drewN | apply below_drew1) | exact HB.out))) : w.heap.size ≤ gb250)); clear HO_3; clear HB; have HO_3 := n0_; have HB := n1_; have BK250 := n2_; have GW250 := n3_; have GE250 := n4_; clear n0_ n1_ n2_ n3_ n4_; clear hb hbox hg; have hcz69_0 : w68.cell? ⟨gb250, 0, none⟩ = some (.int .i64 0) := (blk_cell BK250.out 0).trans rfl; have hcz69_1 : w68.cell? ⟨gb250, 1, none⟩ = some (.int .i64 0) := (blk_cell BK250.out 1).trans rfl; have hcz69_2 : w68.cell? ⟨gb250, 2, none⟩ = some (.int .i64 0) := (blk_cell BK250.out 2).trans rfl; have hcz69_3 : w68.cell? ⟨gb250, 3, none⟩ = some (.int .i64 0) := (blk_cell BK250.out 3).trans rfl; have hcz69_4 : w68.cell? ⟨gb250, 4, none⟩ = some (.bool false) := (blk_cell BK250.out 4).trans rfl; have hcz69_5 : w68.cell? ⟨gb250, 5, none⟩ = some (.bool false) := (blk_cell BK250.out 5).trans rfl; have hfz69_0 := blk_frozen BK250.out 0; have hfz69_1 := blk_frozen BK250.out 1; have hfz69_2 := blk_frozen BK250.out 2; have hfz69_3 := blk_frozen BK250.out 3; have hfz69_4 := blk_frozen BK250.out 4; have hfz69_5 := blk_frozen BK250.out 5) | ((with_reducible refine gate_store (t := 28) (p := 7) rfl ?_); refine store_event (t := 28) (p := 7) (v := ?vo_w70) (w1 := ((((((w68.setCell ⟨gb250, 0, none⟩ (.int .i64 ((rd_T28 l0 x30_1).f0.f0))).setCell ⟨gb250, 1, none⟩ (.int .i64 ((rd_T28 l0 x30_1).f0.f1))).setCell ⟨gb250, 2, none⟩ (.int .i64 ((rd_T28 l0 x30_1).f0.f2))).setCell ⟨gb250, 3, none⟩ (.int .i64 ((rd_T28 l0 x30_1).f0.f3))).setCell ⟨gb250, 4, none⟩ (.bool false)).setCell ⟨gb250, 5, none⟩ (.bool false))) ?hg ?ho ?hn ?hr ?_; (case ho => rfl); (case hg => rfl); (case hn => rfl); (case hr => first | (go_simp; done) | (go_simp; rfl)); intro w70 hw; have n0_ : Aside0 (Kd.V k26 26 w70 w.heap.size (fun k_ => k_ ≠ gb250) u3 x3_1) := ⟨(by rw [hw]; exact (by (with_reducible repeat (first | apply Kd.V_alloc | apply Kd.V_drewN | apply Kd.V_drew)); exact Kd.V_mono (Kd.V_far (p := ⟨gb250, 5, none⟩) (Kd.V_far (p := ⟨gb250, 4, none⟩) (Kd.V_far (p := ⟨gb250, 3, none⟩) (Kd.V_far (p := ⟨gb250, 2, none⟩) (Kd.V_far (p := ⟨gb250, 1, none⟩) (Kd.V_far (p := ⟨gb250, 0, none⟩) (Kd.V_mono HO_3.out (fun k_ hk => (⟨hk, hk.2⟩ : _ ∧ k_ ≠ gb250))) (fun _ hk => hk.2) (.int .i64 ((rd_T28 l0 x30_1).f0.f0))) (fun _ hk => hk.2) (.int .i64 ((rd_T28 l0 x30_1).f0.f1))) (fun _ hk => hk.2) (.int .i64 ((rd_T28 l0 x30_1).f0.f2))) (fun _ hk => hk.2) (.int .i64 ((rd_T28 l0 x30_1).f0.f3))) (fun _ hk => hk.2) (.bool false)) (fun _ hk => hk.2) (.bool false)) (fun _ hk => hk.1.2)))⟩; have n1_ : Aside0 (w70.heap[gb250]? = some (.cells #[.int .i64 ((rd_T28 l0 x30_1).f0.f0), .int .i64 ((rd_T28 l0 x30_1).f0.f1), .int .i64 ((rd_T28 l0 x30_1).f0.f2), .int .i64 ((rd_T28 l0 x30_1).f0.f3), .bool false, .bool false] 28 (0, 0))) := ⟨(by rw [hw]; exact (by (with_reducible repeat (first | refine blk_drewN ?_ _ | refine blk_drew ?_ | refine blk_alloc ?_ _)); refine blk_put (cs := #[.int .i64 ((rd_T28 l0 x30_1).f0.f0), .int .i64 ((rd_T28 l0 x30_1).f0.f1), .int .i64 ((rd_T28 l0 x30_1).f0.f2), .int .i64 ((rd_T28 l0 x30_1).f0.f3), .bool false, .bool false]) ?_ 5 _ rfl; (with_reducible repeat (first | refine blk_drewN ?_ _ | refine blk_drew ?_ | refine blk_alloc ?_ _)); refine blk_put (cs := #[.int .i64 ((rd_T28 l0 x30_1).f0.f0), .int .i64 ((rd_T28 l0 x30_1).f0.f1), .int .i64 ((rd_T28 l0 x30_1).f0.f2), .int .i64 ((rd_T28 l0 x30_1).f0.f3), .bool false, .bool false]) ?_ 4 _ rfl; (with_reducible repeat (first | refine blk_drewN ?_ _ | refine blk_drew ?_ | refine blk_alloc ?_ _)); refine blk_put (cs := #[.int .i64 ((rd_T28 l0 x30_1).f0.f0), .int .i64 ((rd_T28 l0 x30_1).f0.f1), .int .i64 ((rd_T28 l0 x30_1).f0.f2), .int .i64 0, .bool false, .bool false]) ?_ 3 _ rfl; (with_reducible repeat (first | refine blk_drewN ?_ _ | refine blk_drew ?_ | refine blk_alloc ?_ _)); refine blk_put (cs := #[.int .i64 ((rd_T28 l0 x30_1).f0.f0), .int .i64 ((rd_T28 l0 x30_1).f0.f1), .int .i64 0, .int .i64 0, .bool false, .bool false]) ?_ 2 _ rfl; (with_reducible repeat (first | refine blk_drewN ?_ _ | refine blk_drew ?_ | refine blk_alloc ?_ _)); refine blk_put (cs := #[.int .i64 ((rd_T28 l0 x30_1).f0.f0), .int .i64 0, .int .i64 0, .int .i64 0, .bool false, .bool false]) ?_ 1 _ rfl; (with_reducible repeat (first | refine blk_drewN ?_ _ | refine blk_drew ?_ | refine blk_alloc ?_ _)); refine blk_put (cs := #[.int .i64 0, .int .i64 0, .int .i64 0, .int .i64 0, .bool false, .bool false]) ?_ 0 _ rfl; (with_reducible repeat (first | refine blk_drewN ?_ _ | refine blk_drew ?_ | refine blk_alloc ?_ _)); exact BK250.out))⟩; have n2_ : Aside0 (Below w.heap.size w w70) := ⟨(by rw [hw]; exact (by repeat (first | (with_reducible first | exact HB.out | apply below_alloc | apply pw_below_drewN | apply below_drew1 | refine below_set ?_ GE250.out) | exact HB.out)))⟩; clear hw; clear HO_3; clear BK250; clear HB; have HO_3 := n0_; have BK250 := n1_; have HB := n2_; clear n0_ n1_ n2_; have hcz71_0 : w70.cell? ⟨gb250, 0, none⟩ = some (.int .i64 ((rd_T28 l0 x30_1).f0.f0)) := (blk_cell BK250.out 0).trans rfl; have hcz71_1 : w70.cell? ⟨gb250, 1, none⟩ = some (.int .i64 ((rd_T28 l0 x30_1).f0.f1)) := (blk_cell BK250.out 1).trans rfl; have hcz71_2 : w70.cell? ⟨gb250, 2, none⟩ = some (.int .i64 ((rd_T28 l0 x30_1).f0.f2)) := (blk_cell BK250.out 2).trans rfl; have hcz71_3 : w70.cell? ⟨gb250, 3, none⟩ = some (.int .i64 ((rd_T28 l0 x30_1).f0.f3)) := (blk_cell BK250.out 3).trans rfl; have hcz71_4 : w70.cell? ⟨gb250, 4, none⟩ = some (.bool false) := (blk_cell BK250.out 4).trans rfl; have hcz71_5 : w70.cell? ⟨gb250, 5, none⟩ = some (.bool false) := (blk_cell BK250.out 5).trans rfl; have hfz71_0 := blk_frozen BK250.out 0; have hfz71_1 := blk_frozen BK250.out 1; have hfz71_2 := blk_frozen BK250.out 2; have hfz71_3 := blk_frozen BK250.out 3; have hfz71_4 := blk_frozen BK250.out 4; have hfz71_5 := blk_frozen BK250.out 5; obtain ⟨Ao72, co72, eo72⟩ := Kd.V_slice HO_3.out; subst eo72) | ((with_reducible refine gate_callee (f := 11) rfl ?_); refine goesL_ (some 39) rfl rfl Try.func11 (by kernel_rfl) rfl #[.slice Ao72 x3_1.length co72, .agg #[.int .i64 ((rd_T28 l0 x30_1).f0.f0), .int .i64 ((rd_T28 l0 x30_1).f0.f1), .int .i64 ((rd_T28 l0 x30_1).f0.f2), .int .i64 ((rd_T28 l0 x30_1).f0.f3)]] rfl (by (try simp only [List.map_toArray, List.map_cons, List.map_nil]); first | done | rfl | (simp only [List.length_drop, List.length_take]; rfl)) ?_; (with_reducible refine (swap_Put.calls k1 (fun k_ => k_ ≠ gb250) _ _ x3_1 ((rd_T28 l0 x30_1).f0.f0) ((rd_T28 l0 x30_1).f0.f1) ((rd_T28 l0 x30_1).f0.f2) ((rd_T28 l0 x30_1).f0.f3) t271 t274 t275 t276 t277 t278 t279 t280 t281 t282 t283 _ ?side1 A66.out).mono ?_); (case side1 => exact HO_3.out); rintro e w73 ⟨v272, rfl, ho0, hb⟩; refine ⟨_, rfl, ?_⟩; have n0_ := Aside0.mk (Kd.V_below (by (with_reducible repeat (first | apply Kd.V_alloc | apply Kd.V_drewN | apply Kd.V_drew)); exact HO_3.out) hb); have n1_ := Aside0.mk (Kd.V_lower (Kd.V_mono (ok' := fun k_ => k_ ≠ gb250) ho0 (fun k_ hk_ => Or.elim hk_ (fun hs_ => hs_) (fun hn_ => (Kd.freshB (g := gb250) (o := .cells #[.int .i64 ((rd_T28 l0 x30_1).f0.f0), .int .i64 ((rd_T28 l0 x30_1).f0.f1), .int .i64 ((rd_T28 l0 x30_1).f0.f2), .int .i64 ((rd_T28 l0 x30_1).f0.f3), .bool false, .bool false] 28 (0, 0)) (by (with_reducible repeat (first | refine blk_drewN ?_ _ | refine blk_drew ?_ | refine blk_alloc ?_ _)); exact BK250.out) k_ hn_)))) (below_size (by repeat (first | (with_reducible first | exact HB.out | apply below_alloc | apply pw_below_drewN | apply below_drew1 | refine below_set ?_ GE250.out) | exact HB.out)))); have n2_ := Aside0.mk (blk_below (g := gb250) (o := .cells #[.int .i64 ((rd_T28 l0 x30_1).f0.f0), .int .i64 ((rd_T28 l0 x30_1).f0.f1), .int .i64 ((rd_T28 l0 x30_1).f0.f2), .int .i64 ((rd_T28 l0 x30_1).f0.f3), .bool false, .bool false] 28 (0, 0)) (by (with_reducible repeat (first | refine blk_drewN ?_ _ | refine blk_drew ?_ | refine blk_alloc ?_ _)); exact BK250.out) hb); have n3_ := Aside0.mk (below_step (by repeat (first | (with_reducible first | exact HB.out | apply below_alloc | apply pw_below_drewN | apply below_drew1 | refine below_set ?_ GE250.out) | exact HB.out)) hb); clear HO_3; clear BK250; clear HB; have HO_3 := n0_; have HO273 := n1_; have BK250 := n2_; have HB := n3_; clear n0_ n1_ n2_ n3_; (try clear hb); (try clear hb2); (try clear hk); (try clear hi); (try clear ho0)) | ((with_reducible refine gate_dst (N := 17) rfl ?_); (try (refine gate_guard (by rfl) ?_; dsimp only)); refine box_event ?hg (N := 17) ?hd (cs := #[.int .i64 0, .int .i64 0, .int .i64 0, .int .i64 0, .int .i64 0, .int .i64 0, .int .i64 0, .int .i64 0]) (t := 35) ?hr ?_; (case hd => rfl); (case hg => rfl); (case hr => first | (go_simp; done) | (go_simp; rfl)); intro gb284 hg w74 hbox hb; have n0_ := Aside0.mk (Kd.V_below (Kd.V_elderB (by (with_reducible repeat (first | apply Kd.V_alloc | apply Kd.V_drewN | apply Kd.V_drew)); exact HO_3.out) gb284 (Nat.le_of_eq hg.symm)) hb); have n1_ := Aside0.mk (Kd.V_below (Kd.V_elderB (by (with_reducible repeat (first | apply Kd.V_alloc | apply Kd.V_drewN | apply Kd.V_drew)); exact HO273.out) gb284 (Nat.le_of_eq hg.symm)) hb); have n2_ := Aside0.mk (blk_below (g := gb250) (o := .cells #[.int .i64 ((rd_T28 l0 x30_1).f0.f0), .int .i64 ((rd_T28 l0 x30_1).f0.f1), .int .i64 ((rd_T28 l0 x30_1).f0.f2), .int .i64 ((rd_T28 l0 x30_1).f0.f3), .bool false, .bool false] 28 (0, 0)) (by (with_reducible repeat (first | refine blk_drewN ?_ _ | refine blk_drew ?_ | refine blk_alloc ?_ _)); exact BK250.out) hb); have n3_ := Aside0.mk (below_step (by repeat (first | (with_reducible first | exact HB.out | apply below_alloc | apply pw_below_drewN | apply below_drew1 | refine below_set ?_ GE250.out) | exact HB.out)) hb); have n4_ := Aside0.mk (hbox); have n5_ := Aside0.mk ((by rw [hg]; exact (below_size (by repeat (first | (with_reducible first | exact HB.out | apply below_alloc | apply pw_below_drewN | apply below_drew1 | refine below_set ?_ GE250.out) | exact HB.out))) : w.heap.size ≤ gb284)); have n6_ := Aside0.mk ((by rw [hg]; exact (below_size (by repeat (first | (with_reducible first | exact HB.out | apply below_alloc | apply pw_below_drewN | apply below_drew1 | refine below_set ?_ GE250.out) | exact HB.out))) : w.heap.size ≤ gb284)); have n7_ := Aside0.mk ((by rw [hg]; exact Nat.ne_of_lt (blk_lt (g := gb250) (o := .cells #[.int .i64 ((rd_T28 l0 x30_1).f0.f0), .int .i64 ((rd_T28 l0 x30_1).f0.f1), .int .i64 ((rd_T28 l0 x30_1).f0.f2), .int .i64 ((rd_T28 l0 x30_1).f0.f3), .bool false, .bool false] 28 (0, 0)) (by (with_reducible repeat (first | refine blk_drewN ?_ _ | refine blk_drew ?_ | refine blk_alloc ?_ _)); exact BK250.out)) : gb250 ≠ gb284)); have n8_ := Aside0.mk ((by rw [hg]; exact Nat.ne_of_gt (blk_lt (g := gb250) (o := .cells #[.int .i64 ((rd_T28 l0 x30_1).f0.f0), .int .i64 ((rd_T28 l0 x30_1).f0.f1), .int .i64 ((rd_T28 l0 x30_1).f0.f2), .int .i64 ((rd_T28 l0 x30_1).f0.f3), .bool false, .bool false] 28 (0, 0)) (by (with_reducible repeat (first | refine blk_drewN ?_ _ | refine blk_drew ?_ | refine blk_alloc ?_ _)); exact BK250.out)) : gb284 ≠ gb250)); clear HO_3; clear HO273; clear BK250; clear HB; have HO_3 := n0_; have HO273 := n1_; have BK250 := n2_; have HB := n3_; have BK284 := n4_; have GW284 := n5_; have GE284 := n6_; have NB250_284 := n7_; have NB284_250 := n8_; clear n0_ n1_ n2_ n3_ n4_ n5_ n6_ n7_ n8_; clear hb hbox hg; have hnb75 := NB284_250.out; have hnc75 := NB250_284.out; have hcz76_0 : w74.cell? ⟨gb284, 0, none⟩ = some (.int .i64 0) := (blk_cell BK284.out 0).trans rfl; have hcz76_1 : w74.cell? ⟨gb284, 1, none⟩ = some (.int .i64 0) := (blk_cell BK284.out 1).trans rfl; have hcz76_2 : w74.cell? ⟨gb284, 2, none⟩ = some (.int .i64 0) := (blk_cell BK284.out 2).trans rfl; have hcz76_3 : w74.cell? ⟨gb284, 3, none⟩ = some (.int .i64 0) := (blk_cell BK284.out 3).trans rfl; have hcz76_4 : w74.cell? ⟨gb284, 4, none⟩ = some (.int .i64 0) := (blk_cell BK284.out 4).trans rfl; have hcz76_5 : w74.cell? ⟨gb284, 5, none⟩ = some (.int .i64 0) := (blk_cell BK284.out 5).trans rfl; have hcz76_6 : w74.cell? ⟨gb284, 6, none⟩ = some (.int .i64 0) := (blk_cell BK284.out 6).trans rfl; have hcz76_7 : w74.cell? ⟨gb284, 7, none⟩ = some (.int .i64 0) := (blk_cell BK284.out 7).trans rfl; have hfz76_0 := blk_frozen BK284.out 0; have hfz76_1 := blk_frozen BK284.out 1; have hfz76_2 := blk_frozen BK284.out 2; have hfz76_3 := blk_frozen BK284.out 3; have hfz76_4 := blk_frozen BK284.out 4; have hfz76_5 := blk_frozen BK284.out 5; have hfz76_6 := blk_frozen BK284.out 6; have hfz76_7 := blk_frozen BK284.out 7))
                  (try simp only [Act.put, List.setIfInBounds_toArray, List.set_cons_zero, List.set_cons_succ])
                  go_cut [4] (fun v4 wc => ∃ (kq : Nat) (x4_66 : Int), v4 = .int .i64 x4_66 ∧ Aside0 (handshakerlaw21_SwapEnds.j2 kq x4_66 x5_1 t271 t282 t283 l0 (l0.length : Int) x30_1 ((rd_T28 l0 x30_1).f0.f0) ((rd_T28 l0 x30_1).f0.f1) ((rd_T28 l0 x30_1).f0.f2) ((rd_T28 l0 x30_1).f0.f3) false false t274 t275 t276 t277 t278 t279 t280 t281 = some r) ∧ Aside0 (kq ≤ k1) ∧ Aside0 (Kd.V k26 26 wc w.heap.size (fun k_ => k_ ≠ gb250 ∧ k_ ≠ gb284) v272 t271) ∧ Aside0 (wc.heap[gb250]? = some (.cells #[.int .i64 ((rd_T28 l0 x30_1).f0.f0), .int .i64 ((rd_T28 l0 x30_1).f0.f1), .int .i64 ((rd_T28 l0 x30_1).f0.f2), .int .i64 ((rd_T28 l0 x30_1).f0.f3), .bool false, .bool false] 28 (0, 0))) ∧ Aside0 (wc.heap[gb284]? = some (.cells #[.int .i64 t274, .int .i64 t275, .int .i64 t276, .int .i64 t277, .int .i64 t278, .int .i64 t279, .int .i64 t280, .int .i64 t281] 35 (0, 0))) ∧ Aside0 (Below w.heap.size w wc))
                  case first =>
                    have H := HC67.out
                    clear HC67
                    by_cases c77 : t283 = 0
                    · rw [if_pos c77] at H
                      have c77b0 : (t283 == 0) = true := beq_iff_eq.mpr c77
                      have c77b1 : (t283 != 0) = false := bne_eq_false_iff_eq.mpr c77
                      clear c77
                      (first | rw [c77b0] | (simp only [i64_w, i32_w]; rw [c77b0]) | skip)
                      have H' := Aside0.mk H
                      clear H
                      go_wp2
                      go_meet
                      case rel => exact ⟨_, (wrap64 (x4_1 + 1)), (by first | rfl | (simp; done) | (simp [*]; done)), H', ⟨by have := HK1.out; first | omega | exact Nat.le_refl _⟩, ⟨by (with_reducible repeat (first | apply Kd.V_alloc | apply Kd.V_drewN | apply Kd.V_drew)); exact Kd.V_mono (Kd.V_far (p := ⟨gb284, 7, none⟩) (Kd.V_far (p := ⟨gb284, 6, none⟩) (Kd.V_far (p := ⟨gb284, 5, none⟩) (Kd.V_far (p := ⟨gb284, 4, none⟩) (Kd.V_far (p := ⟨gb284, 3, none⟩) (Kd.V_far (p := ⟨gb284, 2, none⟩) (Kd.V_far (p := ⟨gb284, 1, none⟩) (Kd.V_far (p := ⟨gb284, 0, none⟩) (Kd.V_mono HO273.out (fun k_ hk => (⟨hk, hk.2⟩ : _ ∧ k_ ≠ gb284))) (fun _ hk => hk.2) (.int .i64 t274)) (fun _ hk => hk.2) (.int .i64 t275)) (fun _ hk => hk.2) (.int .i64 t276)) (fun _ hk => hk.2) (.int .i64 t277)) (fun _ hk => hk.2) (.int .i64 t278)) (fun _ hk => hk.2) (.int .i64 t279)) (fun _ hk => hk.2) (.int .i64 t280)) (fun _ hk => hk.2) (.int .i64 t281)) (fun _ hk => ⟨hk.1.1, hk.1.2⟩)⟩, ⟨by (with_reducible repeat (first | refine blk_drewN ?_ _ | refine blk_drew ?_ | refine blk_alloc ?_ _)); refine blk_far ?_ NB250_284.out _; (with_reducible repeat (first | refine blk_drewN ?_ _ | refine blk_drew ?_ | refine blk_alloc ?_ _)); refine blk_far ?_ NB250_284.out _; (with_reducible repeat (first | refine blk_drewN ?_ _ | refine blk_drew ?_ | refine blk_alloc ?_ _)); refine blk_far ?_ NB250_284.out _; (with_reducible repeat (first | refine blk_drewN ?_ _ | refine blk_drew ?_ | refine blk_alloc ?_ _)); refine blk_far ?_ NB250_284.out _; (with_reducible repeat (first | refine blk_drewN ?_ _ | refine blk_drew ?_ | refine blk_alloc ?_ _)); refine blk_far ?_ NB250_284.out _; (with_reducible repeat (first | refine blk_drewN ?_ _ | refine blk_drew ?_ | refine blk_alloc ?_ _)); refine blk_far ?_ NB250_284.out _; (with_reducible repeat (first | refine blk_drewN ?_ _ | refine blk_drew ?_ | refine blk_alloc ?_ _)); refine blk_far ?_ NB250_284.out _; (with_reducible repeat (first | refine blk_drewN ?_ _ | refine blk_drew ?_ | refine blk_alloc ?_ _)); refine blk_far ?_ NB250_284.out _; (with_reducible repeat (first | refine blk_drewN ?_ _ | refine blk_drew ?_ | refine blk_alloc ?_ _)); exact BK250.out⟩, ⟨by (with_reducible repeat (first | refine blk_drewN ?_ _ | refine blk_drew ?_ | refine blk_alloc ?_ _)); refine blk_put (cs := #[.int .i64 t274, .int .i64 t275, .int .i64 t276, .int .i64 t277, .int .i64 t278, .int .i64 t279, .int .i64 t280, .int .i64 0]) ?_ 7 _ rfl; (with_reducible repeat (first | refine blk_drewN ?_ _ | refine blk_drew ?_ | refine blk_alloc ?_ _)); refine blk_put (cs := #[.int .i64 t274, .int .i64 t275, .int .i64 t276, .int .i64 t277, .int .i64 t278, .int .i64 t279, .int .i64 0, .int .i64 0]) ?_ 6 _ rfl; (with_reducible repeat (first | refine blk_drewN ?_ _ | refine blk_drew ?_ | refine blk_alloc ?_ _)); refine blk_put (cs := #[.int .i64 t274, .int .i64 t275, .int .i64 t276, .int .i64 t277, .int .i64 t278, .int .i64 0, .int .i64 0, .int .i64 0]) ?_ 5 _ rfl; (with_reducible repeat (first | refine blk_drewN ?_ _ | refine blk_drew ?_ | refine blk_alloc ?_ _)); refine blk_put (cs := #[.int .i64 t274, .int .i64 t275, .int .i64 t276, .int .i64 t277, .int .i64 0, .int .i64 0, .int .i64 0, .int .i64 0]) ?_ 4 _ rfl; (with_reducible repeat (first | refine blk_drewN ?_ _ | refine blk_drew ?_ | refine blk_alloc ?_ _)); refine blk_put (cs := #[.int .i64 t274, .int .i64 t275, .int .i64 t276, .int .i64 0, .int .i64 0, .int .i64 0, .int .i64 0, .int .i64 0]) ?_ 3 _ rfl; (with_reducible repeat (first | refine blk_drewN ?_ _ | refine blk_drew ?_ | refine blk_alloc ?_ _)); refine blk_put (cs := #[.int .i64 t274, .int .i64 t275, .int .i64 0, .int .i64 0, .int .i64 0, .int .i64 0, .int .i64 0, .int .i64 0]) ?_ 2 _ rfl; (with_reducible repeat (first | refine blk_drewN ?_ _ | refine blk_drew ?_ | refine blk_alloc ?_ _)); refine blk_put (cs := #[.int .i64 t274, .int .i64 0, .int .i64 0, .int .i64 0, .int .i64 0, .int .i64 0, .int .i64 0, .int .i64 0]) ?_ 1 _ rfl; (with_reducible repeat (first | refine blk_drewN ?_ _ | refine blk_drew ?_ | refine blk_alloc ?_ _)); refine blk_put (cs := #[.int .i64 0, .int .i64 0, .int .i64 0, .int .i64 0, .int .i64 0, .int .i64 0, .int .i64 0, .int .i64 0]) ?_ 0 _ rfl; (with_reducible repeat (first | refine blk_drewN ?_ _ | refine blk_drew ?_ | refine blk_alloc ?_ _)); exact BK284.out⟩, ⟨by repeat (first | (with_reducible first | exact HB.out | apply below_alloc | apply pw_below_drewN | apply below_drew1 | refine below_set ?_ GE250.out | refine below_set ?_ GE284.out) | exact HB.out)⟩⟩
                    · rw [if_neg c77] at H
                      have c77b0 : (t283 == 0) = false := beq_eq_false_iff_ne.mpr c77
                      have c77b1 : (t283 != 0) = true := bne_iff_ne.mpr c77
                      (first | rw [c77b0] | (simp only [i64_w, i32_w]; rw [c77b0]) | skip)
                      have H' := Aside0.mk H
                      clear H
                      go_wp2
                      go_meet
                      case rel => exact ⟨_, (x4_1), (by first | rfl | (simp; done) | (simp [*]; done)), H', ⟨by have := HK1.out; first | omega | exact Nat.le_refl _⟩, ⟨by (with_reducible repeat (first | apply Kd.V_alloc | apply Kd.V_drewN | apply Kd.V_drew)); exact Kd.V_mono (Kd.V_far (p := ⟨gb284, 7, none⟩) (Kd.V_far (p := ⟨gb284, 6, none⟩) (Kd.V_far (p := ⟨gb284, 5, none⟩) (Kd.V_far (p := ⟨gb284, 4, none⟩) (Kd.V_far (p := ⟨gb284, 3, none⟩) (Kd.V_far (p := ⟨gb284, 2, none⟩) (Kd.V_far (p := ⟨gb284, 1, none⟩) (Kd.V_far (p := ⟨gb284, 0, none⟩) (Kd.V_mono HO273.out (fun k_ hk => (⟨hk, hk.2⟩ : _ ∧ k_ ≠ gb284))) (fun _ hk => hk.2) (.int .i64 t274)) (fun _ hk => hk.2) (.int .i64 t275)) (fun _ hk => hk.2) (.int .i64 t276)) (fun _ hk => hk.2) (.int .i64 t277)) (fun _ hk => hk.2) (.int .i64 t278)) (fun _ hk => hk.2) (.int .i64 t279)) (fun _ hk => hk.2) (.int .i64 t280)) (fun _ hk => hk.2) (.int .i64 t281)) (fun _ hk => ⟨hk.1.1, hk.1.2⟩)⟩, ⟨by (with_reducible repeat (first | refine blk_drewN ?_ _ | refine blk_drew ?_ | refine blk_alloc ?_ _)); refine blk_far ?_ NB250_284.out _; (with_reducible repeat (first | refine blk_drewN ?_ _ | refine blk_drew ?_ | refine blk_alloc ?_ _)); refine blk_far ?_ NB250_284.out _; (with_reducible repeat (first | refine blk_drewN ?_ _ | refine blk_drew ?_ | refine blk_alloc ?_ _)); refine blk_far ?_ NB250_284.out _; (with_reducible repeat (first | refine blk_drewN ?_ _ | refine blk_drew ?_ | refine blk_alloc ?_ _)); refine blk_far ?_ NB250_284.out _; (with_reducible repeat (first | refine blk_drewN ?_ _ | refine blk_drew ?_ | refine blk_alloc ?_ _)); refine blk_far ?_ NB250_284.out _; (with_reducible repeat (first | refine blk_drewN ?_ _ | refine blk_drew ?_ | refine blk_alloc ?_ _)); refine blk_far ?_ NB250_284.out _; (with_reducible repeat (first | refine blk_drewN ?_ _ | refine blk_drew ?_ | refine blk_alloc ?_ _)); refine blk_far ?_ NB250_284.out _; (with_reducible repeat (first | refine blk_drewN ?_ _ | refine blk_drew ?_ | refine blk_alloc ?_ _)); refine blk_far ?_ NB250_284.out _; (with_reducible repeat (first | refine blk_drewN ?_ _ | refine blk_drew ?_ | refine blk_alloc ?_ _)); exact BK250.out⟩, ⟨by (with_reducible repeat (first | refine blk_drewN ?_ _ | refine blk_drew ?_ | refine blk_alloc ?_ _)); refine blk_put (cs := #[.int .i64 t274, .int .i64 t275, .int .i64 t276, .int .i64 t277, .int .i64 t278, .int .i64 t279, .int .i64 t280, .int .i64 0]) ?_ 7 _ rfl; (with_reducible repeat (first | refine blk_drewN ?_ _ | refine blk_drew ?_ | refine blk_alloc ?_ _)); refine blk_put (cs := #[.int .i64 t274, .int .i64 t275, .int .i64 t276, .int .i64 t277, .int .i64 t278, .int .i64 t279, .int .i64 0, .int .i64 0]) ?_ 6 _ rfl; (with_reducible repeat (first | refine blk_drewN ?_ _ | refine blk_drew ?_ | refine blk_alloc ?_ _)); refine blk_put (cs := #[.int .i64 t274, .int .i64 t275, .int .i64 t276, .int .i64 t277, .int .i64 t278, .int .i64 0, .int .i64 0, .int .i64 0]) ?_ 5 _ rfl; (with_reducible repeat (first | refine blk_drewN ?_ _ | refine blk_drew ?_ | refine blk_alloc ?_ _)); refine blk_put (cs := #[.int .i64 t274, .int .i64 t275, .int .i64 t276, .int .i64 t277, .int .i64 0, .int .i64 0, .int .i64 0, .int .i64 0]) ?_ 4 _ rfl; (with_reducible repeat (first | refine blk_drewN ?_ _ | refine blk_drew ?_ | refine blk_alloc ?_ _)); refine blk_put (cs := #[.int .i64 t274, .int .i64 t275, .int .i64 t276, .int .i64 0, .int .i64 0, .int .i64 0, .int .i64 0, .int .i64 0]) ?_ 3 _ rfl; (with_reducible repeat (first | refine blk_drewN ?_ _ | refine blk_drew ?_ | refine blk_alloc ?_ _)); refine blk_put (cs := #[.int .i64 t274, .int .i64 t275, .int .i64 0, .int .i64 0, .int .i64 0, .int .i64 0, .int .i64 0, .int .i64 0]) ?_ 2 _ rfl; (with_reducible repeat (first | refine blk_drewN ?_ _ | refine blk_drew ?_ | refine blk_alloc ?_ _)); refine blk_put (cs := #[.int .i64 t274, .int .i64 0, .int .i64 0, .int .i64 0, .int .i64 0, .int .i64 0, .int .i64 0, .int .i64 0]) ?_ 1 _ rfl; (with_reducible repeat (first | refine blk_drewN ?_ _ | refine blk_drew ?_ | refine blk_alloc ?_ _)); refine blk_put (cs := #[.int .i64 0, .int .i64 0, .int .i64 0, .int .i64 0, .int .i64 0, .int .i64 0, .int .i64 0, .int .i64 0]) ?_ 0 _ rfl; (with_reducible repeat (first | refine blk_drewN ?_ _ | refine blk_drew ?_ | refine blk_alloc ?_ _)); exact BK284.out⟩, ⟨by repeat (first | (with_reducible first | exact HB.out | apply below_alloc | apply pw_below_drewN | apply below_drew1 | refine below_set ?_ GE250.out | refine below_set ?_ GE284.out) | exact HB.out)⟩⟩
                  case rest =>
                    clear HC67
                    try clear c1
                    try clear c2
                    try clear c2b0
                    try clear c2b1
                    try clear p2
                    try clear q2
                    try clear hx2
                    try clear c3
                    try clear c4
                    try clear q4
                    try clear c5
                    try clear c5b0
                    try clear c6
                    try clear c6b0
                    try clear p6
                    try clear c7
                    try clear c7b0
                    try clear c8
                    try clear q8
                    try clear c9
                    try clear c10
                    try clear c11
                    try clear c11b0
                    try clear c11b1
                    try clear c12
                    try clear c12b0
                    try clear c12b1
                    try clear c14
                    try clear c15
                    try clear c15b0
                    try clear c15b1
                    try clear c23
                    try clear p24
                    try clear q24
                    try clear hx24
                    try clear p26
                    try clear q26
                    try clear hx26
                    try clear c29
                    try clear c30
                    try clear c30b0
                    try clear c30b1
                    try clear c38
                    try clear q42
                    try clear c43
                    try clear c52
                    try clear c52b0
                    try clear c53
                    try clear c53b0
                    try clear c54
                    try clear c54b0
                    try clear c55
                    try clear c55b0
                    try clear c55b1
                    try clear c56
                    try clear c56b0
                    try clear c58
                    try clear c62
                    try clear c63
                    try clear c63b0
                    try clear c63b1
                    try clear p64
                    try clear c75
                    try clear c77
                    try clear c77b0
                    try clear c77b1
                    try clear hcz17_0
                    try clear hcz17_1
                    try clear hcz17_2
                    try clear hcz17_3
                    try clear hcz17_4
                    try clear hcz17_5
                    try clear hcz19_0
                    try clear hcz19_1
                    try clear hcz19_2
                    try clear hcz19_3
                    try clear hcz19_4
                    try clear hcz19_5
                    try clear hcz24_0
                    try clear hcz24_1
                    try clear hcz24_2
                    try clear hcz24_3
                    try clear hcz25_0
                    try clear hcz25_1
                    try clear hcz25_2
                    try clear hcz25_3
                    try clear hcz25_4
                    try clear hcz25_5
                    try clear hcz32_0
                    try clear hcz32_1
                    try clear hcz32_2
                    try clear hcz32_3
                    try clear hcz32_4
                    try clear hcz32_5
                    try clear hcz34_0
                    try clear hcz34_1
                    try clear hcz34_2
                    try clear hcz34_3
                    try clear hcz34_4
                    try clear hcz34_5
                    try clear hcz39_0
                    try clear hcz39_1
                    try clear hcz39_2
                    try clear hcz39_3
                    try clear hcz46_0
                    try clear hcz46_1
                    try clear hcz46_2
                    try clear hcz46_3
                    try clear hcz46_4
                    try clear hcz46_5
                    try clear hcz48_0
                    try clear hcz48_1
                    try clear hcz48_2
                    try clear hcz48_3
                    try clear hcz48_4
                    try clear hcz48_5
                    try clear hcz59_0
                    try clear hcz59_1
                    try clear hcz59_2
                    try clear hcz59_3
                    try clear hcz60_0
                    try clear hcz60_1
                    try clear hcz60_2
                    try clear hcz60_3
                    try clear hcz60_4
                    try clear hcz60_5
                    try clear hcz69_0
                    try clear hcz69_1
                    try clear hcz69_2
                    try clear hcz69_3
                    try clear hcz69_4
                    try clear hcz69_5
                    try clear hcz71_0
                    try clear hcz71_1
                    try clear hcz71_2
                    try clear hcz71_3
                    try clear hcz71_4
                    try clear hcz71_5
                    try clear hcz76_0
                    try clear hcz76_1
                    try clear hcz76_2
                    try clear hcz76_3
                    try clear hcz76_4
                    try clear hcz76_5
                    try clear hcz76_6
                    try clear hcz76_7
                    try clear hfz17_0
                    try clear hfz17_1
                    try clear hfz17_2
                    try clear hfz17_3
                    try clear hfz17_4
                    try clear hfz17_5
                    try clear hfz19_0
                    try clear hfz19_1
                    try clear hfz19_2
                    try clear hfz19_3
                    try clear hfz19_4
                    try clear hfz19_5
                    try clear hfz24_0
                    try clear hfz24_1
                    try clear hfz24_2
                    try clear hfz24_3
                    try clear hfz25_0
                    try clear hfz25_1
                    try clear hfz25_2
                    try clear hfz25_3
                    try clear hfz25_4
                    try clear hfz25_5
                    try clear hfz32_0
                    try clear hfz32_1
                    try clear hfz32_2
                    try clear hfz32_3
                    try clear hfz32_4
                    try clear hfz32_5
                    try clear hfz34_0
                    try clear hfz34_1
                    try clear hfz34_2
                    try clear hfz34_3
                    try clear hfz34_4
                    try clear hfz34_5
                    try clear hfz39_0
                    try clear hfz39_1
                    try clear hfz39_2
                    try clear hfz39_3
                    try clear hfz46_0
                    try clear hfz46_1
                    try clear hfz46_2
                    try clear hfz46_3
                    try clear hfz46_4
                    try clear hfz46_5
                    try clear hfz48_0
                    try clear hfz48_1
                    try clear hfz48_2
                    try clear hfz48_3
                    try clear hfz48_4
                    try clear hfz48_5
                    try clear hfz59_0
                    try clear hfz59_1
                    try clear hfz59_2
                    try clear hfz59_3
                    try clear hfz60_0
                    try clear hfz60_1
                    try clear hfz60_2
                    try clear hfz60_3
                    try clear hfz60_4
                    try clear hfz60_5
                    try clear hfz69_0
                    try clear hfz69_1
                    try clear hfz69_2
                    try clear hfz69_3
                    try clear hfz69_4
                    try clear hfz69_5
                    try clear hfz71_0
                    try clear hfz71_1
                    try clear hfz71_2
                    try clear hfz71_3
                    try clear hfz71_4
                    try clear hfz71_5
                    try clear hfz76_0
                    try clear hfz76_1
                    try clear hfz76_2
                    try clear hfz76_3
                    try clear hfz76_4
                    try clear hfz76_5
                    try clear hfz76_6
                    try clear hfz76_7
                    try clear hx249_0
                    try clear hx249_1
                    try clear hx249_2
                    try clear hx249_3
                    try clear hx249_4
                    try clear hx249_5
                    try clear hx268_0
                    try clear hx268_1
                    try clear hx268_2
                    try clear hx268_3
                    try clear p2
                    try clear p24
                    try clear p249
                    try clear p268
                    try clear p6
                    try clear q2
                    try clear q24
                    try clear q249
                    try clear q268
                    try clear q4
                    try clear q42
                    try clear q8
                    obtain ⟨kq, x4_66, rfl, HA, HJ66, HO_16, BK250, BK284, HB⟩ := hcut
                    cases kq with
                    | zero => exact absurd HA.out (by simp [handshakerlaw21_SwapEnds.j2])
                    | succ kj66 =>
                      have H := HA.out
                      clear HA
                      simp only [handshakerlaw21_SwapEnds.j2] at H
                      by_cases c78 : t282 = true
                      · subst c78
                        have H1 : ((swap_Got.f t274 t275 t276 t277 t278 t279 t280 t281 t274).bind fun bt285 => ((swap_Got.f t274 t275 t276 t277 t278 t279 t280 t281 t278).bind fun bt287 => (if t283 = 0 then (if (!(t278 == ((rd_T28 l0 x30_1).f0.f0)) || (!(t279 == ((rd_T28 l0 x30_1).f0.f1)) || (!(t280 == ((rd_T28 l0 x30_1).f0.f2)) || (!(t281 == ((rd_T28 l0 x30_1).f0.f3)))))) = true then (none) else ((swap_Meet.f t274 t275 t276 t277 t278 t279 t280 t281).bind fun t289 => (if t289 = true then (if bt285.2 = true then (if bt287.2 = true then (if bt285.1 = t280 then (handshakerlaw21_SwapEnds.j3 kj66 x4_66 (wrap64 (x5_1 + 2)) t271 l0 (l0.length : Int) x30_1 (bt287.1 != t276)) else (none)) else (none)) else (none)) else (none)))) else (none)))) = some r := by rw [if_pos rfl] at H; exact H
                        clear H
                        have H := H1
                        clear H1
                        replace H := Option.bind_eq_some_iff.mp H
                        obtain ⟨⟨t285, t286⟩, A790, H⟩ := H
                        replace H : ((swap_Got.f t274 t275 t276 t277 t278 t279 t280 t281 t278).bind fun bt287 => (if t283 = 0 then (if (!(t278 == ((rd_T28 l0 x30_1).f0.f0)) || (!(t279 == ((rd_T28 l0 x30_1).f0.f1)) || (!(t280 == ((rd_T28 l0 x30_1).f0.f2)) || (!(t281 == ((rd_T28 l0 x30_1).f0.f3)))))) = true then (none) else ((swap_Meet.f t274 t275 t276 t277 t278 t279 t280 t281).bind fun t289 => (if t289 = true then (if t286 = true then (if bt287.2 = true then (if t285 = t280 then (handshakerlaw21_SwapEnds.j3 kj66 x4_66 (wrap64 (x5_1 + 2)) t271 l0 (l0.length : Int) x30_1 (bt287.1 != t276)) else (none)) else (none)) else (none)) else (none)))) else (none))) = some r := H
                        have A79 := Aside0.mk A790
                        clear A790
                        replace H := Option.bind_eq_some_iff.mp H
                        obtain ⟨⟨t287, t288⟩, A800, H⟩ := H
                        replace H : (if t283 = 0 then (if (!(t278 == ((rd_T28 l0 x30_1).f0.f0)) || (!(t279 == ((rd_T28 l0 x30_1).f0.f1)) || (!(t280 == ((rd_T28 l0 x30_1).f0.f2)) || (!(t281 == ((rd_T28 l0 x30_1).f0.f3)))))) = true then (none) else ((swap_Meet.f t274 t275 t276 t277 t278 t279 t280 t281).bind fun t289 => (if t289 = true then (if t286 = true then (if t288 = true then (if t285 = t280 then (handshakerlaw21_SwapEnds.j3 kj66 x4_66 (wrap64 (x5_1 + 2)) t271 l0 (l0.length : Int) x30_1 (t287 != t276)) else (none)) else (none)) else (none)) else (none)))) else (none)) = some r := H
                        have A80 := Aside0.mk A800
                        clear A800
                        have HC81 := Aside0.mk H
                        clear H
                        have hnb82 := NB284_250.out
                        have hnc82 := NB250_284.out
                        have hcz83_0 : wc.cell? ⟨gb284, 0, none⟩ = some (.int .i64 t274) := (blk_cell BK284.out 0).trans rfl
                        have hcz83_1 : wc.cell? ⟨gb284, 1, none⟩ = some (.int .i64 t275) := (blk_cell BK284.out 1).trans rfl
                        have hcz83_2 : wc.cell? ⟨gb284, 2, none⟩ = some (.int .i64 t276) := (blk_cell BK284.out 2).trans rfl
                        have hcz83_3 : wc.cell? ⟨gb284, 3, none⟩ = some (.int .i64 t277) := (blk_cell BK284.out 3).trans rfl
                        have hcz83_4 : wc.cell? ⟨gb284, 4, none⟩ = some (.int .i64 t278) := (blk_cell BK284.out 4).trans rfl
                        have hcz83_5 : wc.cell? ⟨gb284, 5, none⟩ = some (.int .i64 t279) := (blk_cell BK284.out 5).trans rfl
                        have hcz83_6 : wc.cell? ⟨gb284, 6, none⟩ = some (.int .i64 t280) := (blk_cell BK284.out 6).trans rfl
                        have hcz83_7 : wc.cell? ⟨gb284, 7, none⟩ = some (.int .i64 t281) := (blk_cell BK284.out 7).trans rfl
                        have hfz83_0 := blk_frozen BK284.out 0
                        have hfz83_1 := blk_frozen BK284.out 1
                        have hfz83_2 := blk_frozen BK284.out 2
                        have hfz83_3 := blk_frozen BK284.out 3
                        have hfz83_4 := blk_frozen BK284.out 4
                        have hfz83_5 := blk_frozen BK284.out 5
                        have hfz83_6 := blk_frozen BK284.out 6
                        have hfz83_7 := blk_frozen BK284.out 7
                        go_upto_region 16 with (first | ((with_reducible refine gate_callee (f := 12) rfl ?_); refine goesL_ (some 56) rfl rfl Try.func12 (by kernel_rfl) rfl #[.agg #[.int .i64 t274, .int .i64 t275, .int .i64 t276, .int .i64 t277, .int .i64 t278, .int .i64 t279, .int .i64 t280, .int .i64 t281], .int .i64 t274] rfl (by (try simp only [List.map_toArray, List.map_cons, List.map_nil]); first | done | rfl | (simp only [List.length_drop, List.length_take]; rfl)) ?_; (with_reducible refine (swap_Got.calls t274 t275 t276 t277 t278 t279 t280 t281 t274 t285 t286 _ A79.out).mono ?_); rintro e w84 ⟨rfl, hb⟩; refine ⟨_, rfl, ?_⟩; have n0_ := Aside0.mk (Kd.V_below (by (with_reducible repeat (first | apply Kd.V_alloc | apply Kd.V_drewN | apply Kd.V_drew)); exact HO_16.out) hb); have n1_ := Aside0.mk (blk_below (g := gb250) (o := .cells #[.int .i64 ((rd_T28 l0 x30_1).f0.f0), .int .i64 ((rd_T28 l0 x30_1).f0.f1), .int .i64 ((rd_T28 l0 x30_1).f0.f2), .int .i64 ((rd_T28 l0 x30_1).f0.f3), .bool false, .bool false] 28 (0, 0)) (by (with_reducible repeat (first | refine blk_drewN ?_ _ | refine blk_drew ?_ | refine blk_alloc ?_ _)); exact BK250.out) hb); have n2_ := Aside0.mk (blk_below (g := gb284) (o := .cells #[.int .i64 t274, .int .i64 t275, .int .i64 t276, .int .i64 t277, .int .i64 t278, .int .i64 t279, .int .i64 t280, .int .i64 t281] 35 (0, 0)) (by (with_reducible repeat (first | refine blk_drewN ?_ _ | refine blk_drew ?_ | refine blk_alloc ?_ _)); exact BK284.out) hb); have n3_ := Aside0.mk (below_step (by repeat (first | (with_reducible first | exact HB.out | apply below_alloc | apply pw_below_drewN | apply below_drew1 | refine below_set ?_ GE250.out | refine below_set ?_ GE284.out) | exact HB.out)) hb); clear HO_16; clear BK250; clear BK284; clear HB; have HO_16 := n0_; have BK250 := n1_; have BK284 := n2_; have HB := n3_; clear n0_ n1_ n2_ n3_; (try clear hb); (try clear hb2); (try clear hk); (try clear hi); have hcz85_0 : w84.cell? ⟨gb284, 0, none⟩ = some (.int .i64 t274) := (blk_cell BK284.out 0).trans rfl; have hcz85_1 : w84.cell? ⟨gb284, 1, none⟩ = some (.int .i64 t275) := (blk_cell BK284.out 1).trans rfl; have hcz85_2 : w84.cell? ⟨gb284, 2, none⟩ = some (.int .i64 t276) := (blk_cell BK284.out 2).trans rfl; have hcz85_3 : w84.cell? ⟨gb284, 3, none⟩ = some (.int .i64 t277) := (blk_cell BK284.out 3).trans rfl; have hcz85_4 : w84.cell? ⟨gb284, 4, none⟩ = some (.int .i64 t278) := (blk_cell BK284.out 4).trans rfl; have hcz85_5 : w84.cell? ⟨gb284, 5, none⟩ = some (.int .i64 t279) := (blk_cell BK284.out 5).trans rfl; have hcz85_6 : w84.cell? ⟨gb284, 6, none⟩ = some (.int .i64 t280) := (blk_cell BK284.out 6).trans rfl; have hcz85_7 : w84.cell? ⟨gb284, 7, none⟩ = some (.int .i64 t281) := (blk_cell BK284.out 7).trans rfl; have hfz85_0 := blk_frozen BK284.out 0; have hfz85_1 := blk_frozen BK284.out 1; have hfz85_2 := blk_frozen BK284.out 2; have hfz85_3 := blk_frozen BK284.out 3; have hfz85_4 := blk_frozen BK284.out 4; have hfz85_5 := blk_frozen BK284.out 5; have hfz85_6 := blk_frozen BK284.out 6; have hfz85_7 := blk_frozen BK284.out 7) | ((with_reducible refine gate_callee (f := 12) rfl ?_); refine goesL_ (some 64) rfl rfl Try.func12 (by kernel_rfl) rfl #[.agg #[.int .i64 t274, .int .i64 t275, .int .i64 t276, .int .i64 t277, .int .i64 t278, .int .i64 t279, .int .i64 t280, .int .i64 t281], .int .i64 t278] rfl (by (try simp only [List.map_toArray, List.map_cons, List.map_nil]); first | done | rfl | (simp only [List.length_drop, List.length_take]; rfl)) ?_; (with_reducible refine (swap_Got.calls t274 t275 t276 t277 t278 t279 t280 t281 t278 t287 t288 _ A80.out).mono ?_); rintro e w86 ⟨rfl, hb⟩; refine ⟨_, rfl, ?_⟩; have n0_ := Aside0.mk (Kd.V_below (by (with_reducible repeat (first | apply Kd.V_alloc | apply Kd.V_drewN | apply Kd.V_drew)); exact HO_16.out) hb); have n1_ := Aside0.mk (blk_below (g := gb250) (o := .cells #[.int .i64 ((rd_T28 l0 x30_1).f0.f0), .int .i64 ((rd_T28 l0 x30_1).f0.f1), .int .i64 ((rd_T28 l0 x30_1).f0.f2), .int .i64 ((rd_T28 l0 x30_1).f0.f3), .bool false, .bool false] 28 (0, 0)) (by (with_reducible repeat (first | refine blk_drewN ?_ _ | refine blk_drew ?_ | refine blk_alloc ?_ _)); exact BK250.out) hb); have n2_ := Aside0.mk (blk_below (g := gb284) (o := .cells #[.int .i64 t274, .int .i64 t275, .int .i64 t276, .int .i64 t277, .int .i64 t278, .int .i64 t279, .int .i64 t280, .int .i64 t281] 35 (0, 0)) (by (with_reducible repeat (first | refine blk_drewN ?_ _ | refine blk_drew ?_ | refine blk_alloc ?_ _)); exact BK284.out) hb); have n3_ := Aside0.mk (below_step (by repeat (first | (with_reducible first | exact HB.out | apply below_alloc | apply pw_below_drewN | apply below_drew1 | refine below_set ?_ GE250.out | refine below_set ?_ GE284.out) | exact HB.out)) hb); clear HO_16; clear BK250; clear BK284; clear HB; have HO_16 := n0_; have BK250 := n1_; have BK284 := n2_; have HB := n3_; clear n0_ n1_ n2_ n3_; (try clear hb); (try clear hb2); (try clear hk); (try clear hi)))
                        (try simp only [Act.put, List.setIfInBounds_toArray, List.set_cons_zero, List.set_cons_succ])
                        go_cut [105] (fun v105 wc => ∃ (kq : Nat) (x105_80 : Bool), v105 = .bool x105_80 ∧ Aside0 (handshakerlaw21_SwapEnds.j3 kq x4_66 (wrap64 (x5_1 + 2)) t271 l0 (l0.length : Int) x30_1 x105_80 = some r) ∧ Aside0 (kq ≤ kj66) ∧ Aside0 (Kd.V k26 26 wc w.heap.size (fun k_ => k_ ≠ gb250 ∧ k_ ≠ gb284) v272 t271) ∧ Aside0 (wc.heap[gb250]? = some (.cells #[.int .i64 ((rd_T28 l0 x30_1).f0.f0), .int .i64 ((rd_T28 l0 x30_1).f0.f1), .int .i64 ((rd_T28 l0 x30_1).f0.f2), .int .i64 ((rd_T28 l0 x30_1).f0.f3), .bool false, .bool false] 28 (0, 0))) ∧ Aside0 (wc.heap[gb284]? = some (.cells #[.int .i64 t274, .int .i64 t275, .int .i64 t276, .int .i64 t277, .int .i64 t278, .int .i64 t279, .int .i64 t280, .int .i64 t281] 35 (0, 0))) ∧ Aside0 (Below w.heap.size w wc))
                        case first =>
                          have H := HC81.out
                          clear HC81
                          by_cases c87 : t283 = 0
                          · rw [if_pos c87] at H
                            have c87b0 : (t283 == 0) = true := beq_iff_eq.mpr c87
                            have c87b1 : (t283 != 0) = false := bne_eq_false_iff_eq.mpr c87
                            clear c87
                            (first | rw [c87b0] | (simp only [i64_w, i32_w]; rw [c87b0]) | skip)
                            by_cases c88 : (!(t278 == ((rd_T28 l0 x30_1).f0.f0)) || (!(t279 == ((rd_T28 l0 x30_1).f0.f1)) || (!(t280 == ((rd_T28 l0 x30_1).f0.f2)) || (!(t281 == ((rd_T28 l0 x30_1).f0.f3)))))) = true
                            · rw [if_pos c88] at H
                              exact absurd H (by simp)
                            · rw [if_neg c88] at H
                              have c88b0 : (!(t278 == ((rd_T28 l0 x30_1).f0.f0)) || (!(t279 == ((rd_T28 l0 x30_1).f0.f1)) || (!(t280 == ((rd_T28 l0 x30_1).f0.f2)) || (!(t281 == ((rd_T28 l0 x30_1).f0.f3)))))) = false := by simpa using c88
                              clear c88
                              replace H := Option.bind_eq_some_iff.mp H
                              obtain ⟨t289, A890, H⟩ := H
                              replace H : (if t289 = true then (if t286 = true then (if t288 = true then (if t285 = t280 then (handshakerlaw21_SwapEnds.j3 kj66 x4_66 (wrap64 (x5_1 + 2)) t271 l0 (l0.length : Int) x30_1 (t287 != t276)) else (none)) else (none)) else (none)) else (none)) = some r := H
                              have A89 := Aside0.mk A890
                              clear A890
                              by_cases c90 : t289 = true
                              · subst c90
                                have H1 : (if t286 = true then (if t288 = true then (if t285 = t280 then (handshakerlaw21_SwapEnds.j3 kj66 x4_66 (wrap64 (x5_1 + 2)) t271 l0 (l0.length : Int) x30_1 (t287 != t276)) else (none)) else (none)) else (none)) = some r := by rw [if_pos rfl] at H; exact H
                                clear H
                                have H := H1
                                clear H1
                                by_cases c91 : t286 = true
                                · subst c91
                                  have H1 : (if t288 = true then (if t285 = t280 then (handshakerlaw21_SwapEnds.j3 kj66 x4_66 (wrap64 (x5_1 + 2)) t271 l0 (l0.length : Int) x30_1 (t287 != t276)) else (none)) else (none)) = some r := by rw [if_pos rfl] at H; exact H
                                  clear H
                                  have H := H1
                                  clear H1
                                  by_cases c92 : t288 = true
                                  · subst c92
                                    have H1 : (if t285 = t280 then (handshakerlaw21_SwapEnds.j3 kj66 x4_66 (wrap64 (x5_1 + 2)) t271 l0 (l0.length : Int) x30_1 (t287 != t276)) else (none)) = some r := by rw [if_pos rfl] at H; exact H
                                    clear H
                                    have H := H1
                                    clear H1
                                    by_cases c93 : t285 = t280
                                    · rw [if_pos c93] at H
                                      have c93b0 : (t285 == t280) = true := beq_iff_eq.mpr c93
                                      have c93b1 : (t285 != t280) = false := bne_eq_false_iff_eq.mpr c93
                                      clear c93
                                      have H' := Aside0.mk H
                                      clear H
                                      have hnb94 := NB284_250.out
                                      have hnc94 := NB250_284.out
                                      have hcz95_0 : w86.cell? ⟨gb284, 0, none⟩ = some (.int .i64 t274) := (blk_cell BK284.out 0).trans rfl
                                      have hcz95_1 : w86.cell? ⟨gb284, 1, none⟩ = some (.int .i64 t275) := (blk_cell BK284.out 1).trans rfl
                                      have hcz95_2 : w86.cell? ⟨gb284, 2, none⟩ = some (.int .i64 t276) := (blk_cell BK284.out 2).trans rfl
                                      have hcz95_3 : w86.cell? ⟨gb284, 3, none⟩ = some (.int .i64 t277) := (blk_cell BK284.out 3).trans rfl
                                      have hcz95_4 : w86.cell? ⟨gb284, 4, none⟩ = some (.int .i64 t278) := (blk_cell BK284.out 4).trans rfl
                                      have hcz95_5 : w86.cell? ⟨gb284, 5, none⟩ = some (.int .i64 t279) := (blk_cell BK284.out 5).trans rfl
                                      have hcz95_6 : w86.cell? ⟨gb284, 6, none⟩ = some (.int .i64 t280) := (blk_cell BK284.out 6).trans rfl
                                      have hcz95_7 : w86.cell? ⟨gb284, 7, none⟩ = some (.int .i64 t281) := (blk_cell BK284.out 7).trans rfl
                                      have hfz95_0 := blk_frozen BK284.out 0
                                      have hfz95_1 := blk_frozen BK284.out 1
                                      have hfz95_2 := blk_frozen BK284.out 2
                                      have hfz95_3 := blk_frozen BK284.out 3
                                      have hfz95_4 := blk_frozen BK284.out 4
                                      have hfz95_5 := blk_frozen BK284.out 5
                                      have hfz95_6 := blk_frozen BK284.out 6
                                      have hfz95_7 := blk_frozen BK284.out 7
                                      have hcz96_0 : w86.cell? ⟨gb250, 0, none⟩ = some (.int .i64 ((rd_T28 l0 x30_1).f0.f0)) := (blk_cell BK250.out 0).trans rfl
                                      have hcz96_1 : w86.cell? ⟨gb250, 1, none⟩ = some (.int .i64 ((rd_T28 l0 x30_1).f0.f1)) := (blk_cell BK250.out 1).trans rfl
                                      have hcz96_2 : w86.cell? ⟨gb250, 2, none⟩ = some (.int .i64 ((rd_T28 l0 x30_1).f0.f2)) := (blk_cell BK250.out 2).trans rfl
                                      have hcz96_3 : w86.cell? ⟨gb250, 3, none⟩ = some (.int .i64 ((rd_T28 l0 x30_1).f0.f3)) := (blk_cell BK250.out 3).trans rfl
                                      have hcz96_4 : w86.cell? ⟨gb250, 4, none⟩ = some (.bool false) := (blk_cell BK250.out 4).trans rfl
                                      have hcz96_5 : w86.cell? ⟨gb250, 5, none⟩ = some (.bool false) := (blk_cell BK250.out 5).trans rfl
                                      have hfz96_0 := blk_frozen BK250.out 0
                                      have hfz96_1 := blk_frozen BK250.out 1
                                      have hfz96_2 := blk_frozen BK250.out 2
                                      have hfz96_3 := blk_frozen BK250.out 3
                                      have hfz96_4 := blk_frozen BK250.out 4
                                      have hfz96_5 := blk_frozen BK250.out 5
                                      go_wp2_with (first | (go_at_call 13; (with_reducible refine (swap_Meet.calls t274 t275 t276 t277 t278 t279 t280 t281 true _ A89.out).mono ?_); rintro e w97 ⟨rfl, hb⟩; have n0_ := Aside0.mk (Kd.V_below (by (with_reducible repeat (first | apply Kd.V_alloc | apply Kd.V_drewN | apply Kd.V_drew)); exact HO_16.out) hb); have n1_ := Aside0.mk (blk_below (g := gb250) (o := .cells #[.int .i64 ((rd_T28 l0 x30_1).f0.f0), .int .i64 ((rd_T28 l0 x30_1).f0.f1), .int .i64 ((rd_T28 l0 x30_1).f0.f2), .int .i64 ((rd_T28 l0 x30_1).f0.f3), .bool false, .bool false] 28 (0, 0)) (by (with_reducible repeat (first | refine blk_drewN ?_ _ | refine blk_drew ?_ | refine blk_alloc ?_ _)); exact BK250.out) hb); have n2_ := Aside0.mk (blk_below (g := gb284) (o := .cells #[.int .i64 t274, .int .i64 t275, .int .i64 t276, .int .i64 t277, .int .i64 t278, .int .i64 t279, .int .i64 t280, .int .i64 t281] 35 (0, 0)) (by (with_reducible repeat (first | refine blk_drewN ?_ _ | refine blk_drew ?_ | refine blk_alloc ?_ _)); exact BK284.out) hb); have n3_ := Aside0.mk (below_step (by repeat (first | (with_reducible first | exact HB.out | apply below_alloc | apply pw_below_drewN | apply below_drew1 | refine below_set ?_ GE250.out | refine below_set ?_ GE284.out) | exact HB.out)) hb); clear HO_16; clear BK250; clear BK284; clear HB; have HO_16 := n0_; have BK250 := n1_; have BK284 := n2_; have HB := n3_; clear n0_ n1_ n2_ n3_; (try clear hb); (try clear hb2); (try clear hk); (try clear hi); have hcz98_0 : w97.cell? ⟨gb284, 0, none⟩ = some (.int .i64 t274) := (blk_cell BK284.out 0).trans rfl; have hcz98_1 : w97.cell? ⟨gb284, 1, none⟩ = some (.int .i64 t275) := (blk_cell BK284.out 1).trans rfl; have hcz98_2 : w97.cell? ⟨gb284, 2, none⟩ = some (.int .i64 t276) := (blk_cell BK284.out 2).trans rfl; have hcz98_3 : w97.cell? ⟨gb284, 3, none⟩ = some (.int .i64 t277) := (blk_cell BK284.out 3).trans rfl; have hcz98_4 : w97.cell? ⟨gb284, 4, none⟩ = some (.int .i64 t278) := (blk_cell BK284.out 4).trans rfl; have hcz98_5 : w97.cell? ⟨gb284, 5, none⟩ = some (.int .i64 t279) := (blk_cell BK284.out 5).trans rfl; have hcz98_6 : w97.cell? ⟨gb284, 6, none⟩ = some (.int .i64 t280) := (blk_cell BK284.out 6).trans rfl; have hcz98_7 : w97.cell? ⟨gb284, 7, none⟩ = some (.int .i64 t281) := (blk_cell BK284.out 7).trans rfl; have hfz98_0 := blk_frozen BK284.out 0; have hfz98_1 := blk_frozen BK284.out 1; have hfz98_2 := blk_frozen BK284.out 2; have hfz98_3 := blk_frozen BK284.out 3; have hfz98_4 := blk_frozen BK284.out 4; have hfz98_5 := blk_frozen BK284.out 5; have hfz98_6 := blk_frozen BK284.out 6; have hfz98_7 := blk_frozen BK284.out 7))
                                      go_meet
                                      case rel => exact ⟨_, ((t287 != t276)), (by first | rfl | (simp; done) | (simp [*]; done)), H', ⟨by have := HK1.out; have := HJ66.out; first | omega | exact Nat.le_refl _⟩, ⟨by (with_reducible repeat (first | apply Kd.V_alloc | apply Kd.V_drewN | apply Kd.V_drew)); exact HO_16.out⟩, ⟨by (with_reducible repeat (first | refine blk_drewN ?_ _ | refine blk_drew ?_ | refine blk_alloc ?_ _)); exact BK250.out⟩, ⟨by (with_reducible repeat (first | refine blk_drewN ?_ _ | refine blk_drew ?_ | refine blk_alloc ?_ _)); exact BK284.out⟩, ⟨by repeat (first | (with_reducible first | exact HB.out | apply below_alloc | apply pw_below_drewN | apply below_drew1 | refine below_set ?_ GE250.out | refine below_set ?_ GE284.out) | exact HB.out)⟩⟩
                                    · rw [if_neg c93] at H
                                      exact absurd H (by simp)
                                  · replace c92 := Bool.eq_false_iff.mpr c92
                                    subst c92
                                    have H1 : (none) = some r := by rw [if_neg (show ¬ (false = true) by decide)] at H; exact H
                                    clear H
                                    have H := H1
                                    clear H1
                                    exact absurd H (by simp)
                                · replace c91 := Bool.eq_false_iff.mpr c91
                                  subst c91
                                  have H1 : (none) = some r := by rw [if_neg (show ¬ (false = true) by decide)] at H; exact H
                                  clear H
                                  have H := H1
                                  clear H1
                                  exact absurd H (by simp)
                              · replace c90 := Bool.eq_false_iff.mpr c90
                                subst c90
                                have H1 : (none) = some r := by rw [if_neg (show ¬ (false = true) by decide)] at H; exact H
                                clear H
                                have H := H1
                                clear H1
                                exact absurd H (by simp)
                          · rw [if_neg c87] at H
                            exact absurd H (by simp)
                        case rest =>
                          clear HC81
                          try clear c1
                          try clear c2
                          try clear c2b0
                          try clear c2b1
                          try clear p2
                          try clear q2
                          try clear hx2
                          try clear c3
                          try clear c4
                          try clear q4
                          try clear c5
                          try clear c5b0
                          try clear c6
                          try clear c6b0
                          try clear p6
                          try clear c7
                          try clear c7b0
                          try clear c8
                          try clear q8
                          try clear c9
                          try clear c10
                          try clear c11
                          try clear c11b0
                          try clear c11b1
                          try clear c12
                          try clear c12b0
                          try clear c12b1
                          try clear c14
                          try clear c15
                          try clear c15b0
                          try clear c15b1
                          try clear c23
                          try clear p24
                          try clear q24
                          try clear hx24
                          try clear p26
                          try clear q26
                          try clear hx26
                          try clear c29
                          try clear c30
                          try clear c30b0
                          try clear c30b1
                          try clear c38
                          try clear q42
                          try clear c43
                          try clear c52
                          try clear c52b0
                          try clear c53
                          try clear c53b0
                          try clear c54
                          try clear c54b0
                          try clear c55
                          try clear c55b0
                          try clear c55b1
                          try clear c56
                          try clear c56b0
                          try clear c58
                          try clear c62
                          try clear c63
                          try clear c63b0
                          try clear c63b1
                          try clear p64
                          try clear c75
                          try clear c77
                          try clear c77b0
                          try clear c77b1
                          try clear c78
                          try clear c82
                          try clear c87
                          try clear c87b0
                          try clear c87b1
                          try clear c88
                          try clear c88b0
                          try clear c90
                          try clear c91
                          try clear c92
                          try clear c93
                          try clear c93b0
                          try clear c93b1
                          try clear c94
                          try clear hcz17_0
                          try clear hcz17_1
                          try clear hcz17_2
                          try clear hcz17_3
                          try clear hcz17_4
                          try clear hcz17_5
                          try clear hcz19_0
                          try clear hcz19_1
                          try clear hcz19_2
                          try clear hcz19_3
                          try clear hcz19_4
                          try clear hcz19_5
                          try clear hcz24_0
                          try clear hcz24_1
                          try clear hcz24_2
                          try clear hcz24_3
                          try clear hcz25_0
                          try clear hcz25_1
                          try clear hcz25_2
                          try clear hcz25_3
                          try clear hcz25_4
                          try clear hcz25_5
                          try clear hcz32_0
                          try clear hcz32_1
                          try clear hcz32_2
                          try clear hcz32_3
                          try clear hcz32_4
                          try clear hcz32_5
                          try clear hcz34_0
                          try clear hcz34_1
                          try clear hcz34_2
                          try clear hcz34_3
                          try clear hcz34_4
                          try clear hcz34_5
                          try clear hcz39_0
                          try clear hcz39_1
                          try clear hcz39_2
                          try clear hcz39_3
                          try clear hcz46_0
                          try clear hcz46_1
                          try clear hcz46_2
                          try clear hcz46_3
                          try clear hcz46_4
                          try clear hcz46_5
                          try clear hcz48_0
                          try clear hcz48_1
                          try clear hcz48_2
                          try clear hcz48_3
                          try clear hcz48_4
                          try clear hcz48_5
                          try clear hcz59_0
                          try clear hcz59_1
                          try clear hcz59_2
                          try clear hcz59_3
                          try clear hcz60_0
                          try clear hcz60_1
                          try clear hcz60_2
                          try clear hcz60_3
                          try clear hcz60_4
                          try clear hcz60_5
                          try clear hcz69_0
                          try clear hcz69_1
                          try clear hcz69_2
                          try clear hcz69_3
                          try clear hcz69_4
                          try clear hcz69_5
                          try clear hcz71_0
                          try clear hcz71_1
                          try clear hcz71_2
                          try clear hcz71_3
                          try clear hcz71_4
                          try clear hcz71_5
                          try clear hcz76_0
                          try clear hcz76_1
                          try clear hcz76_2
                          try clear hcz76_3
                          try clear hcz76_4
                          try clear hcz76_5
                          try clear hcz76_6
                          try clear hcz76_7
                          try clear hcz83_0
                          try clear hcz83_1
                          try clear hcz83_2
                          try clear hcz83_3
                          try clear hcz83_4
                          try clear hcz83_5
                          try clear hcz83_6
                          try clear hcz83_7
                          try clear hcz85_0
                          try clear hcz85_1
                          try clear hcz85_2
                          try clear hcz85_3
                          try clear hcz85_4
                          try clear hcz85_5
                          try clear hcz85_6
                          try clear hcz85_7
                          try clear hcz95_0
                          try clear hcz95_1
                          try clear hcz95_2
                          try clear hcz95_3
                          try clear hcz95_4
                          try clear hcz95_5
                          try clear hcz95_6
                          try clear hcz95_7
                          try clear hcz96_0
                          try clear hcz96_1
                          try clear hcz96_2
                          try clear hcz96_3
                          try clear hcz96_4
                          try clear hcz96_5
                          try clear hcz98_0
                          try clear hcz98_1
                          try clear hcz98_2
                          try clear hcz98_3
                          try clear hcz98_4
                          try clear hcz98_5
                          try clear hcz98_6
                          try clear hcz98_7
                          try clear hfz17_0
                          try clear hfz17_1
                          try clear hfz17_2
                          try clear hfz17_3
                          try clear hfz17_4
                          try clear hfz17_5
                          try clear hfz19_0
                          try clear hfz19_1
                          try clear hfz19_2
                          try clear hfz19_3
                          try clear hfz19_4
                          try clear hfz19_5
                          try clear hfz24_0
                          try clear hfz24_1
                          try clear hfz24_2
                          try clear hfz24_3
                          try clear hfz25_0
                          try clear hfz25_1
                          try clear hfz25_2
                          try clear hfz25_3
                          try clear hfz25_4
                          try clear hfz25_5
                          try clear hfz32_0
                          try clear hfz32_1
                          try clear hfz32_2
                          try clear hfz32_3
                          try clear hfz32_4
                          try clear hfz32_5
                          try clear hfz34_0
                          try clear hfz34_1
                          try clear hfz34_2
                          try clear hfz34_3
                          try clear hfz34_4
                          try clear hfz34_5
                          try clear hfz39_0
                          try clear hfz39_1
                          try clear hfz39_2
                          try clear hfz39_3
                          try clear hfz46_0
                          try clear hfz46_1
                          try clear hfz46_2
                          try clear hfz46_3
                          try clear hfz46_4
                          try clear hfz46_5
                          try clear hfz48_0
                          try clear hfz48_1
                          try clear hfz48_2
                          try clear hfz48_3
                          try clear hfz48_4
                          try clear hfz48_5
                          try clear hfz59_0
                          try clear hfz59_1
                          try clear hfz59_2
                          try clear hfz59_3
                          try clear hfz60_0
                          try clear hfz60_1
                          try clear hfz60_2
                          try clear hfz60_3
                          try clear hfz60_4
                          try clear hfz60_5
                          try clear hfz69_0
                          try clear hfz69_1
                          try clear hfz69_2
                          try clear hfz69_3
                          try clear hfz69_4
                          try clear hfz69_5
                          try clear hfz71_0
                          try clear hfz71_1
                          try clear hfz71_2
                          try clear hfz71_3
                          try clear hfz71_4
                          try clear hfz71_5
                          try clear hfz76_0
                          try clear hfz76_1
                          try clear hfz76_2
                          try clear hfz76_3
                          try clear hfz76_4
                          try clear hfz76_5
                          try clear hfz76_6
                          try clear hfz76_7
                          try clear hfz83_0
                          try clear hfz83_1
                          try clear hfz83_2
                          try clear hfz83_3
                          try clear hfz83_4
                          try clear hfz83_5
                          try clear hfz83_6
                          try clear hfz83_7
                          try clear hfz85_0
                          try clear hfz85_1
                          try clear hfz85_2
                          try clear hfz85_3
                          try clear hfz85_4
                          try clear hfz85_5
                          try clear hfz85_6
                          try clear hfz85_7
                          try clear hfz95_0
                          try clear hfz95_1
                          try clear hfz95_2
                          try clear hfz95_3
                          try clear hfz95_4
                          try clear hfz95_5
                          try clear hfz95_6
                          try clear hfz95_7
                          try clear hfz96_0
                          try clear hfz96_1
                          try clear hfz96_2
                          try clear hfz96_3
                          try clear hfz96_4
                          try clear hfz96_5
                          try clear hfz98_0
                          try clear hfz98_1
                          try clear hfz98_2
                          try clear hfz98_3
                          try clear hfz98_4
                          try clear hfz98_5
                          try clear hfz98_6
                          try clear hfz98_7
                          try clear hx249_0
                          try clear hx249_1
                          try clear hx249_2
                          try clear hx249_3
                          try clear hx249_4
                          try clear hx249_5
                          try clear hx268_0
                          try clear hx268_1
                          try clear hx268_2
                          try clear hx268_3
                          try clear p2
                          try clear p24
                          try clear p249
                          try clear p26
                          try clear p268
                          try clear p6
                          try clear p64
                          try clear q2
                          try clear q24
                          try clear q249
                          try clear q26
                          try clear q268
                          try clear q4
                          try clear q42
                          try clear q8
                          obtain ⟨kq, x105_80, rfl, HA, HJ80, HO_16, BK250, BK284, HB⟩ := hcut
                          cases kq with
                          | zero => exact absurd HA.out (by simp [handshakerlaw21_SwapEnds.j3])
                          | succ kj80 =>
                            have H := HA.out
                            clear HA
                            simp only [handshakerlaw21_SwapEnds.j3] at H
                            by_cases c99 : x105_80 = true
                            · subst c99
                              have H1 : (none) = some r := by rw [if_pos rfl] at H; exact H
                              clear H
                              have H := H1
                              clear H1
                              exact absurd H (by simp)
                            · replace c99 := Bool.eq_false_iff.mpr c99
                              subst c99
                              have H1 : ((swap_Right.f kj80 t271).bind fun t290 => (if t290 = true then (if x4_66 = (wrap64 ((wrap64 (x5_1 + 2)) + (t271.length : Int))) then (handshakerlaw21_SwapEnds.l0 kj80 t271 x4_66 (wrap64 (x5_1 + 2)) l0 (l0.length : Int) (wrap64 (x30_1 + 1))) else (none)) else (none))) = some r := by rw [if_neg (show ¬ (false = true) by decide)] at H; exact H
                              clear H
                              have H := H1
                              clear H1
                              replace H := Option.bind_eq_some_iff.mp H
                              obtain ⟨t290, A1000, H⟩ := H
                              replace H : (if t290 = true then (if x4_66 = (wrap64 ((wrap64 (x5_1 + 2)) + (t271.length : Int))) then (handshakerlaw21_SwapEnds.l0 kj80 t271 x4_66 (wrap64 (x5_1 + 2)) l0 (l0.length : Int) (wrap64 (x30_1 + 1))) else (none)) else (none)) = some r := H
                              have A100 := Aside0.mk A1000
                              clear A1000
                              by_cases c101 : t290 = true
                              · subst c101
                                have H1 : (if x4_66 = (wrap64 ((wrap64 (x5_1 + 2)) + (t271.length : Int))) then (handshakerlaw21_SwapEnds.l0 kj80 t271 x4_66 (wrap64 (x5_1 + 2)) l0 (l0.length : Int) (wrap64 (x30_1 + 1))) else (none)) = some r := by rw [if_pos rfl] at H; exact H
                                clear H
                                have H := H1
                                clear H1
                                by_cases c102 : x4_66 = (wrap64 ((wrap64 (x5_1 + 2)) + (t271.length : Int)))
                                · rw [if_pos c102] at H
                                  have c102b0 : (x4_66 == (wrap64 ((wrap64 (x5_1 + 2)) + (t271.length : Int)))) = true := beq_iff_eq.mpr c102
                                  have c102b1 : (x4_66 != (wrap64 ((wrap64 (x5_1 + 2)) + (t271.length : Int)))) = false := bne_eq_false_iff_eq.mpr c102
                                  clear c102
                                  have H' := Aside0.mk H
                                  clear H
                                  obtain ⟨Ao103, co103, eo103⟩ := Kd.V_slice HO_16.out
                                  subst eo103
                                  go_wp2_with (first | ((with_reducible refine gate_callee (f := 14) rfl ?_); refine goesL_ (some 166) rfl rfl Try.func14 (by kernel_rfl) rfl #[.slice Ao103 t271.length co103] rfl (by (try simp only [List.map_toArray, List.map_cons, List.map_nil]); first | done | rfl | (simp only [List.length_drop, List.length_take]; rfl)) ?_; (with_reducible refine (swap_Right.calls kj80 _ _ t271 true _ ?side1 ?side2 A100.out).mono ?_); (case side1 => repeat (first | exact (Kd.V_reads' HO_16.out).2.2 | (with_reducible refine Kd.C_alloc ?_ _) | (with_reducible refine Kd.C_drewN ?_ _) | (with_reducible refine Kd.C_drew ?_))); (case side2 => exact (Kd.V_reads' HO_16.out).2.1); rintro e w104 ⟨rfl, hb⟩; refine ⟨_, rfl, ?_⟩; have n0_ := Aside0.mk (Kd.V_below (by (with_reducible repeat (first | apply Kd.V_alloc | apply Kd.V_drewN | apply Kd.V_drew)); exact HO_16.out) hb); have n1_ := Aside0.mk (blk_below (g := gb250) (o := .cells #[.int .i64 ((rd_T28 l0 x30_1).f0.f0), .int .i64 ((rd_T28 l0 x30_1).f0.f1), .int .i64 ((rd_T28 l0 x30_1).f0.f2), .int .i64 ((rd_T28 l0 x30_1).f0.f3), .bool false, .bool false] 28 (0, 0)) (by (with_reducible repeat (first | refine blk_drewN ?_ _ | refine blk_drew ?_ | refine blk_alloc ?_ _)); exact BK250.out) hb); have n2_ := Aside0.mk (blk_below (g := gb284) (o := .cells #[.int .i64 t274, .int .i64 t275, .int .i64 t276, .int .i64 t277, .int .i64 t278, .int .i64 t279, .int .i64 t280, .int .i64 t281] 35 (0, 0)) (by (with_reducible repeat (first | refine blk_drewN ?_ _ | refine blk_drew ?_ | refine blk_alloc ?_ _)); exact BK284.out) hb); have n3_ := Aside0.mk (below_step (by repeat (first | (with_reducible first | exact HB.out | apply below_alloc | apply pw_below_drewN | apply below_drew1 | refine below_set ?_ GE250.out | refine below_set ?_ GE284.out) | exact HB.out)) hb); clear HO_16; clear BK250; clear BK284; clear HB; have HO_16 := n0_; have BK250 := n1_; have BK284 := n2_; have HB := n3_; clear n0_ n1_ n2_ n3_; (try clear hb); (try clear hb2); (try clear hk); (try clear hi)))
                                  go_roundg kj80
                                  case measure => have := HK1.out; have := HJ66.out; have := HJ80.out; omega
                                  case rel => exact ⟨(t271), (x4_66), ((wrap64 (x5_1 + 2))), (wrap64 (x30_1 + 1)), (by first | rfl | (simp; done) | (simp [*]; done)), (by first | rfl | (simp; done) | (simp [*]; done)), (by first | rfl | (simp; done) | (simp [*]; done)), H', ⟨by have := HK1.out; have := HJ66.out; have := HJ80.out; omega⟩, ⟨by (with_reducible repeat (first | apply Kd.V_alloc | apply Kd.V_drewN | apply Kd.V_drew)); exact Kd.V_mono HO_16.out (fun _ hk => trivial)⟩, ⟨by repeat (first | (with_reducible first | exact HB.out | apply below_alloc | apply pw_below_drewN | apply below_drew1 | refine below_set ?_ GE250.out | refine below_set ?_ GE284.out) | exact HB.out)⟩⟩
                                · rw [if_neg c102] at H
                                  exact absurd H (by simp)
                              · replace c101 := Bool.eq_false_iff.mpr c101
                                subst c101
                                have H1 : (none) = some r := by rw [if_neg (show ¬ (false = true) by decide)] at H; exact H
                                clear H
                                have H := H1
                                clear H1
                                exact absurd H (by simp)
                      · replace c78 := Bool.eq_false_iff.mpr c78
                        subst c78
                        have H1 : ((swap_Right.f kj66 t271).bind fun t291 => (if t291 = true then (if x4_66 = (wrap64 (x5_1 + (t271.length : Int))) then (handshakerlaw21_SwapEnds.l0 kj66 t271 x4_66 x5_1 l0 (l0.length : Int) (wrap64 (x30_1 + 1))) else (none)) else (none))) = some r := by rw [if_neg (show ¬ (false = true) by decide)] at H; exact H
                        clear H
                        have H := H1
                        clear H1
                        replace H := Option.bind_eq_some_iff.mp H
                        obtain ⟨t291, A1050, H⟩ := H
                        replace H : (if t291 = true then (if x4_66 = (wrap64 (x5_1 + (t271.length : Int))) then (handshakerlaw21_SwapEnds.l0 kj66 t271 x4_66 x5_1 l0 (l0.length : Int) (wrap64 (x30_1 + 1))) else (none)) else (none)) = some r := H
                        have A105 := Aside0.mk A1050
                        clear A1050
                        by_cases c106 : t291 = true
                        · subst c106
                          have H1 : (if x4_66 = (wrap64 (x5_1 + (t271.length : Int))) then (handshakerlaw21_SwapEnds.l0 kj66 t271 x4_66 x5_1 l0 (l0.length : Int) (wrap64 (x30_1 + 1))) else (none)) = some r := by rw [if_pos rfl] at H; exact H
                          clear H
                          have H := H1
                          clear H1
                          by_cases c107 : x4_66 = (wrap64 (x5_1 + (t271.length : Int)))
                          · rw [if_pos c107] at H
                            have c107b0 : (x4_66 == (wrap64 (x5_1 + (t271.length : Int)))) = true := beq_iff_eq.mpr c107
                            have c107b1 : (x4_66 != (wrap64 (x5_1 + (t271.length : Int)))) = false := bne_eq_false_iff_eq.mpr c107
                            clear c107
                            have H' := Aside0.mk H
                            clear H
                            obtain ⟨Ao108, co108, eo108⟩ := Kd.V_slice HO_16.out
                            subst eo108
                            go_wp2_with (first | ((with_reducible refine gate_callee (f := 14) rfl ?_); refine goesL_ (some 166) rfl rfl Try.func14 (by kernel_rfl) rfl #[.slice Ao108 t271.length co108] rfl (by (try simp only [List.map_toArray, List.map_cons, List.map_nil]); first | done | rfl | (simp only [List.length_drop, List.length_take]; rfl)) ?_; (with_reducible refine (swap_Right.calls kj66 _ _ t271 true _ ?side1 ?side2 A105.out).mono ?_); (case side1 => repeat (first | exact (Kd.V_reads' HO_16.out).2.2 | (with_reducible refine Kd.C_alloc ?_ _) | (with_reducible refine Kd.C_drewN ?_ _) | (with_reducible refine Kd.C_drew ?_))); (case side2 => exact (Kd.V_reads' HO_16.out).2.1); rintro e w109 ⟨rfl, hb⟩; refine ⟨_, rfl, ?_⟩; have n0_ := Aside0.mk (Kd.V_below (by (with_reducible repeat (first | apply Kd.V_alloc | apply Kd.V_drewN | apply Kd.V_drew)); exact HO_16.out) hb); have n1_ := Aside0.mk (blk_below (g := gb250) (o := .cells #[.int .i64 ((rd_T28 l0 x30_1).f0.f0), .int .i64 ((rd_T28 l0 x30_1).f0.f1), .int .i64 ((rd_T28 l0 x30_1).f0.f2), .int .i64 ((rd_T28 l0 x30_1).f0.f3), .bool false, .bool false] 28 (0, 0)) (by (with_reducible repeat (first | refine blk_drewN ?_ _ | refine blk_drew ?_ | refine blk_alloc ?_ _)); exact BK250.out) hb); have n2_ := Aside0.mk (blk_below (g := gb284) (o := .cells #[.int .i64 t274, .int .i64 t275, .int .i64 t276, .int .i64 t277, .int .i64 t278, .int .i64 t279, .int .i64 t280, .int .i64 t281] 35 (0, 0)) (by (with_reducible repeat (first | refine blk_drewN ?_ _ | refine blk_drew ?_ | refine blk_alloc ?_ _)); exact BK284.out) hb); have n3_ := Aside0.mk (below_step (by repeat (first | (with_reducible first | exact HB.out | apply below_alloc | apply pw_below_drewN | apply below_drew1 | refine below_set ?_ GE250.out | refine below_set ?_ GE284.out) | exact HB.out)) hb); clear HO_16; clear BK250; clear BK284; clear HB; have HO_16 := n0_; have BK250 := n1_; have BK284 := n2_; have HB := n3_; clear n0_ n1_ n2_ n3_; (try clear hb); (try clear hb2); (try clear hk); (try clear hi)))
                            go_roundg kj66
                            case measure => have := HK1.out; have := HJ66.out; omega
                            case rel => exact ⟨(t271), (x4_66), (x5_1), (wrap64 (x30_1 + 1)), (by first | rfl | (simp; done) | (simp [*]; done)), (by first | rfl | (simp; done) | (simp [*]; done)), (by first | rfl | (simp; done) | (simp [*]; done)), H', ⟨by have := HK1.out; have := HJ66.out; omega⟩, ⟨by (with_reducible repeat (first | apply Kd.V_alloc | apply Kd.V_drewN | apply Kd.V_drew)); exact Kd.V_mono HO_16.out (fun _ hk => trivial)⟩, ⟨by repeat (first | (with_reducible first | exact HB.out | apply below_alloc | apply pw_below_drewN | apply below_drew1 | refine below_set ?_ GE250.out | refine below_set ?_ GE284.out) | exact HB.out)⟩⟩
                          · rw [if_neg c107] at H
                            exact absurd H (by simp)
                        · replace c106 := Bool.eq_false_iff.mpr c106
                          subst c106
                          have H1 : (none) = some r := by rw [if_neg (show ¬ (false = true) by decide)] at H; exact H
                          clear H
                          have H := H1
                          clear H1
                          exact absurd H (by simp)
            · rw [if_neg c7] at H
              exact absurd H (by simp)
          · rw [if_neg c6] at H
            exact absurd H (by simp)
        · rw [if_neg c5] at H
          have c5b0 : decide (x30_1 < (l0.length : Int)) = false := decide_eq_false c5
          clear c5
          replace H := Option.bind_eq_some_iff.mp H
          obtain ⟨t248, A1100, H⟩ := H
          replace H : (some t248) = some r := H
          have A110 := Aside0.mk A1100
          clear A1100
          obtain rfl := Option.some.inj H
          go_wp2_with (first | ((with_reducible refine gate_callee (f := 8) rfl ?_); refine goesL_ (some 177) rfl rfl Try.func8 (by kernel_rfl) rfl #[] rfl (by (try simp only [List.map_toArray, List.map_cons, List.map_nil]); first | done | rfl | (simp only [List.length_drop, List.length_take]; rfl)) ?_; (with_reducible refine (handshakerlaw21_awake.calls k1  t248 _ A110.out).mono ?_); rintro e w111 ⟨rfl, hb⟩; refine ⟨_, rfl, ?_⟩; have n0_ := Aside0.mk (Kd.V_below (by (with_reducible repeat (first | apply Kd.V_alloc | apply Kd.V_drewN | apply Kd.V_drew)); exact HO_3.out) hb); have n1_ := Aside0.mk (below_step (by repeat (first | (with_reducible first | exact HB.out | apply below_alloc | apply pw_below_drewN | apply below_drew1) | exact HB.out)) hb); clear HO_3; clear HB; have HO_3 := n0_; have HB := n1_; clear n0_ n1_; (try clear hb); (try clear hb2); (try clear hk); (try clear hi)))
          go_ret
          exact ⟨by first | rfl | (simp [errW_none, errW_some] <;> rfl) | (simp [*, errW_none, errW_some] <;> rfl), by repeat (first | (with_reducible first | exact HB.out | apply below_alloc | apply pw_below_drewN | apply below_drew1) | exact HB.out)⟩

end Go.Proofs.Ytpmcoehggajmcaa.PSwapEnds
