/- Lean functions that say what functions of the given program compute, and proofs by walking the code that each call does just that; no condition but those that each statement names. -/
import Derived.Test.YtpmcoehggajmcaaPSwapBothx0
import Derived.Test.YtpmcoehggajmcaaPSwapBothx1
import Derived.Test.YtpmcoehggajmcaaPSwapBothx3
namespace Go.Proofs.Ytpmcoehggajmcaa.PSwapBoth
open Go.RowKit Go.Proofs.YtpmcoehggajmcaaW.PrintWords Go.Proofs.YtpmcoehggajmcaaW.PrintLast Go.Proofs.YtpmcoehggajmcaaW.PrintMore
attribute [local go_sem] max2_int min2_int max_two min_two max_three min_three max_four min_four   -- for this text's walks alone
set_option linter.unusedVariables false
set_option linter.unusedSimpArgs false

/-! ### handshakerlaw21_SwapBoth: function 4 -/
mutual
def handshakerlaw21_SwapBoth.j1 : Nat → Int → Int → Bool → Int → Int → Int → Int → Int → Int → Int → Int → Option (Bool)
  | 0, _, _, _, _, _, _, _, _, _, _, _ => none
  | k + 1, x2, x3, x4, x248000, x248001, x248002, x248003, x249000, x249001, x249002, x249003 => (swap_Put.f k ([] : List (S26)) x248000 x248001 x248002 x248003).bind fun bt251 => ((swap_Put.f k bt251.1 x249000 x249001 x249002 x249003).bind fun bt265 => (if bt251.2.2.2.2.2.2.2.2.2.2 = 0 then (if bt265.2.2.2.2.2.2.2.2.2.2 = 0 then (if bt251.2.2.2.2.2.2.2.2.2.1 = true then (none) else (handshakerlaw21_SwapBoth.j2 k x2 x3 x4 bt265.1 (bt265.2.2.2.2.2.2.2.2.2.1 == x4) x248000 x248001 x248002 x248003 x249000 x249001 x249002 x249003 bt265.2.1 bt265.2.2.1 bt265.2.2.2.1 bt265.2.2.2.2.1 bt265.2.2.2.2.2.1 bt265.2.2.2.2.2.2.1 bt265.2.2.2.2.2.2.2.1 bt265.2.2.2.2.2.2.2.2.1)) else (none)) else (none)))
def handshakerlaw21_SwapBoth.j2 : Nat → Int → Int → Bool → List (S26) → Bool → Int → Int → Int → Int → Int → Int → Int → Int → Int → Int → Int → Int → Int → Int → Int → Int → Option (Bool)
  | 0, _, _, _, _, _, _, _, _, _, _, _, _, _, _, _, _, _, _, _, _, _ => none
  | k + 1, x2, x3, x4, x18, x97, x248000, x248001, x248002, x248003, x249000, x249001, x249002, x249003, x279000, x279001, x279002, x279003, x279004, x279005, x279006, x279007 => if x97 = true then (none) else (if x4 = true then (if (x18.length : Int) = 2 then ((swap_Meet.f x248000 x248001 x248002 x248003 x249000 x249001 x249002 x249003).bind fun t279 => (if t279 = true then (none) else ((handshakerlaw21_awake.f k).bind fun t280 => (some t280)))) else (none)) else ((swap_Got.f x279000 x279001 x279002 x279003 x279004 x279005 x279006 x279007 x248000).bind fun bt281 => ((swap_Got.f x279000 x279001 x279002 x279003 x279004 x279005 x279006 x279007 x249000).bind fun bt283 => (if (x18.length : Int) = 0 then (if bt281.2 = true then (if bt283.2 = true then (if bt281.1 = (wrap64 (x3)) then (if bt283.1 = (wrap64 (x2)) then ((handshakerlaw21_awake.f k).bind fun t285 => (some t285)) else (none)) else (none)) else (none)) else (none)) else (none)))))
def handshakerlaw21_SwapBoth.l0 : Nat → Int → Int → Bool → Int → Int → Int → Int → Int → Int → Int → Int → Int → Option (Bool)
  | 0, _, _, _, _, _, _, _, _, _, _, _, _ => none
  | k + 1, x2, x3, x4, x13, x248000, x248001, x248002, x248003, x249000, x249001, x249002, x249003 => if x13 ≤ 8 then (if x13 = x248000 then (handshakerlaw21_SwapBoth.l0 k x2 x3 x4 (wrap64 (x13 + 1)) x248000 x248001 x248002 x248003 x249000 x249001 x249002 x249003) else (if x13 = x249000 then (handshakerlaw21_SwapBoth.l0 k x2 x3 x4 (wrap64 (x13 + 1)) x248000 x248001 x248002 x248003 x249000 x249001 x249002 x249003) else (handshakerlaw21_SwapBoth.l0 k x2 x3 x4 (wrap64 (x13 + 1)) x248000 x13 x248002 x248003 x249000 x249001 x249002 x249003))) else (handshakerlaw21_SwapBoth.j1 k x2 x3 x4 x248000 x248001 x248002 x248003 x249000 x249001 x249002 x249003)
end
def handshakerlaw21_SwapBoth.f (k : Nat) (a0 : Int) (a1 : Int) (a2 : Int) (a3 : Int) (a4 : Bool) : Option (Bool) := if (wrap64 (1 + (wrap64 (Int.tmod a0 8)))) = (wrap64 (1 + (wrap64 (Int.tmod a1 8)))) then ((swap_Meet.f (wrap64 (1 + (wrap64 (Int.tmod a0 8)))) 0 (wrap64 (a2)) 0 (wrap64 (1 + (wrap64 (Int.tmod a1 8)))) 0 (wrap64 (a3)) 0).bind fun t249 => (if t249 = true then (none) else ((handshakerlaw21_awake.f k).bind fun t250 => (some t250)))) else (if a4 = true then (handshakerlaw21_SwapBoth.l0 k a2 a3 a4 1 (wrap64 (1 + (wrap64 (Int.tmod a0 8)))) 0 (wrap64 (a2)) 0 (wrap64 (1 + (wrap64 (Int.tmod a1 8)))) 0 (wrap64 (a3)) 0) else (handshakerlaw21_SwapBoth.j1 k a2 a3 a4 (wrap64 (1 + (wrap64 (Int.tmod a0 8)))) 0 (wrap64 (a2)) 0 (wrap64 (1 + (wrap64 (Int.tmod a1 8)))) 0 (wrap64 (a3)) 0))
theorem handshakerlaw21_SwapBoth.mono_l : ∀ k, (∀ y0 y1 y2 y3 y4 y5 y6 y7 y8 y9 y10, LeO (handshakerlaw21_SwapBoth.j1 k y0 y1 y2 y3 y4 y5 y6 y7 y8 y9 y10) (handshakerlaw21_SwapBoth.j1 (k + 1) y0 y1 y2 y3 y4 y5 y6 y7 y8 y9 y10)) ∧ (∀ y0 y1 y2 y3 y4 y5 y6 y7 y8 y9 y10 y11 y12 y13 y14 y15 y16 y17 y18 y19 y20, LeO (handshakerlaw21_SwapBoth.j2 k y0 y1 y2 y3 y4 y5 y6 y7 y8 y9 y10 y11 y12 y13 y14 y15 y16 y17 y18 y19 y20) (handshakerlaw21_SwapBoth.j2 (k + 1) y0 y1 y2 y3 y4 y5 y6 y7 y8 y9 y10 y11 y12 y13 y14 y15 y16 y17 y18 y19 y20)) ∧ (∀ y0 y1 y2 y3 y4 y5 y6 y7 y8 y9 y10 y11, LeO (handshakerlaw21_SwapBoth.l0 k y0 y1 y2 y3 y4 y5 y6 y7 y8 y9 y10 y11) (handshakerlaw21_SwapBoth.l0 (k + 1) y0 y1 y2 y3 y4 y5 y6 y7 y8 y9 y10 y11))
  | 0 => ⟨fun _ _ _ _ _ _ _ _ _ _ _ r h => by simp [handshakerlaw21_SwapBoth.j1] at h, fun _ _ _ _ _ _ _ _ _ _ _ _ _ _ _ _ _ _ _ _ _ r h => by simp [handshakerlaw21_SwapBoth.j2] at h, fun _ _ _ _ _ _ _ _ _ _ _ _ r h => by simp [handshakerlaw21_SwapBoth.l0] at h⟩
  | k + 1 => by
    obtain ⟨ih0, ih1, ih2⟩ := handshakerlaw21_SwapBoth.mono_l k
    refine ⟨?_, ?_, ?_⟩
    · intro y0 y1 y2 y3 y4 y5 y6 y7 y8 y9 y10
      unfold handshakerlaw21_SwapBoth.j1
      repeat' first
      | (with_reducible exact ih0 _ _ _ _ _ _ _ _ _ _ _)
      | (with_reducible exact ih1 _ _ _ _ _ _ _ _ _ _ _ _ _ _ _ _ _ _ _ _ _)
      | (with_reducible exact ih2 _ _ _ _ _ _ _ _ _ _ _ _)
      | (with_reducible exact handshakerlaw21_awake.mono _)
      | (with_reducible exact swap_Put.mono _ _ _ _ _ _)
      | (with_reducible exact LeO.refl _)
      | (with_reducible exact LeO.none _)
      | (with_reducible refine LeO.ite ?_ ?_)
      | (with_reducible refine LeO.bind ?_ (fun _ => ?_))
      | exact ih0 _ _ _ _ _ _ _ _ _ _ _
      | exact ih1 _ _ _ _ _ _ _ _ _ _ _ _ _ _ _ _ _ _ _ _ _
      | exact ih2 _ _ _ _ _ _ _ _ _ _ _ _
      | exact handshakerlaw21_awake.mono _
      | exact swap_Put.mono _ _ _ _ _ _
      | exact LeO.none _
      | refine LeO.ite ?_ ?_
      | refine LeO.bind ?_ (fun _ => ?_)
    · intro y0 y1 y2 y3 y4 y5 y6 y7 y8 y9 y10 y11 y12 y13 y14 y15 y16 y17 y18 y19 y20
      unfold handshakerlaw21_SwapBoth.j2
      repeat' first
      | (with_reducible exact ih0 _ _ _ _ _ _ _ _ _ _ _)
      | (with_reducible exact ih1 _ _ _ _ _ _ _ _ _ _ _ _ _ _ _ _ _ _ _ _ _)
      | (with_reducible exact ih2 _ _ _ _ _ _ _ _ _ _ _ _)
      | (with_reducible exact handshakerlaw21_awake.mono _)
      | (with_reducible exact swap_Put.mono _ _ _ _ _ _)
      | (with_reducible exact LeO.refl _)
      | (with_reducible exact LeO.none _)
      | (with_reducible refine LeO.ite ?_ ?_)
      | (with_reducible refine LeO.bind ?_ (fun _ => ?_))
      | exact ih0 _ _ _ _ _ _ _ _ _ _ _
      | exact ih1 _ _ _ _ _ _ _ _ _ _ _ _ _ _ _ _ _ _ _ _ _
      | exact ih2 _ _ _ _ _ _ _ _ _ _ _ _
      | exact handshakerlaw21_awake.mono _
      | exact swap_Put.mono _ _ _ _ _ _
      | exact LeO.none _
      | refine LeO.ite ?_ ?_
      | refine LeO.bind ?_ (fun _ => ?_)
    · intro y0 y1 y2 y3 y4 y5 y6 y7 y8 y9 y10 y11
      unfold handshakerlaw21_SwapBoth.l0
      repeat' first
      | (with_reducible exact ih0 _ _ _ _ _ _ _ _ _ _ _)
      | (with_reducible exact ih1 _ _ _ _ _ _ _ _ _ _ _ _ _ _ _ _ _ _ _ _ _)
      | (with_reducible exact ih2 _ _ _ _ _ _ _ _ _ _ _ _)
      | (with_reducible exact handshakerlaw21_awake.mono _)
      | (with_reducible exact swap_Put.mono _ _ _ _ _ _)
      | (with_reducible exact LeO.refl _)
      | (with_reducible exact LeO.none _)
      | (with_reducible refine LeO.ite ?_ ?_)
      | (with_reducible refine LeO.bind ?_ (fun _ => ?_))
      | exact ih0 _ _ _ _ _ _ _ _ _ _ _
      | exact ih1 _ _ _ _ _ _ _ _ _ _ _ _ _ _ _ _ _ _ _ _ _
      | exact ih2 _ _ _ _ _ _ _ _ _ _ _ _
      | exact handshakerlaw21_awake.mono _
      | exact swap_Put.mono _ _ _ _ _ _
      | exact LeO.none _
      | refine LeO.ite ?_ ?_
      | refine LeO.bind ?_ (fun _ => ?_)
theorem handshakerlaw21_SwapBoth.mono : ∀ a0 a1 a2 a3 a4 k, LeO (handshakerlaw21_SwapBoth.f k a0 a1 a2 a3 a4) (handshakerlaw21_SwapBoth.f (k + 1) a0 a1 a2 a3 a4) := by
  intro a0 a1 a2 a3 a4 k
  obtain ⟨ih0, ih1, ih2⟩ := handshakerlaw21_SwapBoth.mono_l k
  unfold handshakerlaw21_SwapBoth.f
  repeat' first
      | (with_reducible exact ih0 _ _ _ _ _ _ _ _ _ _ _)
      | (with_reducible exact ih1 _ _ _ _ _ _ _ _ _ _ _ _ _ _ _ _ _ _ _ _ _)
      | (with_reducible exact ih2 _ _ _ _ _ _ _ _ _ _ _ _)
      | (with_reducible exact handshakerlaw21_awake.mono _)
      | (with_reducible exact swap_Put.mono _ _ _ _ _ _)
      | (with_reducible exact LeO.refl _)
      | (with_reducible exact LeO.none _)
      | (with_reducible refine LeO.ite ?_ ?_)
      | (with_reducible refine LeO.bind ?_ (fun _ => ?_))
      | exact ih0 _ _ _ _ _ _ _ _ _ _ _
      | exact ih1 _ _ _ _ _ _ _ _ _ _ _ _ _ _ _ _ _ _ _ _ _
      | exact ih2 _ _ _ _ _ _ _ _ _ _ _ _
      | exact handshakerlaw21_awake.mono _
      | exact swap_Put.mono _ _ _ _ _ _
      | exact LeO.none _
      | refine LeO.ite ?_ ?_
      | refine LeO.bind ?_ (fun _ => ?_)
set_option maxHeartbeats 8000000 in
set_option maxRecDepth 100000 in
theorem handshakerlaw21_SwapBoth.calls (k : Nat) (a0 : Int) (a1 : Int) (a2 : Int) (a3 : Int) (a4 : Bool) (r : Bool) (w : World) (h : handshakerlaw21_SwapBoth.f k a0 a1 a2 a3 a4 = some r) :
    Calls Try.prog 4 #[.int .u8 a0, .int .u8 a1, .int .i32 a2, .int .i32 a3, .bool a4] w fun e w' => e = .returned (.bool r) ∧ Below w.heap.size w w' := by
  have hu26 := Try.underlying26
  have hu35 := Try.underlying35
  have HB := Aside0.mk (Below.refl w.heap.size w)
  have H : (if (wrap64 (1 + (wrap64 (Int.tmod a0 8)))) = (wrap64 (1 + (wrap64 (Int.tmod a1 8)))) then ((swap_Meet.f (wrap64 (1 + (wrap64 (Int.tmod a0 8)))) 0 (wrap64 (a2)) 0 (wrap64 (1 + (wrap64 (Int.tmod a1 8)))) 0 (wrap64 (a3)) 0).bind fun t249 => (if t249 = true then (none) else ((handshakerlaw21_awake.f k).bind fun t250 => (some t250)))) else (if a4 = true then (handshakerlaw21_SwapBoth.l0 k a2 a3 a4 1 (wrap64 (1 + (wrap64 (Int.tmod a0 8)))) 0 (wrap64 (a2)) 0 (wrap64 (1 + (wrap64 (Int.tmod a1 8)))) 0 (wrap64 (a3)) 0) else (handshakerlaw21_SwapBoth.j1 k a2 a3 a4 (wrap64 (1 + (wrap64 (Int.tmod a0 8)))) 0 (wrap64 (a2)) 0 (wrap64 (1 + (wrap64 (Int.tmod a1 8)))) 0 (wrap64 (a3)) 0))) = some r := h
  clear h
  by_cases c6 : (wrap64 (1 + (wrap64 (Int.tmod a0 8)))) = (wrap64 (1 + (wrap64 (Int.tmod a1 8))))
  · rw [if_pos c6] at H
    have c6b0 : ((wrap64 (1 + (wrap64 (Int.tmod a0 8)))) == (wrap64 (1 + (wrap64 (Int.tmod a1 8))))) = true := beq_iff_eq.mpr c6
    have c6b1 : ((wrap64 (1 + (wrap64 (Int.tmod a0 8)))) != (wrap64 (1 + (wrap64 (Int.tmod a1 8))))) = false := bne_eq_false_iff_eq.mpr c6
    clear c6
    replace H := Option.bind_eq_some_iff.mp H
    obtain ⟨t249, A70, H⟩ := H
    replace H : (if t249 = true then (none) else ((handshakerlaw21_awake.f k).bind fun t250 => (some t250))) = some r := H
    have A7 := Aside0.mk A70
    clear A70
    by_cases c8 : t249 = true
    · subst c8
      have H1 : (none) = some r := by rw [if_pos rfl] at H; exact H
      clear H
      have H := H1
      clear H1
      exact absurd H (by simp)
    · replace c8 := Bool.eq_false_iff.mpr c8
      subst c8
      have H1 : ((handshakerlaw21_awake.f k).bind fun t250 => (some t250)) = some r := by rw [if_neg (show ¬ (false = true) by decide)] at H; exact H
      clear H
      have H := H1
      clear H1
      replace H := Option.bind_eq_some_iff.mp H
      obtain ⟨t250, A90, H⟩ := H
      replace H : (some t250) = some r := H
      have A9 := Aside0.mk A90
      clear A90
      obtain rfl := Option.some.inj H
      go_enter Try.func4, Try.ntmps4
      go_wp2_with (first | ((with_reducible refine gate_dst (N := 11) rfl ?_); refine box_event ?hg (N := 11) ?hd (cs := #[.int .i64 0, .int .i64 0, .int .i64 0, .int .i64 0]) (t := 26) ?hr ?_; (case hd => rfl); (case hg => rfl); (case hr => first | (go_simp; done) | (go_simp; rfl)); intro gb247 hg w10 hbox hb; have n0_ := Aside0.mk (below_step (by repeat (first | (with_reducible first | exact HB.out | apply below_alloc | apply pw_below_drewN | apply below_drew1) | exact HB.out)) hb); have n1_ := Aside0.mk (hbox); have n2_ := Aside0.mk ((by rw [hg]; exact (below_size (by repeat (first | (with_reducible first | exact HB.out | apply below_alloc | apply pw_below_drewN | apply below_drew1) | exact HB.out))) : w.heap.size ≤ gb247)); have n3_ := Aside0.mk ((by rw [hg]; exact (below_size (by repeat (first | (with_reducible first | exact HB.out | apply below_alloc | apply pw_below_drewN | apply below_drew1) | exact HB.out))) : w.heap.size ≤ gb247)); clear HB; have HB := n0_; have BK247 := n1_; have GW247 := n2_; have GE247 := n3_; clear n0_ n1_ n2_ n3_; clear hb hbox hg; have hcz11_0 : w10.cell? ⟨gb247, 0, none⟩ = some (.int .i64 0) := (blk_cell BK247.out 0).trans rfl; have hcz11_1 : w10.cell? ⟨gb247, 1, none⟩ = some (.int .i64 0) := (blk_cell BK247.out 1).trans rfl; have hcz11_2 : w10.cell? ⟨gb247, 2, none⟩ = some (.int .i64 0) := (blk_cell BK247.out 2).trans rfl; have hcz11_3 : w10.cell? ⟨gb247, 3, none⟩ = some (.int .i64 0) := (blk_cell BK247.out 3).trans rfl; have hfz11_0 := blk_frozen BK247.out 0; have hfz11_1 := blk_frozen BK247.out 1; have hfz11_2 := blk_frozen BK247.out 2; have hfz11_3 := blk_frozen BK247.out 3) | ((with_reducible refine gate_dst (N := 12) rfl ?_); refine box_event ?hg (N := 12) ?hd (cs := #[.int .i64 0, .int .i64 0, .int .i64 0, .int .i64 0]) (t := 26) ?hr ?_; (case hd => rfl); (case hg => rfl); (case hr => first | (go_simp; done) | (go_simp; rfl)); intro gb248 hg w12 hbox hb; have n0_ := Aside0.mk (blk_below (g := gb247) (o := .cells #[.int .i64 (wrap64 (1 + (wrap64 (Int.tmod a0 8)))), .int .i64 0, .int .i64 (wrap64 (a2)), .int .i64 0] 26 (0, 0)) (by (with_reducible repeat (first | refine blk_drewN ?_ _ | refine blk_drew ?_ | refine blk_alloc ?_ _)); refine blk_put (cs := #[.int .i64 (wrap64 (1 + (wrap64 (Int.tmod a0 8)))), .int .i64 0, .int .i64 (wrap64 (a2)), .int .i64 0]) ?_ 3 _ rfl; (with_reducible repeat (first | refine blk_drewN ?_ _ | refine blk_drew ?_ | refine blk_alloc ?_ _)); refine blk_put (cs := #[.int .i64 (wrap64 (1 + (wrap64 (Int.tmod a0 8)))), .int .i64 0, .int .i64 0, .int .i64 0]) ?_ 2 _ rfl; (with_reducible repeat (first | refine blk_drewN ?_ _ | refine blk_drew ?_ | refine blk_alloc ?_ _)); refine blk_put (cs := #[.int .i64 (wrap64 (1 + (wrap64 (Int.tmod a0 8)))), .int .i64 0, .int .i64 0, .int .i64 0]) ?_ 1 _ rfl; (with_reducible repeat (first | refine blk_drewN ?_ _ | refine blk_drew ?_ | refine blk_alloc ?_ _)); refine blk_put (cs := #[.int .i64 0, .int .i64 0, .int .i64 0, .int .i64 0]) ?_ 0 _ rfl; (with_reducible repeat (first | refine blk_drewN ?_ _ | refine blk_drew ?_ | refine blk_alloc ?_ _)); exact BK247.out) hb); have n1_ := Aside0.mk (below_step (by repeat (first | (with_reducible first | exact HB.out | apply below_alloc | apply pw_below_drewN | apply below_drew1 | refine below_set ?_ GE247.out) | exact HB.out)) hb); have n2_ := Aside0.mk (hbox); have n3_ := Aside0.mk ((by rw [hg]; exact (below_size (by repeat (first | (with_reducible first | exact HB.out | apply below_alloc | apply pw_below_drewN | apply below_drew1 | refine below_set ?_ GE247.out) | exact HB.out))) : w.heap.size ≤ gb248)); have n4_ := Aside0.mk ((by rw [hg]; exact (below_size (by repeat (first | (with_reducible first | exact HB.out | apply below_alloc | apply pw_below_drewN | apply below_drew1 | refine below_set ?_ GE247.out) | exact HB.out))) : w.heap.size ≤ gb248)); have n5_ := Aside0.mk ((by rw [hg]; exact Nat.ne_of_lt (blk_lt (g := gb247) (o := .cells #[.int .i64 (wrap64 (1 + (wrap64 (Int.tmod a0 8)))), .int .i64 0, .int .i64 (wrap64 (a2)), .int .i64 0] 26 (0, 0)) (by (with_reducible repeat (first | refine blk_drewN ?_ _ | refine blk_drew ?_ | refine blk_alloc ?_ _)); refine blk_put (cs := #[.int .i64 (wrap64 (1 + (wrap64 (Int.tmod a0 8)))), .int .i64 0, .int .i64 (wrap64 (a2)), .int .i64 0]) ?_ 3 _ rfl; (with_reducible repeat (first | refine blk_drewN ?_ _ | refine blk_drew ?_ | refine blk_alloc ?_ _)); refine blk_put (cs := #[.int .i64 (wrap64 (1 + (wrap64 (Int.tmod a0 8)))), .int .i64 0, .int .i64 0, .int .i64 0]) ?_ 2 _ rfl; (with_reducible repeat (first | refine blk_drewN ?_ _ | refine blk_drew ?_ | refine blk_alloc ?_ _)); refine blk_put (cs := #[.int .i64 (wrap64 (1 + (wrap64 (Int.tmod a0 8)))), .int .i64 0, .int .i64 0, .int .i64 0]) ?_ 1 _ rfl; (with_reducible repeat (first | refine blk_drewN ?_ _ | refine blk_drew ?_ | refine blk_alloc ?_ _)); refine blk_put (cs := #[.int .i64 0, .int .i64 0, .int .i64 0, .int .i64 0]) ?_ 0 _ rfl; (with_reducible repeat (first | refine blk_drewN ?_ _ | refine blk_drew ?_ | refine blk_alloc ?_ _)); exact BK247.out)) : gb247 ≠ gb248)); have n6_ := Aside0.mk ((by rw [hg]; exact Nat.ne_of_gt (blk_lt (g := gb247) (o := .cells #[.int .i64 (wrap64 (1 + (wrap64 (Int.tmod a0 8)))), .int .i64 0, .int .i64 (wrap64 (a2)), .int .i64 0] 26 (0, 0)) (by (with_reducible repeat (first | refine blk_drewN ?_ _ | refine blk_drew ?_ | refine blk_alloc ?_ _)); refine blk_put (cs := #[.int .i64 (wrap64 (1 + (wrap64 (Int.tmod a0 8)))), .int .i64 0, .int .i64 (wrap64 (a2)), .int .i64 0]) ?_ 3 _ rfl; (with_reducible repeat (first | refine blk_drewN ?_ _ | refine blk_drew ?_ | refine blk_alloc ?_ _)); refine blk_put (cs := #[.int .i64 (wrap64 (1 + (wrap64 (Int.tmod a0 8)))), .int .i64 0, .int .i64 0, .int .i64 0]) ?_ 2 _ rfl; (with_reducible repeat (first | refine blk_drewN ?_ _ | refine blk_drew ?_ | refine blk_alloc ?_ _)); refine blk_put (cs := #[.int .i64 (wrap64 (1 + (wrap64 (Int.tmod a0 8)))), .int .i64 0, .int .i64 0, .int .i64 0]) ?_ 1 _ rfl; (with_reducible repeat (first | refine blk_drewN ?_ _ | refine blk_drew ?_ | refine blk_alloc ?_ _)); refine blk_put (cs := #[.int .i64 0, .int .i64 0, .int .i64 0, .int .i64 0]) ?_ 0 _ rfl; (with_reducible repeat (first | refine blk_drewN ?_ _ | refine blk_drew ?_ | refine blk_alloc ?_ _)); exact BK247.out)) : gb248 ≠ gb247)); clear BK247; clear HB; have BK247 := n0_; have HB := n1_; have BK248 := n2_; have GW248 := n3_; have GE248 := n4_; have NB247_248 := n5_; have NB248_247 := n6_; clear n0_ n1_ n2_ n3_ n4_ n5_ n6_; clear hb hbox hg; have hnb13 := NB248_247.out; have hnc13 := NB247_248.out; have hcz14_0 : w12.cell? ⟨gb248, 0, none⟩ = some (.int .i64 0) := (blk_cell BK248.out 0).trans rfl; have hcz14_1 : w12.cell? ⟨gb248, 1, none⟩ = some (.int .i64 0) := (blk_cell BK248.out 1).trans rfl; have hcz14_2 : w12.cell? ⟨gb248, 2, none⟩ = some (.int .i64 0) := (blk_cell BK248.out 2).trans rfl; have hcz14_3 : w12.cell? ⟨gb248, 3, none⟩ = some (.int .i64 0) := (blk_cell BK248.out 3).trans rfl; have hfz14_0 := blk_frozen BK248.out 0; have hfz14_1 := blk_frozen BK248.out 1; have hfz14_2 := blk_frozen BK248.out 2; have hfz14_3 := blk_frozen BK248.out 3; have hcz15_0 : w12.cell? ⟨gb247, 0, none⟩ = some (.int .i64 (wrap64 (1 + (wrap64 (Int.tmod a0 8))))) := (blk_cell BK247.out 0).trans rfl; have hcz15_1 : w12.cell? ⟨gb247, 1, none⟩ = some (.int .i64 0) := (blk_cell BK247.out 1).trans rfl; have hcz15_2 : w12.cell? ⟨gb247, 2, none⟩ = some (.int .i64 (wrap64 (a2))) := (blk_cell BK247.out 2).trans rfl; have hcz15_3 : w12.cell? ⟨gb247, 3, none⟩ = some (.int .i64 0) := (blk_cell BK247.out 3).trans rfl; have hfz15_0 := blk_frozen BK247.out 0; have hfz15_1 := blk_frozen BK247.out 1; have hfz15_2 := blk_frozen BK247.out 2; have hfz15_3 := blk_frozen BK247.out 3) | ((with_reducible refine gate_callee (f := 13) rfl ?_); refine goesL_ (some 47) rfl rfl Try.func13 (by kernel_rfl) rfl #[.agg #[.int .i64 (wrap64 (1 + (wrap64 (Int.tmod a0 8)))), .int .i64 0, .int .i64 (wrap64 (a2)), .int .i64 0], .agg #[.int .i64 (wrap64 (1 + (wrap64 (Int.tmod a1 8)))), .int .i64 0, .int .i64 (wrap64 (a3)), .int .i64 0]] rfl (by (try simp only [List.map_toArray, List.map_cons, List.map_nil]); first | done | rfl | (simp only [List.length_drop, List.length_take]; rfl)) ?_; (with_reducible refine (swap_Meet.calls (wrap64 (1 + (wrap64 (Int.tmod a0 8)))) 0 (wrap64 (a2)) 0 (wrap64 (1 + (wrap64 (Int.tmod a1 8)))) 0 (wrap64 (a3)) 0 false _ A7.out).mono ?_); rintro e w16 ⟨rfl, hb⟩; refine ⟨_, rfl, ?_⟩; have n0_ := Aside0.mk (blk_below (g := gb247) (o := .cells #[.int .i64 (wrap64 (1 + (wrap64 (Int.tmod a0 8)))), .int .i64 0, .int .i64 (wrap64 (a2)), .int .i64 0] 26 (0, 0)) (by (with_reducible repeat (first | refine blk_drewN ?_ _ | refine blk_drew ?_ | refine blk_alloc ?_ _)); refine blk_far ?_ NB247_248.out _; (with_reducible repeat (first | refine blk_drewN ?_ _ | refine blk_drew ?_ | refine blk_alloc ?_ _)); refine blk_far ?_ NB247_248.out _; (with_reducible repeat (first | refine blk_drewN ?_ _ | refine blk_drew ?_ | refine blk_alloc ?_ _)); refine blk_far ?_ NB247_248.out _; (with_reducible repeat (first | refine blk_drewN ?_ _ | refine blk_drew ?_ | refine blk_alloc ?_ _)); refine blk_far ?_ NB247_248.out _; (with_reducible repeat (first | refine blk_drewN ?_ _ | refine blk_drew ?_ | refine blk_alloc ?_ _)); exact BK247.out) hb); have n1_ := Aside0.mk (blk_below (g := gb248) (o := .cells #[.int .i64 (wrap64 (1 + (wrap64 (Int.tmod a1 8)))), .int .i64 0, .int .i64 (wrap64 (a3)), .int .i64 0] 26 (0, 0)) (by (with_reducible repeat (first | refine blk_drewN ?_ _ | refine blk_drew ?_ | refine blk_alloc ?_ _)); refine blk_put (cs := #[.int .i64 (wrap64 (1 + (wrap64 (Int.tmod a1 8)))), .int .i64 0, .int .i64 (wrap64 (a3)), .int .i64 0]) ?_ 3 _ rfl; (with_reducible repeat (first | refine blk_drewN ?_ _ | refine blk_drew ?_ | refine blk_alloc ?_ _)); refine blk_put (cs := #[.int .i64 (wrap64 (1 + (wrap64 (Int.tmod a1 8)))), .int .i64 0, .int .i64 0, .int .i64 0]) ?_ 2 _ rfl; (with_reducible repeat (first | refine blk_drewN ?_ _ | refine blk_drew ?_ | refine blk_alloc ?_ _)); refine blk_put (cs := #[.int .i64 (wrap64 (1 + (wrap64 (Int.tmod a1 8)))), .int .i64 0, .int .i64 0, .int .i64 0]) ?_ 1 _ rfl; (with_reducible repeat (first | refine blk_drewN ?_ _ | refine blk_drew ?_ | refine blk_alloc ?_ _)); refine blk_put (cs := #[.int .i64 0, .int .i64 0, .int .i64 0, .int .i64 0]) ?_ 0 _ rfl; (with_reducible repeat (first | refine blk_drewN ?_ _ | refine blk_drew ?_ | refine blk_alloc ?_ _)); exact BK248.out) hb); have n2_ := Aside0.mk (below_step (by repeat (first | (with_reducible first | exact HB.out | apply below_alloc | apply pw_below_drewN | apply below_drew1 | refine below_set ?_ GE247.out | refine below_set ?_ GE248.out) | exact HB.out)) hb); clear BK247; clear BK248; clear HB; have BK247 := n0_; have BK248 := n1_; have HB := n2_; clear n0_ n1_ n2_; (try clear hb); (try clear hb2); (try clear hk); (try clear hi)) | (go_at_call 8; (with_reducible refine (handshakerlaw21_awake.calls k  t250 _ A9.out).mono ?_); rintro e w17 ⟨rfl, hb⟩; have n0_ := Aside0.mk (blk_below (g := gb247) (o := .cells #[.int .i64 (wrap64 (1 + (wrap64 (Int.tmod a0 8)))), .int .i64 0, .int .i64 (wrap64 (a2)), .int .i64 0] 26 (0, 0)) (by (with_reducible repeat (first | refine blk_drewN ?_ _ | refine blk_drew ?_ | refine blk_alloc ?_ _)); exact BK247.out) hb); have n1_ := Aside0.mk (blk_below (g := gb248) (o := .cells #[.int .i64 (wrap64 (1 + (wrap64 (Int.tmod a1 8)))), .int .i64 0, .int .i64 (wrap64 (a3)), .int .i64 0] 26 (0, 0)) (by (with_reducible repeat (first | refine blk_drewN ?_ _ | refine blk_drew ?_ | refine blk_alloc ?_ _)); exact BK248.out) hb); have n2_ := Aside0.mk (below_step (by repeat (first | (with_reducible first | exact HB.out | apply below_alloc | apply pw_below_drewN | apply below_drew1 | refine below_set ?_ GE247.out | refine below_set ?_ GE248.out) | exact HB.out)) hb); clear BK247; clear BK248; clear HB; have BK247 := n0_; have BK248 := n1_; have HB := n2_; clear n0_ n1_ n2_; (try clear hb); (try clear hb2); (try clear hk); (try clear hi)))
      go_ret
      exact ⟨by first | rfl | (simp [errW_none, errW_some] <;> rfl) | (simp [*, errW_none, errW_some] <;> rfl), by repeat (first | (with_reducible first | exact HB.out | apply below_alloc | apply pw_below_drewN | apply below_drew1 | refine below_set ?_ GE247.out | refine below_set ?_ GE248.out) | exact HB.out)⟩
  · rw [if_neg c6] at H
    have c6b0 : ((wrap64 (1 + (wrap64 (Int.tmod a0 8)))) == (wrap64 (1 + (wrap64 (Int.tmod a1 8))))) = false := beq_eq_false_iff_ne.mpr c6
    have c6b1 : ((wrap64 (1 + (wrap64 (Int.tmod a0 8)))) != (wrap64 (1 + (wrap64 (Int.tmod a1 8))))) = true := bne_iff_ne.mpr c6
    have HC18 := Aside0.mk H
    clear H
    go_enter Try.func4, Try.ntmps4
    go_upto_if 52 with (first | ((with_reducible refine gate_dst (N := 11) rfl ?_); refine box_event ?hg (N := 11) ?hd (cs := #[.int .i64 0, .int .i64 0, .int .i64 0, .int .i64 0]) (t := 26) ?hr ?_; (case hd => rfl); (case hg => rfl); (case hr => first | (go_simp; done) | (go_simp; rfl)); intro gb247 hg w19 hbox hb; have n0_ := Aside0.mk (below_step (by repeat (first | (with_reducible first | exact HB.out | apply below_alloc | apply pw_below_drewN | apply below_drew1) | exact HB.out)) hb); have n1_ := Aside0.mk (hbox); have n2_ := Aside0.mk ((by rw [hg]; exact (below_size (by repeat (first | (with_reducible first | exact HB.out | apply below_alloc | apply pw_below_drewN | apply below_drew1) | exact HB.out))) : w.heap.size ≤ gb247)); have n3_ := Aside0.mk ((by rw [hg]; exact (below_size (by repeat (first | (with_reducible first | exact HB.out | apply below_alloc | apply pw_below_drewN | apply below_drew1) | exact HB.out))) : w.heap.size ≤ gb247)); clear HB; have HB := n0_; have BK247 := n1_; have GW247 := n2_; have GE247 := n3_; clear n0_ n1_ n2_ n3_; clear hb hbox hg; have hcz20_0 : w19.cell? ⟨gb247, 0, none⟩ = some (.int .i64 0) := (blk_cell BK247.out 0).trans rfl; have hcz20_1 : w19.cell? ⟨gb247, 1, none⟩ = some (.int .i64 0) := (blk_cell BK247.out 1).trans rfl; have hcz20_2 : w19.cell? ⟨gb247, 2, none⟩ = some (.int .i64 0) := (blk_cell BK247.out 2).trans rfl; have hcz20_3 : w19.cell? ⟨gb247, 3, none⟩ = some (.int .i64 0) := (blk_cell BK247.out 3).trans rfl; have hfz20_0 := blk_frozen BK247.out 0; have hfz20_1 := blk_frozen BK247.out 1; have hfz20_2 := blk_frozen BK247.out 2; have hfz20_3 := blk_frozen BK247.out 3) | ((with_reducible refine gate_dst (N := 12) rfl ?_); refine box_event ?hg (N := 12) ?hd (cs := #[.int .i64 0, .int .i64 0, .int .i64 0, .int .i64 0]) (t := 26) ?hr ?_; (case hd => rfl); (case hg => rfl); (case hr => first | (go_simp; done) | (go_simp; rfl)); intro gb248 hg w21 hbox hb; have n0_ := Aside0.mk (blk_below (g := gb247) (o := .cells #[.int .i64 (wrap64 (1 + (wrap64 (Int.tmod a0 8)))), .int .i64 0, .int .i64 (wrap64 (a2)), .int .i64 0] 26 (0, 0)) (by (with_reducible repeat (first | refine blk_drewN ?_ _ | refine blk_drew ?_ | refine blk_alloc ?_ _)); refine blk_put (cs := #[.int .i64 (wrap64 (1 + (wrap64 (Int.tmod a0 8)))), .int .i64 0, .int .i64 (wrap64 (a2)), .int .i64 0]) ?_ 3 _ rfl; (with_reducible repeat (first | refine blk_drewN ?_ _ | refine blk_drew ?_ | refine blk_alloc ?_ _)); refine blk_put (cs := #[.int .i64 (wrap64 (1 + (wrap64 (Int.tmod a0 8)))), .int .i64 0, .int .i64 0, .int .i64 0]) ?_ 2 _ rfl; (with_reducible repeat (first | refine blk_drewN ?_ _ | refine blk_drew ?_ | refine blk_alloc ?_ _)); refine blk_put (cs := #[.int .i64 (wrap64 (1 + (wrap64 (Int.tmod a0 8)))), .int .i64 0, .int .i64 0, .int .i64 0]) ?_ 1 _ rfl; (with_reducible repeat (first | refine blk_drewN ?_ _ | refine blk_drew ?_ | refine blk_alloc ?_ _)); refine blk_put (cs := #[.int .i64 0, .int .i64 0, .int .i64 0, .int .i64 0]) ?_ 0 _ rfl; (with_reducible repeat (first | refine blk_drewN ?_ _ | refine blk_drew ?_ | refine blk_alloc ?_ _)); exact BK247.out) hb); have n1_ := Aside0.mk (below_step (by repeat (first | (with_reducible first | exact HB.out | apply below_alloc | apply pw_below_drewN | apply below_drew1 | refine below_set ?_ GE247.out) | exact HB.out)) hb); have n2_ := Aside0.mk (hbox); have n3_ := Aside0.mk ((by rw [hg]; exact (below_size (by repeat (first | (with_reducible first | exact HB.out | apply below_alloc | apply pw_below_drewN | apply below_drew1 | refine below_set ?_ GE247.out) | exact HB.out))) : w.heap.size ≤ gb248)); have n4_ := Aside0.mk ((by rw [hg]; exact (below_size (by repeat (first | (with_reducible first | exact HB.out | apply below_alloc | apply pw_below_drewN | apply below_drew1 | refine below_set ?_ GE247.out) | exact HB.out))) : w.heap.size ≤ gb248)); have n5_ := Aside0.mk ((by rw [hg]; exact Nat.ne_of_lt (blk_lt (g := gb247) (o := .cells #[.int .i64 (wrap64 (1 + (wrap64 (Int.tmod a0 8)))), .int .i64 0, .int .i64 (wrap64 (a2)), .int .i64 0] 26 (0, 0)) (by (with_reducible repeat (first | refine blk_drewN ?_ _ | refine blk_drew ?_ | refine blk_alloc ?_ _)); refine blk_put (cs := #[.int .i64 (wrap64 (1 + (wrap64 (Int.tmod a0 8)))), .int .i64 0, .int .i64 (wrap64 (a2)), .int .i64 0]) ?_ 3 _ rfl; (with_reducible repeat (first | refine blk_drewN ?_ _ | refine blk_drew ?_ | refine blk_alloc ?_ _)); refine blk_put (cs := #[.int .i64 (wrap64 (1 + (wrap64 (Int.tmod a0 8)))), .int .i64 0, .int .i64 0, .int .i64 0]) ?_ 2 _ rfl; (with_reducible repeat (first | refine blk_drewN ?_ _ | refine blk_drew ?_ | refine blk_alloc ?_ _)); refine blk_put (cs := #[.int .i64 (wrap64 (1 + (wrap64 (Int.tmod a0 8)))), .int .i64 0, .int .i64 0, .int .i64 0]) ?_ 1 _ rfl; (with_reducible repeat (first | refine blk_drewN ?_ _ | refine blk_drew ?_ | refine blk_alloc ?_ _)); refine blk_put (cs := #[.int .i64 0, .int .i64 0, .int .i64 0, .int .i64 0]) ?_ 0 _ rfl; (with_reducible repeat (first | refine blk_drewN ?_ _ | refine blk_drew ?_ | refine blk_alloc ?_ _)); exact BK247.out)) : gb247 ≠ gb248)); have n6_ := Aside0.mk ((by rw [hg]; exact Nat.ne_of_gt (blk_lt (g := gb247) (o := .cells #[.int .i64 (wrap64 (1 + (wrap64 (Int.tmod a0 8)))), .int .i64 0, .int .i64 (wrap64 (a2)), .int .i64 0] 26 (0, 0)) (by (with_reducible repeat (first | refine blk_drewN ?_ _ | refine blk_drew ?_ | refine blk_alloc ?_ _)); refine blk_put (cs := #[.int .i64 (wrap64 (1 + (wrap64 (Int.tmod a0 8)))), .int .i64 0, .int .i64 (wrap64 (a2)), .int .i64 0]) ?_ 3 _ rfl; (with_reducible repeat (first | refine blk_drewN ?_ _ | refine blk_drew ?_ | refine blk_alloc ?_ _)); refine blk_put (cs := #[.int .i64 (wrap64 (1 + (wrap64 (Int.tmod a0 8)))), .int .i64 0, .int .i64 0, .int .i64 0]) ?_ 2 _ rfl; (with_reducible repeat (first | refine blk_drewN ?_ _ | refine blk_drew ?_ | refine blk_alloc ?_ _)); refine blk_put (cs := #[.int .i64 (wrap64 (1 + (wrap64 (Int.tmod a0 8)))), .int .i64 0, .int .i64 0, .int .i64 0]) ?_ 1 _ rfl; (with_reducible repeat (first | refine blk_drewN ?_ _ | refine blk_drew ?_ | refine blk_alloc ?_ _)); refine blk_put (cs := #[.int .i64 0, .int .i64 0, .int .i64 0, .int .i64 0]) ?_ 0 _ rfl; (with_reducible repeat (first | refine blk_drewN ?_ _ | refine blk_drew ?_ | refine blk_alloc ?_ _)); exact BK247.out)) : gb248 ≠ gb247)); clear BK247; clear HB; have BK247 := n0_; have HB := n1_; have BK248 := n2_; have GW248 := n3_; have GE248 := n4_; have NB247_248 := n5_; have NB248_247 := n6_; clear n0_ n1_ n2_ n3_ n4_ n5_ n6_; clear hb hbox hg; have hnb22 := NB248_247.out; have hnc22 := NB247_248.out; have hcz23_0 : w21.cell? ⟨gb248, 0, none⟩ = some (.int .i64 0) := (blk_cell BK248.out 0).trans rfl; have hcz23_1 : w21.cell? ⟨gb248, 1, none⟩ = some (.int .i64 0) := (blk_cell BK248.out 1).trans rfl; have hcz23_2 : w21.cell? ⟨gb248, 2, none⟩ = some (.int .i64 0) := (blk_cell BK248.out 2).trans rfl; have hcz23_3 : w21.cell? ⟨gb248, 3, none⟩ = some (.int .i64 0) := (blk_cell BK248.out 3).trans rfl; have hfz23_0 := blk_frozen BK248.out 0; have hfz23_1 := blk_frozen BK248.out 1; have hfz23_2 := blk_frozen BK248.out 2; have hfz23_3 := blk_frozen BK248.out 3; have hcz24_0 : w21.cell? ⟨gb247, 0, none⟩ = some (.int .i64 (wrap64 (1 + (wrap64 (Int.tmod a0 8))))) := (blk_cell BK247.out 0).trans rfl; have hcz24_1 : w21.cell? ⟨gb247, 1, none⟩ = some (.int .i64 0) := (blk_cell BK247.out 1).trans rfl; have hcz24_2 : w21.cell? ⟨gb247, 2, none⟩ = some (.int .i64 (wrap64 (a2))) := (blk_cell BK247.out 2).trans rfl; have hcz24_3 : w21.cell? ⟨gb247, 3, none⟩ = some (.int .i64 0) := (blk_cell BK247.out 3).trans rfl; have hfz24_0 := blk_frozen BK247.out 0; have hfz24_1 := blk_frozen BK247.out 1; have hfz24_2 := blk_frozen BK247.out 2; have hfz24_3 := blk_frozen BK247.out 3))
    (try simp only [Act.put, List.setIfInBounds_toArray, List.set_cons_zero, List.set_cons_succ])
    go_cut [] (fun wc => ∃ (kq : Nat) (x248001_17 : Int), Aside0 (handshakerlaw21_SwapBoth.j1 kq a2 a3 a4 (wrap64 (1 + (wrap64 (Int.tmod a0 8)))) x248001_17 (wrap64 (a2)) 0 (wrap64 (1 + (wrap64 (Int.tmod a1 8)))) 0 (wrap64 (a3)) 0 = some r) ∧ Aside0 (kq ≤ k) ∧ Aside0 (wc.heap[gb247]? = some (.cells #[.int .i64 (wrap64 (1 + (wrap64 (Int.tmod a0 8)))), .int .i64 x248001_17, .int .i64 (wrap64 (a2)), .int .i64 0] 26 (0, 0))) ∧ Aside0 (wc.heap[gb248]? = some (.cells #[.int .i64 (wrap64 (1 + (wrap64 (Int.tmod a1 8)))), .int .i64 0, .int .i64 (wrap64 (a3)), .int .i64 0] 26 (0, 0))) ∧ Aside0 (Below w.heap.size w wc))
    case first =>
      have H := HC18.out
      clear HC18
      by_cases c25 : a4 = true
      · subst c25
        have H1 : (handshakerlaw21_SwapBoth.l0 k a2 a3 true 1 (wrap64 (1 + (wrap64 (Int.tmod a0 8)))) 0 (wrap64 (a2)) 0 (wrap64 (1 + (wrap64 (Int.tmod a1 8)))) 0 (wrap64 (a3)) 0) = some r := by rw [if_pos rfl] at H; exact H
        clear H
        have H := H1
        clear H1
        have H' := Aside0.mk H
        clear H
        go_wp2
        go_loopg [13] k (fun kq v13 w' => ∃ (x13_1 : Int) (x248001_1 : Int), v13 = .int .i64 x13_1 ∧ Aside0 (handshakerlaw21_SwapBoth.l0 kq a2 a3 true x13_1 (wrap64 (1 + (wrap64 (Int.tmod a0 8)))) x248001_1 (wrap64 (a2)) 0 (wrap64 (1 + (wrap64 (Int.tmod a1 8)))) 0 (wrap64 (a3)) 0 = some r) ∧ Aside0 (kq ≤ k) ∧ Aside0 (w'.heap[gb247]? = some (.cells #[.int .i64 (wrap64 (1 + (wrap64 (Int.tmod a0 8)))), .int .i64 x248001_1, .int .i64 (wrap64 (a2)), .int .i64 0] 26 (0, 0))) ∧ Aside0 (w'.heap[gb248]? = some (.cells #[.int .i64 (wrap64 (1 + (wrap64 (Int.tmod a1 8)))), .int .i64 0, .int .i64 (wrap64 (a3)), .int .i64 0] 26 (0, 0))) ∧ Aside0 (Below w.heap.size w w'))
        case atStart => exact ⟨(1), (0), (by first | rfl | (simp; done) | (simp [*]; done)), H', ⟨Nat.le_refl _⟩, ⟨by (with_reducible repeat (first | refine blk_drewN ?_ _ | refine blk_drew ?_ | refine blk_alloc ?_ _)); refine blk_far ?_ NB247_248.out _; (with_reducible repeat (first | refine blk_drewN ?_ _ | refine blk_drew ?_ | refine blk_alloc ?_ _)); refine blk_far ?_ NB247_248.out _; (with_reducible repeat (first | refine blk_drewN ?_ _ | refine blk_drew ?_ | refine blk_alloc ?_ _)); refine blk_far ?_ NB247_248.out _; (with_reducible repeat (first | refine blk_drewN ?_ _ | refine blk_drew ?_ | refine blk_alloc ?_ _)); refine blk_far ?_ NB247_248.out _; (with_reducible repeat (first | refine blk_drewN ?_ _ | refine blk_drew ?_ | refine blk_alloc ?_ _)); exact BK247.out⟩, ⟨by (with_reducible repeat (first | refine blk_drewN ?_ _ | refine blk_drew ?_ | refine blk_alloc ?_ _)); refine blk_put (cs := #[.int .i64 (wrap64 (1 + (wrap64 (Int.tmod a1 8)))), .int .i64 0, .int .i64 (wrap64 (a3)), .int .i64 0]) ?_ 3 _ rfl; (with_reducible repeat (first | refine blk_drewN ?_ _ | refine blk_drew ?_ | refine blk_alloc ?_ _)); refine blk_put (cs := #[.int .i64 (wrap64 (1 + (wrap64 (Int.tmod a1 8)))), .int .i64 0, .int .i64 0, .int .i64 0]) ?_ 2 _ rfl; (with_reducible repeat (first | refine blk_drewN ?_ _ | refine blk_drew ?_ | refine blk_alloc ?_ _)); refine blk_put (cs := #[.int .i64 (wrap64 (1 + (wrap64 (Int.tmod a1 8)))), .int .i64 0, .int .i64 0, .int .i64 0]) ?_ 1 _ rfl; (with_reducible repeat (first | refine blk_drewN ?_ _ | refine blk_drew ?_ | refine blk_alloc ?_ _)); refine blk_put (cs := #[.int .i64 0, .int .i64 0, .int .i64 0, .int .i64 0]) ?_ 0 _ rfl; (with_reducible repeat (first | refine blk_drewN ?_ _ | refine blk_drew ?_ | refine blk_alloc ?_ _)); exact BK248.out⟩, ⟨by repeat (first | (with_reducible first | exact HB.out | apply below_alloc | apply pw_below_drewN | apply below_drew1 | refine below_set ?_ GE247.out | refine below_set ?_ GE248.out) | exact HB.out)⟩⟩
        case round =>
          clear H'
          try clear c1
          try clear c2
          try clear p2
          try clear c4
          try clear c6
          try clear c6b0
          try clear c6b1
          try clear p6
          try clear c8
          try clear c13
          try clear c22
          try clear c25
          try clear hcz11_0
          try clear hcz11_1
          try clear hcz11_2
          try clear hcz11_3
          try clear hcz14_0
          try clear hcz14_1
          try clear hcz14_2
          try clear hcz14_3
          try clear hcz15_0
          try clear hcz15_1
          try clear hcz15_2
          try clear hcz15_3
          try clear hcz20_0
          try clear hcz20_1
          try clear hcz20_2
          try clear hcz20_3
          try clear hcz23_0
          try clear hcz23_1
          try clear hcz23_2
          try clear hcz23_3
          try clear hcz24_0
          try clear hcz24_1
          try clear hcz24_2
          try clear hcz24_3
          try clear hfz11_0
          try clear hfz11_1
          try clear hfz11_2
          try clear hfz11_3
          try clear hfz14_0
          try clear hfz14_1
          try clear hfz14_2
          try clear hfz14_3
          try clear hfz15_0
          try clear hfz15_1
          try clear hfz15_2
          try clear hfz15_3
          try clear hfz20_0
          try clear hfz20_1
          try clear hfz20_2
          try clear hfz20_3
          try clear hfz23_0
          try clear hfz23_1
          try clear hfz23_2
          try clear hfz23_3
          try clear hfz24_0
          try clear hfz24_1
          try clear hfz24_2
          try clear hfz24_3
          obtain ⟨x13_1, x248001_1, rfl, HA, HK1, BK247, BK248, HB⟩ := hrel
          cases gk with
          | zero => exact absurd HA.out (by simp [handshakerlaw21_SwapBoth.l0])
          | succ k1 =>
            have H := HA.out
            clear HA
            simp only [handshakerlaw21_SwapBoth.l0] at H
            by_cases c26 : x13_1 ≤ 8
            · rw [if_pos c26] at H
              have c26b0 : decide (x13_1 ≤ 8) = true := decide_eq_true c26
              clear c26
              (first | rw [c26b0] | (simp only [i64_w, i32_w]; rw [c26b0]) | skip)
              by_cases c27 : x13_1 = (wrap64 (1 + (wrap64 (Int.tmod a0 8))))
              · rw [if_pos c27] at H
                have c27b0 : (x13_1 == (wrap64 (1 + (wrap64 (Int.tmod a0 8))))) = true := beq_iff_eq.mpr c27
                have c27b1 : (x13_1 != (wrap64 (1 + (wrap64 (Int.tmod a0 8))))) = false := bne_eq_false_iff_eq.mpr c27
                clear c27
                have H' := Aside0.mk H
                clear H
                have hnb28 := NB247_248.out
                have hnc28 := NB248_247.out
                have hcz29_0 : wr.cell? ⟨gb247, 0, none⟩ = some (.int .i64 (wrap64 (1 + (wrap64 (Int.tmod a0 8))))) := (blk_cell BK247.out 0).trans rfl
                have hcz29_1 : wr.cell? ⟨gb247, 1, none⟩ = some (.int .i64 x248001_1) := (blk_cell BK247.out 1).trans rfl
                have hcz29_2 : wr.cell? ⟨gb247, 2, none⟩ = some (.int .i64 (wrap64 (a2))) := (blk_cell BK247.out 2).trans rfl
                have hcz29_3 : wr.cell? ⟨gb247, 3, none⟩ = some (.int .i64 0) := (blk_cell BK247.out 3).trans rfl
                have hfz29_0 := blk_frozen BK247.out 0
                have hfz29_1 := blk_frozen BK247.out 1
                have hfz29_2 := blk_frozen BK247.out 2
                have hfz29_3 := blk_frozen BK247.out 3
                go_wp2
                go_roundg k1
                case measure => have := HK1.out; omega
                case rel => exact ⟨(wrap64 (x13_1 + 1)), (x248001_1), (by first | rfl | (simp; done) | (simp [*]; done)), H', ⟨by have := HK1.out; omega⟩, ⟨by (with_reducible repeat (first | refine blk_drewN ?_ _ | refine blk_drew ?_ | refine blk_alloc ?_ _)); exact BK247.out⟩, ⟨by (with_reducible repeat (first | refine blk_drewN ?_ _ | refine blk_drew ?_ | refine blk_alloc ?_ _)); exact BK248.out⟩, ⟨by repeat (first | (with_reducible first | exact HB.out | apply below_alloc | apply pw_below_drewN | apply below_drew1 | refine below_set ?_ GE247.out | refine below_set ?_ GE248.out) | exact HB.out)⟩⟩
              · rw [if_neg c27] at H
                have c27b0 : (x13_1 == (wrap64 (1 + (wrap64 (Int.tmod a0 8))))) = false := beq_eq_false_iff_ne.mpr c27
                have c27b1 : (x13_1 != (wrap64 (1 + (wrap64 (Int.tmod a0 8))))) = true := bne_iff_ne.mpr c27
                by_cases c30 : x13_1 = (wrap64 (1 + (wrap64 (Int.tmod a1 8))))
                · rw [if_pos c30] at H
                  have c30b0 : (x13_1 == (wrap64 (1 + (wrap64 (Int.tmod a1 8))))) = true := beq_iff_eq.mpr c30
                  have c30b1 : (x13_1 != (wrap64 (1 + (wrap64 (Int.tmod a1 8))))) = false := bne_eq_false_iff_eq.mpr c30
                  clear c30
                  have H' := Aside0.mk H
                  clear H
                  have hnb31 := NB247_248.out
                  have hnc31 := NB248_247.out
                  have hcz32_0 : wr.cell? ⟨gb247, 0, none⟩ = some (.int .i64 (wrap64 (1 + (wrap64 (Int.tmod a0 8))))) := (blk_cell BK247.out 0).trans rfl
                  have hcz32_1 : wr.cell? ⟨gb247, 1, none⟩ = some (.int .i64 x248001_1) := (blk_cell BK247.out 1).trans rfl
                  have hcz32_2 : wr.cell? ⟨gb247, 2, none⟩ = some (.int .i64 (wrap64 (a2))) := (blk_cell BK247.out 2).trans rfl
                  have hcz32_3 : wr.cell? ⟨gb247, 3, none⟩ = some (.int .i64 0) := (blk_cell BK247.out 3).trans rfl
                  have hfz32_0 := blk_frozen BK247.out 0
                  have hfz32_1 := blk_frozen BK247.out 1
                  have hfz32_2 := blk_frozen BK247.out 2
                  have hfz32_3 := blk_frozen BK247.out 3
                  have hcz33_0 : wr.cell? ⟨gb248, 0, none⟩ = some (.int .i64 (wrap64 (1 + (wrap64 (Int.tmod a1 8))))) := (blk_cell BK248.out 0).trans rfl
                  have hcz33_1 : wr.cell? ⟨gb248, 1, none⟩ = some (.int .i64 0) := (blk_cell BK248.out 1).trans rfl
                  have hcz33_2 : wr.cell? ⟨gb248, 2, none⟩ = some (.int .i64 (wrap64 (a3))) := (blk_cell BK248.out 2).trans rfl
                  have hcz33_3 : wr.cell? ⟨gb248, 3, none⟩ = some (.int .i64 0) := (blk_cell BK248.out 3).trans rfl
                  have hfz33_0 := blk_frozen BK248.out 0
                  have hfz33_1 := blk_frozen BK248.out 1
                  have hfz33_2 := blk_frozen BK248.out 2
                  have hfz33_3 := blk_frozen BK248.out 3
                  go_wp2
                  go_roundg k1
                  case measure => have := HK1.out; omega
                  case rel => exact ⟨(wrap64 (x13_1 + 1)), (x248001_1), (by first | rfl | (simp; done) | (simp [*]; done)), H', ⟨by have := HK1.out; omega⟩, ⟨by (with_reducible repeat (first | refine blk_drewN ?_ _ | refine blk_drew ?_ | refine blk_alloc ?_ _)); exact BK247.out⟩, ⟨by (with_reducible repeat (first | refine blk_drewN ?_ _ | refine blk_drew ?_ | refine blk_alloc ?_ _)); exact BK248.out⟩, ⟨by repeat (first | (with_reducible first | exact HB.out | apply below_alloc | apply pw_below_drewN | apply below_drew1 | refine below_set ?_ GE247.out | refine below_set ?_ GE248.out) | exact HB.out)⟩⟩
                · rw [if_neg c30] at H
                  have c30b0 : (x13_1 == (wrap64 (1 + (wrap64 (Int.tmod a1 8))))) = false := beq_eq_false_iff_ne.mpr c30
                  have c30b1 : (x13_1 != (wrap64 (1 + (wrap64 (Int.tmod a1 8))))) = true := bne_iff_ne.mpr c30
                  have H' := Aside0.mk H
                  clear H
                  have hnb34 := NB247_248.out
                  have hnc34 := NB248_247.out
                  have hcz35_0 : wr.cell? ⟨gb247, 0, none⟩ = some (.int .i64 (wrap64 (1 + (wrap64 (Int.tmod a0 8))))) := (blk_cell BK247.out 0).trans rfl
                  have hcz35_1 : wr.cell? ⟨gb247, 1, none⟩ = some (.int .i64 x248001_1) := (blk_cell BK247.out 1).trans rfl
                  have hcz35_2 : wr.cell? ⟨gb247, 2, none⟩ = some (.int .i64 (wrap64 (a2))) := (blk_cell BK247.out 2).trans rfl
                  have hcz35_3 : wr.cell? ⟨gb247, 3, none⟩ = some (.int .i64 0) := (blk_cell BK247.out 3).trans rfl
                  have hfz35_0 := blk_frozen BK247.out 0
                  have hfz35_1 := blk_frozen BK247.out 1
                  have hfz35_2 := blk_frozen BK247.out 2
                  have hfz35_3 := blk_frozen BK247.out 3
                  have hcz36_0 : wr.cell? ⟨gb248, 0, none⟩ = some (.int .i64 (wrap64 (1 + (wrap64 (Int.tmod a1 8))))) := (blk_cell BK248.out 0).trans rfl
                  have hcz36_1 : wr.cell? ⟨gb248, 1, none⟩ = some (.int .i64 0) := (blk_cell BK248.out 1).trans rfl
                  have hcz36_2 : wr.cell? ⟨gb248, 2, none⟩ = some (.int .i64 (wrap64 (a3))) := (blk_cell BK248.out 2).trans rfl
                  have hcz36_3 : wr.cell? ⟨gb248, 3, none⟩ = some (.int .i64 0) := (blk_cell BK248.out 3).trans rfl
                  have hfz36_0 := blk_frozen BK248.out 0
                  have hfz36_1 := blk_frozen BK248.out 1
                  have hfz36_2 := blk_frozen BK248.out 2
                  have hfz36_3 := blk_frozen BK248.out 3
                  go_wp2
                  go_roundg k1
                  case measure => have := HK1.out; omega
                  case rel => exact ⟨(wrap64 (x13_1 + 1)), (x13_1), (by first | rfl | (simp; done) | (simp [*]; done)), H', ⟨by have := HK1.out; omega⟩, ⟨by (with_reducible repeat (first | refine blk_drewN ?_ _ | refine blk_drew ?_ | refine blk_alloc ?_ _)); refine blk_put (cs := #[.int .i64 (wrap64 (1 + (wrap64 (Int.tmod a0 8)))), .int .i64 x248001_1, .int .i64 (wrap64 (a2)), .int .i64 0]) ?_ 1 _ rfl; (with_reducible repeat (first | refine blk_drewN ?_ _ | refine blk_drew ?_ | refine blk_alloc ?_ _)); exact BK247.out⟩, ⟨by (with_reducible repeat (first | refine blk_drewN ?_ _ | refine blk_drew ?_ | refine blk_alloc ?_ _)); refine blk_far ?_ NB248_247.out _; (with_reducible repeat (first | refine blk_drewN ?_ _ | refine blk_drew ?_ | refine blk_alloc ?_ _)); exact BK248.out⟩, ⟨by repeat (first | (with_reducible first | exact HB.out | apply below_alloc | apply pw_below_drewN | apply below_drew1 | refine below_set ?_ GE247.out | refine below_set ?_ GE248.out) | exact HB.out)⟩⟩
            · rw [if_neg c26] at H
              have c26b0 : decide (x13_1 ≤ 8) = false := decide_eq_false c26
              clear c26
              (first | rw [c26b0] | (simp only [i64_w, i32_w]; rw [c26b0]) | skip)
              have H' := Aside0.mk H
              clear H
              go_wp2
              go_meet
              case rel => exact ⟨_, (x248001_1), H', ⟨by have := HK1.out; first | omega | exact Nat.le_refl _⟩, ⟨by (with_reducible repeat (first | refine blk_drewN ?_ _ | refine blk_drew ?_ | refine blk_alloc ?_ _)); exact BK247.out⟩, ⟨by (with_reducible repeat (first | refine blk_drewN ?_ _ | refine blk_drew ?_ | refine blk_alloc ?_ _)); exact BK248.out⟩, ⟨by repeat (first | (with_reducible first | exact HB.out | apply below_alloc | apply pw_below_drewN | apply below_drew1 | refine below_set ?_ GE247.out | refine below_set ?_ GE248.out) | exact HB.out)⟩⟩
      · replace c25 := Bool.eq_false_iff.mpr c25
        subst c25
        have H1 : (handshakerlaw21_SwapBoth.j1 k a2 a3 false (wrap64 (1 + (wrap64 (Int.tmod a0 8)))) 0 (wrap64 (a2)) 0 (wrap64 (1 + (wrap64 (Int.tmod a1 8)))) 0 (wrap64 (a3)) 0) = some r := by rw [if_neg (show ¬ (false = true) by decide)] at H; exact H
        clear H
        have H := H1
        clear H1
        have H' := Aside0.mk H
        clear H
        go_wp2
        go_meet
        case rel => exact ⟨_, (0), H', ⟨by first | omega | exact Nat.le_refl _⟩, ⟨by (with_reducible repeat (first | refine blk_drewN ?_ _ | refine blk_drew ?_ | refine blk_alloc ?_ _)); refine blk_far ?_ NB247_248.out _; (with_reducible repeat (first | refine blk_drewN ?_ _ | refine blk_drew ?_ | refine blk_alloc ?_ _)); refine blk_far ?_ NB247_248.out _; (with_reducible repeat (first | refine blk_drewN ?_ _ | refine blk_drew ?_ | refine blk_alloc ?_ _)); refine blk_far ?_ NB247_248.out _; (with_reducible repeat (first | refine blk_drewN ?_ _ | refine blk_drew ?_ | refine blk_alloc ?_ _)); refine blk_far ?_ NB247_248.out _; (with_reducible repeat (first | refine blk_drewN ?_ _ | refine blk_drew ?_ | refine blk_alloc ?_ _)); exact BK247.out⟩, ⟨by (with_reducible repeat (first | refine blk_drewN ?_ _ | refine blk_drew ?_ | refine blk_alloc ?_ _)); refine blk_put (cs := #[.int .i64 (wrap64 (1 + (wrap64 (Int.tmod a1 8)))), .int .i64 0, .int .i64 (wrap64 (a3)), .int .i64 0]) ?_ 3 _ rfl; (with_reducible repeat (first | refine blk_drewN ?_ _ | refine blk_drew ?_ | refine blk_alloc ?_ _)); refine blk_put (cs := #[.int .i64 (wrap64 (1 + (wrap64 (Int.tmod a1 8)))), .int .i64 0, .int .i64 0, .int .i64 0]) ?_ 2 _ rfl; (with_reducible repeat (first | refine blk_drewN ?_ _ | refine blk_drew ?_ | refine blk_alloc ?_ _)); refine blk_put (cs := #[.int .i64 (wrap64 (1 + (wrap64 (Int.tmod a1 8)))), .int .i64 0, .int .i64 0, .int .i64 0]) ?_ 1 _ rfl; (with_reducible repeat (first | refine blk_drewN ?_ _ | refine blk_drew ?_ | refine blk_alloc ?_ _)); refine blk_put (cs := #[.int .i64 0, .int .i64 0, .int .i64 0, .int .i64 0]) ?_ 0 _ rfl; (with_reducible repeat (first | refine blk_drewN ?_ _ | refine blk_drew ?_ | refine blk_alloc ?_ _)); exact BK248.out⟩, ⟨by repeat (first | (with_reducible first | exact HB.out | apply below_alloc | apply pw_below_drewN | apply below_drew1 | refine below_set ?_ GE247.out | refine below_set ?_ GE248.out) | exact HB.out)⟩⟩
    case rest =>
      clear HC18
      try clear c1
      try clear c2
      try clear p2
      try clear c3
      try clear c4
      try clear c6
      try clear c6b0
      try clear c6b1
      try clear p6
      try clear c8
      try clear c13
      try clear c22
      try clear c25
      try clear c26
      try clear c26b0
      try clear c27
      try clear c27b0
      try clear c27b1
      try clear c28
      try clear c30
      try clear c30b0
      try clear c30b1
      try clear c31
      try clear c34
      try clear hcz11_0
      try clear hcz11_1
      try clear hcz11_2
      try clear hcz11_3
      try clear hcz14_0
      try clear hcz14_1
      try clear hcz14_2
      try clear hcz14_3
      try clear hcz15_0
      try clear hcz15_1
      try clear hcz15_2
      try clear hcz15_3
      try clear hcz20_0
      try clear hcz20_1
      try clear hcz20_2
      try clear hcz20_3
      try clear hcz23_0
      try clear hcz23_1
      try clear hcz23_2
      try clear hcz23_3
      try clear hcz24_0
      try clear hcz24_1
      try clear hcz24_2
      try clear hcz24_3
      try clear hcz29_0
      try clear hcz29_1
      try clear hcz29_2
      try clear hcz29_3
      try clear hcz32_0
      try clear hcz32_1
      try clear hcz32_2
      try clear hcz32_3
      try clear hcz33_0
      try clear hcz33_1
      try clear hcz33_2
      try clear hcz33_3
      try clear hcz35_0
      try clear hcz35_1
      try clear hcz35_2
      try clear hcz35_3
      try clear hcz36_0
      try clear hcz36_1
      try clear hcz36_2
      try clear hcz36_3
      try clear hfz11_0
      try clear hfz11_1
      try clear hfz11_2
      try clear hfz11_3
      try clear hfz14_0
      try clear hfz14_1
      try clear hfz14_2
      try clear hfz14_3
      try clear hfz15_0
      try clear hfz15_1
      try clear hfz15_2
      try clear hfz15_3
      try clear hfz20_0
      try clear hfz20_1
      try clear hfz20_2
      try clear hfz20_3
      try clear hfz23_0
      try clear hfz23_1
      try clear hfz23_2
      try clear hfz23_3
      try clear hfz24_0
      try clear hfz24_1
      try clear hfz24_2
      try clear hfz24_3
      try clear hfz29_0
      try clear hfz29_1
      try clear hfz29_2
      try clear hfz29_3
      try clear hfz32_0
      try clear hfz32_1
      try clear hfz32_2
      try clear hfz32_3
      try clear hfz33_0
      try clear hfz33_1
      try clear hfz33_2
      try clear hfz33_3
      try clear hfz35_0
      try clear hfz35_1
      try clear hfz35_2
      try clear hfz35_3
      try clear hfz36_0
      try clear hfz36_1
      try clear hfz36_2
      try clear hfz36_3
      try clear p2
      try clear p6
      obtain ⟨kq, x248001_17, HA, HJ17, BK247, BK248, HB⟩ := hcut
      cases kq with
      | zero => exact absurd HA.out (by simp [handshakerlaw21_SwapBoth.j1])
      | succ kj17 =>
        have H := HA.out
        clear HA
        simp only [handshakerlaw21_SwapBoth.j1] at H
        replace H := Option.bind_eq_some_iff.mp H
        obtain ⟨⟨t251, t254, t255, t256, t257, t258, t259, t260, t261, t262, t263⟩, A370, H⟩ := H
        replace H : ((swap_Put.f kj17 t251 (wrap64 (1 + (wrap64 (Int.tmod a1 8)))) 0 (wrap64 (a3)) 0).bind fun bt265 => (if t263 = 0 then (if bt265.2.2.2.2.2.2.2.2.2.2 = 0 then (if t262 = true then (none) else (handshakerlaw21_SwapBoth.j2 kj17 a2 a3 a4 bt265.1 (bt265.2.2.2.2.2.2.2.2.2.1 == a4) (wrap64 (1 + (wrap64 (Int.tmod a0 8)))) x248001_17 (wrap64 (a2)) 0 (wrap64 (1 + (wrap64 (Int.tmod a1 8)))) 0 (wrap64 (a3)) 0 bt265.2.1 bt265.2.2.1 bt265.2.2.2.1 bt265.2.2.2.2.1 bt265.2.2.2.2.2.1 bt265.2.2.2.2.2.2.1 bt265.2.2.2.2.2.2.2.1 bt265.2.2.2.2.2.2.2.2.1)) else (none)) else (none))) = some r := H
        have A37 := Aside0.mk A370
        clear A370
        replace H := Option.bind_eq_some_iff.mp H
        obtain ⟨⟨t265, t268, t269, t270, t271, t272, t273, t274, t275, t276, t277⟩, A380, H⟩ := H
        replace H : (if t263 = 0 then (if t277 = 0 then (if t262 = true then (none) else (handshakerlaw21_SwapBoth.j2 kj17 a2 a3 a4 t265 (t276 == a4) (wrap64 (1 + (wrap64 (Int.tmod a0 8)))) x248001_17 (wrap64 (a2)) 0 (wrap64 (1 + (wrap64 (Int.tmod a1 8)))) 0 (wrap64 (a3)) 0 t268 t269 t270 t271 t272 t273 t274 t275)) else (none)) else (none)) = some r := H
        have A38 := Aside0.mk A380
        clear A380
        have HC39 := Aside0.mk H
        clear H
        have hnb40 := NB247_248.out
        have hnc40 := NB248_247.out
        have hcz41_0 : wc.cell? ⟨gb247, 0, none⟩ = some (.int .i64 (wrap64 (1 + (wrap64 (Int.tmod a0 8))))) := (blk_cell BK247.out 0).trans rfl
        have hcz41_1 : wc.cell? ⟨gb247, 1, none⟩ = some (.int .i64 x248001_17) := (blk_cell BK247.out 1).trans rfl
        have hcz41_2 : wc.cell? ⟨gb247, 2, none⟩ = some (.int .i64 (wrap64 (a2))) := (blk_cell BK247.out 2).trans rfl
        have hcz41_3 : wc.cell? ⟨gb247, 3, none⟩ = some (.int .i64 0) := (blk_cell BK247.out 3).trans rfl
        have hfz41_0 := blk_frozen BK247.out 0
        have hfz41_1 := blk_frozen BK247.out 1
        have hfz41_2 := blk_frozen BK247.out 2
        have hfz41_3 := blk_frozen BK247.out 3
        go_upto_region 13 with (first | ((with_reducible refine gate_callee (f := 11) rfl ?_); refine goesL_ (some 71) rfl rfl Try.func11 (by kernel_rfl) rfl #[.slice none 0 0, .agg #[.int .i64 (wrap64 (1 + (wrap64 (Int.tmod a0 8)))), .int .i64 x248001_17, .int .i64 (wrap64 (a2)), .int .i64 0]] rfl (by (try simp only [List.map_toArray, List.map_cons, List.map_nil]); first | done | rfl | (simp only [List.length_drop, List.length_take]; rfl)) ?_; (refine (swap_Put.calls kj17 (fun k_ => False) _ _ ([] : List (S26)) (wrap64 (1 + (wrap64 (Int.tmod a0 8)))) x248001_17 (wrap64 (a2)) 0 t251 t254 t255 t256 t257 t258 t259 t260 t261 t262 t263 _ ?side1 A37.out).mono ?_); (case side1 => exact Kd.V_nil _ _ _ _ _); rintro e w42 ⟨v252, rfl, ho0, hb⟩; refine ⟨_, rfl, ?_⟩; have n0_ := Aside0.mk (Kd.V_lower (Kd.V_mono (ok' := fun k_ => k_ ≠ gb247 ∧ k_ ≠ gb248) ho0 (fun k_ hk_ => ⟨Or.elim hk_ (fun hs_ => (hs_).elim) (fun hn_ => (Kd.freshB (g := gb247) (o := .cells #[.int .i64 (wrap64 (1 + (wrap64 (Int.tmod a0 8)))), .int .i64 x248001_17, .int .i64 (wrap64 (a2)), .int .i64 0] 26 (0, 0)) (by (with_reducible repeat (first | refine blk_drewN ?_ _ | refine blk_drew ?_ | refine blk_alloc ?_ _)); exact BK247.out) k_ hn_)), Or.elim hk_ (fun hs_ => (hs_).elim) (fun hn_ => (Kd.freshB (g := gb248) (o := .cells #[.int .i64 (wrap64 (1 + (wrap64 (Int.tmod a1 8)))), .int .i64 0, .int .i64 (wrap64 (a3)), .int .i64 0] 26 (0, 0)) (by (with_reducible repeat (first | refine blk_drewN ?_ _ | refine blk_drew ?_ | refine blk_alloc ?_ _)); exact BK248.out) k_ hn_))⟩)) (below_size (by repeat (first | (with_reducible first | exact HB.out | apply below_alloc | apply pw_below_drewN | apply below_drew1 | refine below_set ?_ GE247.out | refine below_set ?_ GE248.out) | exact HB.out)))); have n1_ := Aside0.mk (blk_below (g := gb247) (o := .cells #[.int .i64 (wrap64 (1 + (wrap64 (Int.tmod a0 8)))), .int .i64 x248001_17, .int .i64 (wrap64 (a2)), .int .i64 0] 26 (0, 0)) (by (with_reducible repeat (first | refine blk_drewN ?_ _ | refine blk_drew ?_ | refine blk_alloc ?_ _)); exact BK247.out) hb); have n2_ := Aside0.mk (blk_below (g := gb248) (o := .cells #[.int .i64 (wrap64 (1 + (wrap64 (Int.tmod a1 8)))), .int .i64 0, .int .i64 (wrap64 (a3)), .int .i64 0] 26 (0, 0)) (by (with_reducible repeat (first | refine blk_drewN ?_ _ | refine blk_drew ?_ | refine blk_alloc ?_ _)); exact BK248.out) hb); have n3_ := Aside0.mk (below_step (by repeat (first | (with_reducible first | exact HB.out | apply below_alloc | apply pw_below_drewN | apply below_drew1 | refine below_set ?_ GE247.out | refine below_set ?_ GE248.out) | exact HB.out)) hb); clear BK247; clear BK248; clear HB; have HO253 := n0_; have BK247 := n1_; have BK248 := n2_; have HB := n3_; clear n0_ n1_ n2_ n3_; (try clear hb); (try clear hb2); (try clear hk); (try clear hi); (try clear ho0)) | ((with_reducible refine gate_dst (N := 15) rfl ?_); refine box_event ?hg (N := 15) ?hd (cs := #[.int .i64 0, .int .i64 0, .int .i64 0, .int .i64 0, .int .i64 0, .int .i64 0, .int .i64 0, .int .i64 0]) (t := 35) ?hr ?_; (case hd => rfl); (case hg => rfl); (case hr => first | (go_simp; done) | (go_simp; rfl)); intro gb264 hg w43 hbox hb; have n0_ := Aside0.mk (Kd.V_below (Kd.V_elderB (by (with_reducible repeat (first | apply Kd.V_alloc | apply Kd.V_drewN | apply Kd.V_drew)); exact HO253.out) gb264 (Nat.le_of_eq hg.symm)) hb); have n1_ := Aside0.mk (blk_below (g := gb247) (o := .cells #[.int .i64 (wrap64 (1 + (wrap64 (Int.tmod a0 8)))), .int .i64 x248001_17, .int .i64 (wrap64 (a2)), .int .i64 0] 26 (0, 0)) (by (with_reducible repeat (first | refine blk_drewN ?_ _ | refine blk_drew ?_ | refine blk_alloc ?_ _)); exact BK247.out) hb); have n2_ := Aside0.mk (blk_below (g := gb248) (o := .cells #[.int .i64 (wrap64 (1 + (wrap64 (Int.tmod a1 8)))), .int .i64 0, .int .i64 (wrap64 (a3)), .int .i64 0] 26 (0, 0)) (by (with_reducible repeat (first | refine blk_drewN ?_ _ | refine blk_drew ?_ | refine blk_alloc ?_ _)); exact BK248.out) hb); have n3_ := Aside0.mk (below_step (by repeat (first | (with_reducible first | exact HB.out | apply below_alloc | apply pw_below_drewN | apply below_drew1 | refine below_set ?_ GE247.out | refine below_set ?_ GE248.out) | exact HB.out)) hb); have n4_ := Aside0.mk (hbox); have n5_ := Aside0.mk ((by rw [hg]; exact (below_size (by repeat (first | (with_reducible first | exact HB.out | apply below_alloc | apply pw_below_drewN | apply below_drew1 | refine below_set ?_ GE247.out | refine below_set ?_ GE248.out) | exact HB.out))) : w.heap.size ≤ gb264)); have n6_ := Aside0.mk ((by rw [hg]; exact (below_size (by repeat (first | (with_reducible first | exact HB.out | apply below_alloc | apply pw_below_drewN | apply below_drew1 | refine below_set ?_ GE247.out | refine below_set ?_ GE248.out) | exact HB.out))) : w.heap.size ≤ gb264)); have n7_ := Aside0.mk ((by rw [hg]; exact Nat.ne_of_lt (blk_lt (g := gb247) (o := .cells #[.int .i64 (wrap64 (1 + (wrap64 (Int.tmod a0 8)))), .int .i64 x248001_17, .int .i64 (wrap64 (a2)), .int .i64 0] 26 (0, 0)) (by (with_reducible repeat (first | refine blk_drewN ?_ _ | refine blk_drew ?_ | refine blk_alloc ?_ _)); exact BK247.out)) : gb247 ≠ gb264)); have n8_ := Aside0.mk ((by rw [hg]; exact Nat.ne_of_gt (blk_lt (g := gb247) (o := .cells #[.int .i64 (wrap64 (1 + (wrap64 (Int.tmod a0 8)))), .int .i64 x248001_17, .int .i64 (wrap64 (a2)), .int .i64 0] 26 (0, 0)) (by (with_reducible repeat (first | refine blk_drewN ?_ _ | refine blk_drew ?_ | refine blk_alloc ?_ _)); exact BK247.out)) : gb264 ≠ gb247)); have n9_ := Aside0.mk ((by rw [hg]; exact Nat.ne_of_lt (blk_lt (g := gb248) (o := .cells #[.int .i64 (wrap64 (1 + (wrap64 (Int.tmod a1 8)))), .int .i64 0, .int .i64 (wrap64 (a3)), .int .i64 0] 26 (0, 0)) (by (with_reducible repeat (first | refine blk_drewN ?_ _ | refine blk_drew ?_ | refine blk_alloc ?_ _)); exact BK248.out)) : gb248 ≠ gb264)); have n10_ := Aside0.mk ((by rw [hg]; exact Nat.ne_of_gt (blk_lt (g := gb248) (o := .cells #[.int .i64 (wrap64 (1 + (wrap64 (Int.tmod a1 8)))), .int .i64 0, .int .i64 (wrap64 (a3)), .int .i64 0] 26 (0, 0)) (by (with_reducible repeat (first | refine blk_drewN ?_ _ | refine blk_drew ?_ | refine blk_alloc ?_ _)); exact BK248.out)) : gb264 ≠ gb248)); clear HO253; clear BK247; clear BK248; clear HB; have HO253 := n0_; have BK247 := n1_; have BK248 := n2_; have HB := n3_; have BK264 := n4_; have GW264 := n5_; have GE264 := n6_; have NB247_264 := n7_; have NB264_247 := n8_; have NB248_264 := n9_; have NB264_248 := n10_; clear n0_ n1_ n2_ n3_ n4_ n5_ n6_ n7_ n8_ n9_ n10_; clear hb hbox hg; have hnb44 := NB264_247.out; have hnc44 := NB247_264.out; have hnb45 := NB264_248.out; have hnc45 := NB248_264.out; have hcz46_0 : w43.cell? ⟨gb264, 0, none⟩ = some (.int .i64 0) := (blk_cell BK264.out 0).trans rfl; have hcz46_1 : w43.cell? ⟨gb264, 1, none⟩ = some (.int .i64 0) := (blk_cell BK264.out 1).trans rfl; have hcz46_2 : w43.cell? ⟨gb264, 2, none⟩ = some (.int .i64 0) := (blk_cell BK264.out 2).trans rfl; have hcz46_3 : w43.cell? ⟨gb264, 3, none⟩ = some (.int .i64 0) := (blk_cell BK264.out 3).trans rfl; have hcz46_4 : w43.cell? ⟨gb264, 4, none⟩ = some (.int .i64 0) := (blk_cell BK264.out 4).trans rfl; have hcz46_5 : w43.cell? ⟨gb264, 5, none⟩ = some (.int .i64 0) := (blk_cell BK264.out 5).trans rfl; have hcz46_6 : w43.cell? ⟨gb264, 6, none⟩ = some (.int .i64 0) := (blk_cell BK264.out 6).trans rfl; have hcz46_7 : w43.cell? ⟨gb264, 7, none⟩ = some (.int .i64 0) := (blk_cell BK264.out 7).trans rfl; have hfz46_0 := blk_frozen BK264.out 0; have hfz46_1 := blk_frozen BK264.out 1; have hfz46_2 := blk_frozen BK264.out 2; have hfz46_3 := blk_frozen BK264.out 3; have hfz46_4 := blk_frozen BK264.out 4; have hfz46_5 := blk_frozen BK264.out 5; have hfz46_6 := blk_frozen BK264.out 6; have hfz46_7 := blk_frozen BK264.out 7) | ((with_reducible refine gate_store (t := 35) (p := 15) rfl ?_); refine store_event (t := 35) (p := 15) (v := ?vo_w47) (w1 := ((((((((w43.setCell ⟨gb264, 0, none⟩ (.int .i64 t254)).setCell ⟨gb264, 1, none⟩ (.int .i64 t255)).setCell ⟨gb264, 2, none⟩ (.int .i64 t256)).setCell ⟨gb264, 3, none⟩ (.int .i64 t257)).setCell ⟨gb264, 4, none⟩ (.int .i64 t258)).setCell ⟨gb264, 5, none⟩ (.int .i64 t259)).setCell ⟨gb264, 6, none⟩ (.int .i64 t260)).setCell ⟨gb264, 7, none⟩ (.int .i64 t261))) ?hg ?ho ?hn ?hr ?_; (case ho => rfl); (case hg => rfl); (case hn => rfl); (case hr => first | (go_simp; done) | (go_simp; rfl)); intro w47 hw; have n0_ : Aside0 (Kd.V k26 26 w47 w.heap.size (fun k_ => k_ ≠ gb247 ∧ k_ ≠ gb248 ∧ k_ ≠ gb264) v252 t251) := ⟨(by rw [hw]; exact (by (with_reducible repeat (first | apply Kd.V_alloc | apply Kd.V_drewN | apply Kd.V_drew)); exact Kd.V_mono (Kd.V_far (p := ⟨gb264, 7, none⟩) (Kd.V_far (p := ⟨gb264, 6, none⟩) (Kd.V_far (p := ⟨gb264, 5, none⟩) (Kd.V_far (p := ⟨gb264, 4, none⟩) (Kd.V_far (p := ⟨gb264, 3, none⟩) (Kd.V_far (p := ⟨gb264, 2, none⟩) (Kd.V_far (p := ⟨gb264, 1, none⟩) (Kd.V_far (p := ⟨gb264, 0, none⟩) (Kd.V_mono HO253.out (fun k_ hk => (⟨hk, hk.2⟩ : _ ∧ k_ ≠ gb264))) (fun _ hk => hk.2) (.int .i64 t254)) (fun _ hk => hk.2) (.int .i64 t255)) (fun _ hk => hk.2) (.int .i64 t256)) (fun _ hk => hk.2) (.int .i64 t257)) (fun _ hk => hk.2) (.int .i64 t258)) (fun _ hk => hk.2) (.int .i64 t259)) (fun _ hk => hk.2) (.int .i64 t260)) (fun _ hk => hk.2) (.int .i64 t261)) (fun _ hk => ⟨hk.1.1.1, ⟨hk.1.1.2, hk.1.2⟩⟩)))⟩; have n1_ : Aside0 (w47.heap[gb247]? = some (.cells #[.int .i64 (wrap64 (1 + (wrap64 (Int.tmod a0 8)))), .int .i64 x248001_17, .int .i64 (wrap64 (a2)), .int .i64 0] 26 (0, 0))) := ⟨(by rw [hw]; exact (by (with_reducible repeat (first | refine blk_drewN ?_ _ | refine blk_drew ?_ | refine blk_alloc ?_ _)); refine blk_far ?_ NB247_264.out _; (with_reducible repeat (first | refine blk_drewN ?_ _ | refine blk_drew ?_ | refine blk_alloc ?_ _)); refine blk_far ?_ NB247_264.out _; (with_reducible repeat (first | refine blk_drewN ?_ _ | refine blk_drew ?_ | refine blk_alloc ?_ _)); refine blk_far ?_ NB247_264.out _; (with_reducible repeat (first | refine blk_drewN ?_ _ | refine blk_drew ?_ | refine blk_alloc ?_ _)); refine blk_far ?_ NB247_264.out _; (with_reducible repeat (first | refine blk_drewN ?_ _ | refine blk_drew ?_ | refine blk_alloc ?_ _)); refine blk_far ?_ NB247_264.out _; (with_reducible repeat (first | refine blk_drewN ?_ _ | refine blk_drew ?_ | refine blk_alloc ?_ _)); refine blk_far ?_ NB247_264.out _; (with_reducible repeat (first | refine blk_drewN ?_ _ | refine blk_drew ?_ | refine blk_alloc ?_ _)); refine blk_far ?_ NB247_264.out _; (with_reducible repeat (first | refine blk_drewN ?_ _ | refine blk_drew ?_ | refine blk_alloc ?_ _)); refine blk_far ?_ NB247_264.out _; (with_reducible repeat (first | refine blk_drewN ?_ _ | refine blk_drew ?_ | refine blk_alloc ?_ _)); exact BK247.out))⟩; have n2_ : Aside0 (w47.heap[gb248]? = some (.cells #[.int .i64 (wrap64 (1 + (wrap64 (Int.tmod a1 8)))), .int .i64 0, .int .i64 (wrap64 (a3)), .int .i64 0] 26 (0, 0))) := ⟨(by rw [hw]; exact (by (with_reducible repeat (first | refine blk_drewN ?_ _ | refine blk_drew ?_ | refine blk_alloc ?_ _)); refine blk_far ?_ NB248_264.out _; (with_reducible repeat (first | refine blk_drewN ?_ _ | refine blk_drew ?_ | refine blk_alloc ?_ _)); refine blk_far ?_ NB248_264.out _; (with_reducible repeat (first | refine blk_drewN ?_ _ | refine blk_drew ?_ | refine blk_alloc ?_ _)); refine blk_far ?_ NB248_264.out _; (with_reducible repeat (first | refine blk_drewN ?_ _ | refine blk_drew ?_ | refine blk_alloc ?_ _)); refine blk_far ?_ NB248_264.out _; (with_reducible repeat (first | refine blk_drewN ?_ _ | refine blk_drew ?_ | refine blk_alloc ?_ _)); refine blk_far ?_ NB248_264.out _; (with_reducible repeat (first | refine blk_drewN ?_ _ | refine blk_drew ?_ | refine blk_alloc ?_ _)); refine blk_far ?_ NB248_264.out _; (with_reducible repeat (first | refine blk_drewN ?_ _ | refine blk_drew ?_ | refine blk_alloc ?_ _)); refine blk_far ?_ NB248_264.out _; (with_reducible repeat (first | refine blk_drewN ?_ _ | refine blk_drew ?_ | refine blk_alloc ?_ _)); refine blk_far ?_ NB248_264.out _; (with_reducible repeat (first | refine blk_drewN ?_ _ | refine blk_drew ?_ | refine blk_alloc ?_ _)); exact BK248.out))⟩; have n3_ : Aside0 (w47.heap[gb264]? = some (.cells #[.int .i64 t254, .int .i64 t255, .int .i64 t256, .int .i64 t257, .int .i64 t258, .int .i64 t259, .int .i64 t260, .int .i64 t261] 35 (0, 0))) := ⟨(by rw [hw]; exact (by (with_reducible repeat (first | refine blk_drewN ?_ _ | refine blk_drew ?_ | refine blk_alloc ?_ _)); refine blk_put (cs := #[.int .i64 t254, .int .i64 t255, .int .i64 t256, .int .i64 t257, .int .i64 t258, .int .i64 t259, .int .i64 t260, .int .i64 0]) ?_ 7 _ rfl; (with_reducible repeat (first | refine blk_drewN ?_ _ | refine blk_drew ?_ | refine blk_alloc ?_ _)); refine blk_put (cs := #[.int .i64 t254, .int .i64 t255, .int .i64 t256, .int .i64 t257, .int .i64 t258, .int .i64 t259, .int .i64 0, .int .i64 0]) ?_ 6 _ rfl; (with_reducible repeat (first | refine blk_drewN ?_ _ | refine blk_drew ?_ | refine blk_alloc ?_ _)); refine blk_put (cs := #[.int .i64 t254, .int .i64 t255, .int .i64 t256, .int .i64 t257, .int .i64 t258, .int .i64 0, .int .i64 0, .int .i64 0]) ?_ 5 _ rfl; (with_reducible repeat (first | refine blk_drewN ?_ _ | refine blk_drew ?_ | refine blk_alloc ?_ _)); refine blk_put (cs := #[.int .i64 t254, .int .i64 t255, .int .i64 t256, .int .i64 t257, .int .i64 0, .int .i64 0, .int .i64 0, .int .i64 0]) ?_ 4 _ rfl; (with_reducible repeat (first | refine blk_drewN ?_ _ | refine blk_drew ?_ | refine blk_alloc ?_ _)); refine blk_put (cs := #[.int .i64 t254, .int .i64 t255, .int .i64 t256, .int .i64 0, .int .i64 0, .int .i64 0, .int .i64 0, .int .i64 0]) ?_ 3 _ rfl; (with_reducible repeat (first | refine blk_drewN ?_ _ | refine blk_drew ?_ | refine blk_alloc ?_ _)); refine blk_put (cs := #[.int .i64 t254, .int .i64 t255, .int .i64 0, .int .i64 0, .int .i64 0, .int .i64 0, .int .i64 0, .int .i64 0]) ?_ 2 _ rfl; (with_reducible repeat (first | refine blk_drewN ?_ _ | refine blk_drew ?_ | refine blk_alloc ?_ _)); refine blk_put (cs := #[.int .i64 t254, .int .i64 0, .int .i64 0, .int .i64 0, .int .i64 0, .int .i64 0, .int .i64 0, .int .i64 0]) ?_ 1 _ rfl; (with_reducible repeat (first | refine blk_drewN ?_ _ | refine blk_drew ?_ | refine blk_alloc ?_ _)); refine blk_put (cs := #[.int .i64 0, .int .i64 0, .int .i64 0, .int .i64 0, .int .i64 0, .int .i64 0, .int .i64 0, .int .i64 0]) ?_ 0 _ rfl; (with_reducible repeat (first | refine blk_drewN ?_ _ | refine blk_drew ?_ | refine blk_alloc ?_ _)); exact BK264.out))⟩; have n4_ : Aside0 (Below w.heap.size w w47) := ⟨(by rw [hw]; exact (by repeat (first | (with_reducible first | exact HB.out | apply below_alloc | apply pw_below_drewN | apply below_drew1 | refine below_set ?_ GE247.out | refine below_set ?_ GE248.out | refine below_set ?_ GE264.out) | exact HB.out)))⟩; clear hw; clear HO253; clear BK247; clear BK248; clear BK264; clear HB; have HO253 := n0_; have BK247 := n1_; have BK248 := n2_; have BK264 := n3_; have HB := n4_; clear n0_ n1_ n2_ n3_ n4_; have hcz48_0 : w47.cell? ⟨gb248, 0, none⟩ = some (.int .i64 (wrap64 (1 + (wrap64 (Int.tmod a1 8))))) := (blk_cell BK248.out 0).trans rfl; have hcz48_1 : w47.cell? ⟨gb248, 1, none⟩ = some (.int .i64 0) := (blk_cell BK248.out 1).trans rfl; have hcz48_2 : w47.cell? ⟨gb248, 2, none⟩ = some (.int .i64 (wrap64 (a3))) := (blk_cell BK248.out 2).trans rfl; have hcz48_3 : w47.cell? ⟨gb248, 3, none⟩ = some (.int .i64 0) := (blk_cell BK248.out 3).trans rfl; have hfz48_0 := blk_frozen BK248.out 0; have hfz48_1 := blk_frozen BK248.out 1; have hfz48_2 := blk_frozen BK248.out 2; have hfz48_3 := blk_frozen BK248.out 3; obtain ⟨Ao49, co49, eo49⟩ := Kd.V_slice HO253.out; subst eo49) | ((with_reducible refine gate_callee (f := 11) rfl ?_); refine goesL_ (some 79) rfl rfl Try.func11 (by kernel_rfl) rfl #[.slice Ao49 t251.length co49, .agg #[.int .i64 (wrap64 (1 + (wrap64 (Int.tmod a1 8)))), .int .i64 0, .int .i64 (wrap64 (a3)), .int .i64 0]] rfl (by (try simp only [List.map_toArray, List.map_cons, List.map_nil]); first | done | rfl | (simp only [List.length_drop, List.length_take]; rfl)) ?_; (with_reducible refine (swap_Put.calls kj17 (fun k_ => (k_ ≠ gb247 ∧ (k_ ≠ gb248 ∧ k_ ≠ gb264))) _ _ t251 (wrap64 (1 + (wrap64 (Int.tmod a1 8)))) 0 (wrap64 (a3)) 0 t265 t268 t269 t270 t271 t272 t273 t274 t275 t276 t277 _ ?side1 A38.out).mono ?_); (case side1 => exact HO253.out); rintro e w50 ⟨v266, rfl, ho0, hb⟩; refine ⟨_, rfl, ?_⟩; have n0_ := Aside0.mk (Kd.V_below (by (with_reducible repeat (first | apply Kd.V_alloc | apply Kd.V_drewN | apply Kd.V_drew)); exact HO253.out) hb); have n1_ := Aside0.mk (Kd.V_lower (Kd.V_mono (ok' := fun k_ => k_ ≠ gb247 ∧ k_ ≠ gb248 ∧ k_ ≠ gb264) ho0 (fun k_ hk_ => ⟨Or.elim hk_ (fun hs_ => hs_.1) (fun hn_ => (Kd.freshB (g := gb247) (o := .cells #[.int .i64 (wrap64 (1 + (wrap64 (Int.tmod a0 8)))), .int .i64 x248001_17, .int .i64 (wrap64 (a2)), .int .i64 0] 26 (0, 0)) (by (with_reducible repeat (first | refine blk_drewN ?_ _ | refine blk_drew ?_ | refine blk_alloc ?_ _)); exact BK247.out) k_ hn_)), Or.elim hk_ (fun hs_ => hs_.2.1) (fun hn_ => (Kd.freshB (g := gb248) (o := .cells #[.int .i64 (wrap64 (1 + (wrap64 (Int.tmod a1 8)))), .int .i64 0, .int .i64 (wrap64 (a3)), .int .i64 0] 26 (0, 0)) (by (with_reducible repeat (first | refine blk_drewN ?_ _ | refine blk_drew ?_ | refine blk_alloc ?_ _)); exact BK248.out) k_ hn_)), Or.elim hk_ (fun hs_ => hs_.2.2) (fun hn_ => (Kd.freshB (g := gb264) (o := .cells #[.int .i64 t254, .int .i64 t255, .int .i64 t256, .int .i64 t257, .int .i64 t258, .int .i64 t259, .int .i64 t260, .int .i64 t261] 35 (0, 0)) (by (with_reducible repeat (first | refine blk_drewN ?_ _ | refine blk_drew ?_ | refine blk_alloc ?_ _)); exact BK264.out) k_ hn_))⟩)) (below_size (by repeat (first | (with_reducible first | exact HB.out | apply below_alloc | apply pw_below_drewN | apply below_drew1 | refine below_set ?_ GE247.out | refine below_set ?_ GE248.out | refine below_set ?_ GE264.out) | exact HB.out)))); have n2_ := Aside0.mk (blk_below (g := gb247) (o := .cells #[.int .i64 (wrap64 (1 + (wrap64 (Int.tmod a0 8)))), .int .i64 x248001_17, .int .i64 (wrap64 (a2)), .int .i64 0] 26 (0, 0)) (by (with_reducible repeat (first | refine blk_drewN ?_ _ | refine blk_drew ?_ | refine blk_alloc ?_ _)); exact BK247.out) hb); have n3_ := Aside0.mk (blk_below (g := gb248) (o := .cells #[.int .i64 (wrap64 (1 + (wrap64 (Int.tmod a1 8)))), .int .i64 0, .int .i64 (wrap64 (a3)), .int .i64 0] 26 (0, 0)) (by (with_reducible repeat (first | refine blk_drewN ?_ _ | refine blk_drew ?_ | refine blk_alloc ?_ _)); exact BK248.out) hb); have n4_ := Aside0.mk (blk_below (g := gb264) (o := .cells #[.int .i64 t254, .int .i64 t255, .int .i64 t256, .int .i64 t257, .int .i64 t258, .int .i64 t259, .int .i64 t260, .int .i64 t261] 35 (0, 0)) (by (with_reducible repeat (first | refine blk_drewN ?_ _ | refine blk_drew ?_ | refine blk_alloc ?_ _)); exact BK264.out) hb); have n5_ := Aside0.mk (below_step (by repeat (first | (with_reducible first | exact HB.out | apply below_alloc | apply pw_below_drewN | apply below_drew1 | refine below_set ?_ GE247.out | refine below_set ?_ GE248.out | refine below_set ?_ GE264.out) | exact HB.out)) hb); clear HO253; clear BK247; clear BK248; clear BK264; clear HB; have HO253 := n0_; have HO267 := n1_; have BK247 := n2_; have BK248 := n3_; have BK264 := n4_; have HB := n5_; clear n0_ n1_ n2_ n3_ n4_ n5_; (try clear hb); (try clear hb2); (try clear hk); (try clear hi); (try clear ho0)) | ((with_reducible refine gate_dst (N := 19) rfl ?_); refine box_event ?hg (N := 19) ?hd (cs := #[.int .i64 0, .int .i64 0, .int .i64 0, .int .i64 0, .int .i64 0, .int .i64 0, .int .i64 0, .int .i64 0]) (t := 35) ?hr ?_; (case hd => rfl); (case hg => rfl); (case hr => first | (go_simp; done) | (go_simp; rfl)); intro gb278 hg w51 hbox hb; have n0_ := Aside0.mk (Kd.V_below (Kd.V_elderB (by (with_reducible repeat (first | apply Kd.V_alloc | apply Kd.V_drewN | apply Kd.V_drew)); exact HO253.out) gb278 (Nat.le_of_eq hg.symm)) hb); have n1_ := Aside0.mk (Kd.V_below (Kd.V_elderB (by (with_reducible repeat (first | apply Kd.V_alloc | apply Kd.V_drewN | apply Kd.V_drew)); exact HO267.out) gb278 (Nat.le_of_eq hg.symm)) hb); have n2_ := Aside0.mk (blk_below (g := gb247) (o := .cells #[.int .i64 (wrap64 (1 + (wrap64 (Int.tmod a0 8)))), .int .i64 x248001_17, .int .i64 (wrap64 (a2)), .int .i64 0] 26 (0, 0)) (by (with_reducible repeat (first | refine blk_drewN ?_ _ | refine blk_drew ?_ | refine blk_alloc ?_ _)); exact BK247.out) hb); have n3_ := Aside0.mk (blk_below (g := gb248) (o := .cells #[.int .i64 (wrap64 (1 + (wrap64 (Int.tmod a1 8)))), .int .i64 0, .int .i64 (wrap64 (a3)), .int .i64 0] 26 (0, 0)) (by (with_reducible repeat (first | refine blk_drewN ?_ _ | refine blk_drew ?_ | refine blk_alloc ?_ _)); exact BK248.out) hb); have n4_ := Aside0.mk (blk_below (g := gb264) (o := .cells #[.int .i64 t254, .int .i64 t255, .int .i64 t256, .int .i64 t257, .int .i64 t258, .int .i64 t259, .int .i64 t260, .int .i64 t261] 35 (0, 0)) (by (with_reducible repeat (first | refine blk_drewN ?_ _ | refine blk_drew ?_ | refine blk_alloc ?_ _)); exact BK264.out) hb); have n5_ := Aside0.mk (below_step (by repeat (first | (with_reducible first | exact HB.out | apply below_alloc | apply pw_below_drewN | apply below_drew1 | refine below_set ?_ GE247.out | refine below_set ?_ GE248.out | refine below_set ?_ GE264.out) | exact HB.out)) hb); have n6_ := Aside0.mk (hbox); have n7_ := Aside0.mk ((by rw [hg]; exact (below_size (by repeat (first | (with_reducible first | exact HB.out | apply below_alloc | apply pw_below_drewN | apply below_drew1 | refine below_set ?_ GE247.out | refine below_set ?_ GE248.out | refine below_set ?_ GE264.out) | exact HB.out))) : w.heap.size ≤ gb278)); have n8_ := Aside0.mk ((by rw [hg]; exact (below_size (by repeat (first | (with_reducible first | exact HB.out | apply below_alloc | apply pw_below_drewN | apply below_drew1 | refine below_set ?_ GE247.out | refine below_set ?_ GE248.out | refine below_set ?_ GE264.out) | exact HB.out))) : w.heap.size ≤ gb278)); have n9_ := Aside0.mk ((by rw [hg]; exact Nat.ne_of_lt (blk_lt (g := gb247) (o := .cells #[.int .i64 (wrap64 (1 + (wrap64 (Int.tmod a0 8)))), .int .i64 x248001_17, .int .i64 (wrap64 (a2)), .int .i64 0] 26 (0, 0)) (by (with_reducible repeat (first | refine blk_drewN ?_ _ | refine blk_drew ?_ | refine blk_alloc ?_ _)); exact BK247.out)) : gb247 ≠ gb278)); have n10_ := Aside0.mk ((by rw [hg]; exact Nat.ne_of_gt (blk_lt (g := gb247) (o := .cells #[.int .i64 (wrap64 (1 + (wrap64 (Int.tmod a0 8)))), .int .i64 x248001_17, .int .i64 (wrap64 (a2)), .int .i64 0] 26 (0, 0)) (by (with_reducible repeat (first | refine blk_drewN ?_ _ | refine blk_drew ?_ | refine blk_alloc ?_ _)); exact BK247.out)) : gb278 ≠ gb247)); have n11_ := Aside0.mk ((by rw [hg]; exact Nat.ne_of_lt (blk_lt (g := gb248) (o := .cells #[.int .i64 (wrap64 (1 + (wrap64 (Int.tmod a1 8)))), .int .i64 0, .int .i64 (wrap64 (a3)), .int .i64 0] 26 (0, 0)) (by (with_reducible repeat (first | refine blk_drewN ?_ _ | refine blk_drew ?_ | refine blk_alloc ?_ _)); exact BK248.out)) : gb248 ≠ gb278)); have n12_ := Aside0.mk ((by rw [hg]; exact Nat.ne_of_gt (blk_lt (g := gb248) (o := .cells #[.int .i64 (wrap64 (1 + (wrap64 (Int.tmod a1 8)))), .int .i64 0, .int .i64 (wrap64 (a3)), .int .i64 0] 26 (0, 0)) (by (with_reducible repeat (first | refine blk_drewN ?_ _ | refine blk_drew ?_ | refine blk_alloc ?_ _)); exact BK248.out)) : gb278 ≠ gb248)); have n13_ := Aside0.mk ((by rw [hg]; exact Nat.ne_of_lt (blk_lt (g := gb264) (o := .cells #[.int .i64 t254, .int .i64 t255, .int .i64 t256, .int .i64 t257, .int .i64 t258, .int .i64 t259, .int .i64 t260, .int .i64 t261] 35 (0, 0)) (by (with_reducible repeat (first | refine blk_drewN ?_ _ | refine blk_drew ?_ | refine blk_alloc ?_ _)); exact BK264.out)) : gb264 ≠ gb278)); have n14_ := Aside0.mk ((by rw [hg]; exact Nat.ne_of_gt (blk_lt (g := gb264) (o := .cells #[.int .i64 t254, .int .i64 t255, .int .i64 t256, .int .i64 t257, .int .i64 t258, .int .i64 t259, .int .i64 t260, .int .i64 t261] 35 (0, 0)) (by (with_reducible repeat (first | refine blk_drewN ?_ _ | refine blk_drew ?_ | refine blk_alloc ?_ _)); exact BK264.out)) : gb278 ≠ gb264)); clear HO253; clear HO267; clear BK247; clear BK248; clear BK264; clear HB; have HO253 := n0_; have HO267 := n1_; have BK247 := n2_; have BK248 := n3_; have BK264 := n4_; have HB := n5_; have BK278 := n6_; have GW278 := n7_; have GE278 := n8_; have NB247_278 := n9_; have NB278_247 := n10_; have NB248_278 := n11_; have NB278_248 := n12_; have NB264_278 := n13_; have NB278_264 := n14_; clear n0_ n1_ n2_ n3_ n4_ n5_ n6_ n7_ n8_ n9_ n10_ n11_ n12_ n13_ n14_; clear hb hbox hg; have hnb52 := NB278_247.out; have hnc52 := NB247_278.out; have hnb53 := NB278_248.out; have hnc53 := NB248_278.out; have hnb54 := NB278_264.out; have hnc54 := NB264_278.out; have hcz55_0 : w51.cell? ⟨gb278, 0, none⟩ = some (.int .i64 0) := (blk_cell BK278.out 0).trans rfl; have hcz55_1 : w51.cell? ⟨gb278, 1, none⟩ = some (.int .i64 0) := (blk_cell BK278.out 1).trans rfl; have hcz55_2 : w51.cell? ⟨gb278, 2, none⟩ = some (.int .i64 0) := (blk_cell BK278.out 2).trans rfl; have hcz55_3 : w51.cell? ⟨gb278, 3, none⟩ = some (.int .i64 0) := (blk_cell BK278.out 3).trans rfl; have hcz55_4 : w51.cell? ⟨gb278, 4, none⟩ = some (.int .i64 0) := (blk_cell BK278.out 4).trans rfl; have hcz55_5 : w51.cell? ⟨gb278, 5, none⟩ = some (.int .i64 0) := (blk_cell BK278.out 5).trans rfl; have hcz55_6 : w51.cell? ⟨gb278, 6, none⟩ = some (.int .i64 0) := (blk_cell BK278.out 6).trans rfl; have hcz55_7 : w51.cell? ⟨gb278, 7, none⟩ = some (.int .i64 0) := (blk_cell BK278.out 7).trans rfl; have hfz55_0 := blk_frozen BK278.out 0; have hfz55_1 := blk_frozen BK278.out 1; have hfz55_2 := blk_frozen BK278.out 2; have hfz55_3 := blk_frozen BK278.out 3; have hfz55_4 := blk_frozen BK278.out 4; have hfz55_5 := blk_frozen BK278.out 5; have hfz55_6 := blk_frozen BK278.out 6; have hfz55_7 := blk_frozen BK278.out 7))
        (try simp only [Act.put, List.setIfInBounds_toArray, List.set_cons_zero, List.set_cons_succ])
        go_cut [97] (fun v97 wc => ∃ (kq : Nat) (x97_38 : Bool), v97 = .bool x97_38 ∧ Aside0 (handshakerlaw21_SwapBoth.j2 kq a2 a3 a4 t265 x97_38 (wrap64 (1 + (wrap64 (Int.tmod a0 8)))) x248001_17 (wrap64 (a2)) 0 (wrap64 (1 + (wrap64 (Int.tmod a1 8)))) 0 (wrap64 (a3)) 0 t268 t269 t270 t271 t272 t273 t274 t275 = some r) ∧ Aside0 (kq ≤ kj17) ∧ Aside0 (Kd.V k26 26 wc w.heap.size (fun k_ => k_ ≠ gb247 ∧ k_ ≠ gb248 ∧ k_ ≠ gb264 ∧ k_ ≠ gb278) v266 t265) ∧ Aside0 (wc.heap[gb247]? = some (.cells #[.int .i64 (wrap64 (1 + (wrap64 (Int.tmod a0 8)))), .int .i64 x248001_17, .int .i64 (wrap64 (a2)), .int .i64 0] 26 (0, 0))) ∧ Aside0 (wc.heap[gb248]? = some (.cells #[.int .i64 (wrap64 (1 + (wrap64 (Int.tmod a1 8)))), .int .i64 0, .int .i64 (wrap64 (a3)), .int .i64 0] 26 (0, 0))) ∧ Aside0 (wc.heap[gb264]? = some (.cells #[.int .i64 t254, .int .i64 t255, .int .i64 t256, .int .i64 t257, .int .i64 t258, .int .i64 t259, .int .i64 t260, .int .i64 t261] 35 (0, 0))) ∧ Aside0 (wc.heap[gb278]? = some (.cells #[.int .i64 t268, .int .i64 t269, .int .i64 t270, .int .i64 t271, .int .i64 t272, .int .i64 t273, .int .i64 t274, .int .i64 t275] 35 (0, 0))) ∧ Aside0 (Below w.heap.size w wc))
        case first =>
          have H := HC39.out
          clear HC39
          by_cases c56 : t263 = 0
          · rw [if_pos c56] at H
            have c56b0 : (t263 == 0) = true := beq_iff_eq.mpr c56
            have c56b1 : (t263 != 0) = false := bne_eq_false_iff_eq.mpr c56
            clear c56
            (first | rw [c56b0] | (simp only [i64_w, i32_w]; rw [c56b0]) | skip)
            by_cases c57 : t277 = 0
            · rw [if_pos c57] at H
              have c57b0 : (t277 == 0) = true := beq_iff_eq.mpr c57
              have c57b1 : (t277 != 0) = false := bne_eq_false_iff_eq.mpr c57
              clear c57
              by_cases c58 : t262 = true
              · subst c58
                have H1 : (none) = some r := by rw [if_pos rfl] at H; exact H
                clear H
                have H := H1
                clear H1
                exact absurd H (by simp)
              · replace c58 := Bool.eq_false_iff.mpr c58
                subst c58
                have H1 : (handshakerlaw21_SwapBoth.j2 kj17 a2 a3 a4 t265 (t276 == a4) (wrap64 (1 + (wrap64 (Int.tmod a0 8)))) x248001_17 (wrap64 (a2)) 0 (wrap64 (1 + (wrap64 (Int.tmod a1 8)))) 0 (wrap64 (a3)) 0 t268 t269 t270 t271 t272 t273 t274 t275) = some r := by rw [if_neg (show ¬ (false = true) by decide)] at H; exact H
                clear H
                have H := H1
                clear H1
                have H' := Aside0.mk H
                clear H
                go_wp2
                go_meet
                case rel => exact ⟨_, ((t276 == a4)), (by first | rfl | (simp; done) | (simp [*]; done)), H', ⟨by have := HJ17.out; first | omega | exact Nat.le_refl _⟩, ⟨by (with_reducible repeat (first | apply Kd.V_alloc | apply Kd.V_drewN | apply Kd.V_drew)); exact Kd.V_mono (Kd.V_far (p := ⟨gb278, 7, none⟩) (Kd.V_far (p := ⟨gb278, 6, none⟩) (Kd.V_far (p := ⟨gb278, 5, none⟩) (Kd.V_far (p := ⟨gb278, 4, none⟩) (Kd.V_far (p := ⟨gb278, 3, none⟩) (Kd.V_far (p := ⟨gb278, 2, none⟩) (Kd.V_far (p := ⟨gb278, 1, none⟩) (Kd.V_far (p := ⟨gb278, 0, none⟩) (Kd.V_mono HO267.out (fun k_ hk => (⟨hk, hk.2⟩ : _ ∧ k_ ≠ gb278))) (fun _ hk => hk.2) (.int .i64 t268)) (fun _ hk => hk.2) (.int .i64 t269)) (fun _ hk => hk.2) (.int .i64 t270)) (fun _ hk => hk.2) (.int .i64 t271)) (fun _ hk => hk.2) (.int .i64 t272)) (fun _ hk => hk.2) (.int .i64 t273)) (fun _ hk => hk.2) (.int .i64 t274)) (fun _ hk => hk.2) (.int .i64 t275)) (fun _ hk => ⟨hk.1.1.1, ⟨hk.1.1.2.1, ⟨hk.1.1.2.2, hk.1.2⟩⟩⟩)⟩, ⟨by (with_reducible repeat (first | refine blk_drewN ?_ _ | refine blk_drew ?_ | refine blk_alloc ?_ _)); refine blk_far ?_ NB247_278.out _; (with_reducible repeat (first | refine blk_drewN ?_ _ | refine blk_drew ?_ | refine blk_alloc ?_ _)); refine blk_far ?_ NB247_278.out _; (with_reducible repeat (first | refine blk_drewN ?_ _ | refine blk_drew ?_ | refine blk_alloc ?_ _)); refine blk_far ?_ NB247_278.out _; (with_reducible repeat (first | refine blk_drewN ?_ _ | refine blk_drew ?_ | refine blk_alloc ?_ _)); refine blk_far ?_ NB247_278.out _; (with_reducible repeat (first | refine blk_drewN ?_ _ | refine blk_drew ?_ | refine blk_alloc ?_ _)); refine blk_far ?_ NB247_278.out _; (with_reducible repeat (first | refine blk_drewN ?_ _ | refine blk_drew ?_ | refine blk_alloc ?_ _)); refine blk_far ?_ NB247_278.out _; (with_reducible repeat (first | refine blk_drewN ?_ _ | refine blk_drew ?_ | refine blk_alloc ?_ _)); refine blk_far ?_ NB247_278.out _; (with_reducible repeat (first | refine blk_drewN ?_ _ | refine blk_drew ?_ | refine blk_alloc ?_ _)); refine blk_far ?_ NB247_278.out _; (with_reducible repeat (first | refine blk_drewN ?_ _ | refine blk_drew ?_ | refine blk_alloc ?_ _)); exact BK247.out⟩, ⟨by (with_reducible repeat (first | refine blk_drewN ?_ _ | refine blk_drew ?_ | refine blk_alloc ?_ _)); refine blk_far ?_ NB248_278.out _; (with_reducible repeat (first | refine blk_drewN ?_ _ | refine blk_drew ?_ | refine blk_alloc ?_ _)); refine blk_far ?_ NB248_278.out _; (with_reducible repeat (first | refine blk_drewN ?_ _ | refine blk_drew ?_ | refine blk_alloc ?_ _)); refine blk_far ?_ NB248_278.out _; (with_reducible repeat (first | refine blk_drewN ?_ _ | refine blk_drew ?_ | refine blk_alloc ?_ _)); refine blk_far ?_ NB248_278.out _; (with_reducible repeat (first | refine blk_drewN ?_ _ | refine blk_drew ?_ | refine blk_alloc ?_ _)); refine blk_far ?_ NB248_278.out _; (with_reducible repeat (first | refine blk_drewN ?_ _ | refine blk_drew ?_ | refine blk_alloc ?_ _)); refine blk_far ?_ NB248_278.out _; (with_reducible repeat (first | refine blk_drewN ?_ _ | refine blk_drew ?_ | refine blk_alloc ?_ _)); refine blk_far ?_ NB248_278.out _; (with_reducible repeat (first | refine blk_drewN ?_ _ | refine blk_drew ?_ | refine blk_alloc ?_ _)); refine blk_far ?_ NB248_278.out _; (with_reducible repeat (first | refine blk_drewN ?_ _ | refine blk_drew ?_ | refine blk_alloc ?_ _)); exact BK248.out⟩, ⟨by (with_reducible repeat (first | refine blk_drewN ?_ _ | refine blk_drew ?_ | refine blk_alloc ?_ _)); refine blk_far ?_ NB264_278.out _; (with_reducible repeat (first | refine blk_drewN ?_ _ | refine blk_drew ?_ | refine blk_alloc ?_ _)); refine blk_far ?_ NB264_278.out _; (with_reducible repeat (first | refine blk_drewN ?_ _ | refine blk_drew ?_ | refine blk_alloc ?_ _)); refine blk_far ?_ NB264_278.out _; (with_reducible repeat (first | refine blk_drewN ?_ _ | refine blk_drew ?_ | refine blk_alloc ?_ _)); refine blk_far ?_ NB264_278.out _; (with_reducible repeat (first | refine blk_drewN ?_ _ | refine blk_drew ?_ | refine blk_alloc ?_ _)); refine blk_far ?_ NB264_278.out _; (with_reducible repeat (first | refine blk_drewN ?_ _ | refine blk_drew ?_ | refine blk_alloc ?_ _)); refine blk_far ?_ NB264_278.out _; (with_reducible repeat (first | refine blk_drewN ?_ _ | refine blk_drew ?_ | refine blk_alloc ?_ _)); refine blk_far ?_ NB264_278.out _; (with_reducible repeat (first | refine blk_drewN ?_ _ | refine blk_drew ?_ | refine blk_alloc ?_ _)); refine blk_far ?_ NB264_278.out _; (with_reducible repeat (first | refine blk_drewN ?_ _ | refine blk_drew ?_ | refine blk_alloc ?_ _)); exact BK264.out⟩, ⟨by (with_reducible repeat (first | refine blk_drewN ?_ _ | refine blk_drew ?_ | refine blk_alloc ?_ _)); refine blk_put (cs := #[.int .i64 t268, .int .i64 t269, .int .i64 t270, .int .i64 t271, .int .i64 t272, .int .i64 t273, .int .i64 t274, .int .i64 0]) ?_ 7 _ rfl; (with_reducible repeat (first | refine blk_drewN ?_ _ | refine blk_drew ?_ | refine blk_alloc ?_ _)); refine blk_put (cs := #[.int .i64 t268, .int .i64 t269, .int .i64 t270, .int .i64 t271, .int .i64 t272, .int .i64 t273, .int .i64 0, .int .i64 0]) ?_ 6 _ rfl; (with_reducible repeat (first | refine blk_drewN ?_ _ | refine blk_drew ?_ | refine blk_alloc ?_ _)); refine blk_put (cs := #[.int .i64 t268, .int .i64 t269, .int .i64 t270, .int .i64 t271, .int .i64 t272, .int .i64 0, .int .i64 0, .int .i64 0]) ?_ 5 _ rfl; (with_reducible repeat (first | refine blk_drewN ?_ _ | refine blk_drew ?_ | refine blk_alloc ?_ _)); refine blk_put (cs := #[.int .i64 t268, .int .i64 t269, .int .i64 t270, .int .i64 t271, .int .i64 0, .int .i64 0, .int .i64 0, .int .i64 0]) ?_ 4 _ rfl; (with_reducible repeat (first | refine blk_drewN ?_ _ | refine blk_drew ?_ | refine blk_alloc ?_ _)); refine blk_put (cs := #[.int .i64 t268, .int .i64 t269, .int .i64 t270, .int .i64 0, .int .i64 0, .int .i64 0, .int .i64 0, .int .i64 0]) ?_ 3 _ rfl; (with_reducible repeat (first | refine blk_drewN ?_ _ | refine blk_drew ?_ | refine blk_alloc ?_ _)); refine blk_put (cs := #[.int .i64 t268, .int .i64 t269, .int .i64 0, .int .i64 0, .int .i64 0, .int .i64 0, .int .i64 0, .int .i64 0]) ?_ 2 _ rfl; (with_reducible repeat (first | refine blk_drewN ?_ _ | refine blk_drew ?_ | refine blk_alloc ?_ _)); refine blk_put (cs := #[.int .i64 t268, .int .i64 0, .int .i64 0, .int .i64 0, .int .i64 0, .int .i64 0, .int .i64 0, .int .i64 0]) ?_ 1 _ rfl; (with_reducible repeat (first | refine blk_drewN ?_ _ | refine blk_drew ?_ | refine blk_alloc ?_ _)); refine blk_put (cs := #[.int .i64 0, .int .i64 0, .int .i64 0, .int .i64 0, .int .i64 0, .int .i64 0, .int .i64 0, .int .i64 0]) ?_ 0 _ rfl; (with_reducible repeat (first | refine blk_drewN ?_ _ | refine blk_drew ?_ | refine blk_alloc ?_ _)); exact BK278.out⟩, ⟨by repeat (first | (with_reducible first | exact HB.out | apply below_alloc | apply pw_below_drewN | apply below_drew1 | refine below_set ?_ GE247.out | refine below_set ?_ GE248.out | refine below_set ?_ GE264.out | refine below_set ?_ GE278.out) | exact HB.out)⟩⟩
            · rw [if_neg c57] at H
              exact absurd H (by simp)
          · rw [if_neg c56] at H
            exact absurd H (by simp)
        case rest =>
          clear HC39
          try clear c1
          try clear c2
          try clear p2
          try clear c3
          try clear c4
          try clear c5
          try clear c6
          try clear c6b0
          try clear c6b1
          try clear p6
          try clear c8
          try clear c11
          try clear c13
          try clear c22
          try clear c25
          try clear c26
          try clear c26b0
          try clear c27
          try clear c27b0
          try clear c27b1
          try clear c28
          try clear c30
          try clear c30b0
          try clear c30b1
          try clear c31
          try clear c34
          try clear c40
          try clear c44
          try clear c45
          try clear c52
          try clear c53
          try clear c54
          try clear c56
          try clear c56b0
          try clear c56b1
          try clear c57
          try clear c57b0
          try clear c57b1
          try clear c58
          try clear hcz11_0
          try clear hcz11_1
          try clear hcz11_2
          try clear hcz11_3
          try clear hcz14_0
          try clear hcz14_1
          try clear hcz14_2
          try clear hcz14_3
          try clear hcz15_0
          try clear hcz15_1
          try clear hcz15_2
          try clear hcz15_3
          try clear hcz20_0
          try clear hcz20_1
          try clear hcz20_2
          try clear hcz20_3
          try clear hcz23_0
          try clear hcz23_1
          try clear hcz23_2
          try clear hcz23_3
          try clear hcz24_0
          try clear hcz24_1
          try clear hcz24_2
          try clear hcz24_3
          try clear hcz29_0
          try clear hcz29_1
          try clear hcz29_2
          try clear hcz29_3
          try clear hcz32_0
          try clear hcz32_1
          try clear hcz32_2
          try clear hcz32_3
          try clear hcz33_0
          try clear hcz33_1
          try clear hcz33_2
          try clear hcz33_3
          try clear hcz35_0
          try clear hcz35_1
          try clear hcz35_2
          try clear hcz35_3
          try clear hcz36_0
          try clear hcz36_1
          try clear hcz36_2
          try clear hcz36_3
          try clear hcz41_0
          try clear hcz41_1
          try clear hcz41_2
          try clear hcz41_3
          try clear hcz46_0
          try clear hcz46_1
          try clear hcz46_2
          try clear hcz46_3
          try clear hcz46_4
          try clear hcz46_5
          try clear hcz46_6
          try clear hcz46_7
          try clear hcz48_0
          try clear hcz48_1
          try clear hcz48_2
          try clear hcz48_3
          try clear hcz55_0
          try clear hcz55_1
          try clear hcz55_2
          try clear hcz55_3
          try clear hcz55_4
          try clear hcz55_5
          try clear hcz55_6
          try clear hcz55_7
          try clear hfz11_0
          try clear hfz11_1
          try clear hfz11_2
          try clear hfz11_3
          try clear hfz14_0
          try clear hfz14_1
          try clear hfz14_2
          try clear hfz14_3
          try clear hfz15_0
          try clear hfz15_1
          try clear hfz15_2
          try clear hfz15_3
          try clear hfz20_0
          try clear hfz20_1
          try clear hfz20_2
          try clear hfz20_3
          try clear hfz23_0
          try clear hfz23_1
          try clear hfz23_2
          try clear hfz23_3
          try clear hfz24_0
          try clear hfz24_1
          try clear hfz24_2
          try clear hfz24_3
          try clear hfz29_0
          try clear hfz29_1
          try clear hfz29_2
          try clear hfz29_3
          try clear hfz32_0
          try clear hfz32_1
          try clear hfz32_2
          try clear hfz32_3
          try clear hfz33_0
          try clear hfz33_1
          try clear hfz33_2
          try clear hfz33_3
          try clear hfz35_0
          try clear hfz35_1
          try clear hfz35_2
          try clear hfz35_3
          try clear hfz36_0
          try clear hfz36_1
          try clear hfz36_2
          try clear hfz36_3
          try clear hfz41_0
          try clear hfz41_1
          try clear hfz41_2
          try clear hfz41_3
          try clear hfz46_0
          try clear hfz46_1
          try clear hfz46_2
          try clear hfz46_3
          try clear hfz46_4
          try clear hfz46_5
          try clear hfz46_6
          try clear hfz46_7
          try clear hfz48_0
          try clear hfz48_1
          try clear hfz48_2
          try clear hfz48_3
          try clear hfz55_0
          try clear hfz55_1
          try clear hfz55_2
          try clear hfz55_3
          try clear hfz55_4
          try clear hfz55_5
          try clear hfz55_6
          try clear hfz55_7
          try clear p2
          try clear p6
          obtain ⟨kq, x97_38, rfl, HA, HJ38, HO_18, BK247, BK248, BK264, BK278, HB⟩ := hcut
          cases kq with
          | zero => exact absurd HA.out (by simp [handshakerlaw21_SwapBoth.j2])
          | succ kj38 =>
            have H := HA.out
            clear HA
            simp only [handshakerlaw21_SwapBoth.j2] at H
            by_cases c59 : x97_38 = true
            · subst c59
              have H1 : (none) = some r := by rw [if_pos rfl] at H; exact H
              clear H
              have H := H1
              clear H1
              exact absurd H (by simp)
            · replace c59 := Bool.eq_false_iff.mpr c59
              subst c59
              have H1 : (if a4 = true then (if (t265.length : Int) = 2 then ((swap_Meet.f (wrap64 (1 + (wrap64 (Int.tmod a0 8)))) x248001_17 (wrap64 (a2)) 0 (wrap64 (1 + (wrap64 (Int.tmod a1 8)))) 0 (wrap64 (a3)) 0).bind fun t279 => (if t279 = true then (none) else ((handshakerlaw21_awake.f kj38).bind fun t280 => (some t280)))) else (none)) else ((swap_Got.f t268 t269 t270 t271 t272 t273 t274 t275 (wrap64 (1 + (wrap64 (Int.tmod a0 8))))).bind fun bt281 => ((swap_Got.f t268 t269 t270 t271 t272 t273 t274 t275 (wrap64 (1 + (wrap64 (Int.tmod a1 8))))).bind fun bt283 => (if (t265.length : Int) = 0 then (if bt281.2 = true then (if bt283.2 = true then (if bt281.1 = (wrap64 (a3)) then (if bt283.1 = (wrap64 (a2)) then ((handshakerlaw21_awake.f kj38).bind fun t285 => (some t285)) else (none)) else (none)) else (none)) else (none)) else (none))))) = some r := by rw [if_neg (show ¬ (false = true) by decide)] at H; exact H
              clear H
              have H := H1
              clear H1
              by_cases c60 : a4 = true
              · subst c60
                have H1 : (if (t265.length : Int) = 2 then ((swap_Meet.f (wrap64 (1 + (wrap64 (Int.tmod a0 8)))) x248001_17 (wrap64 (a2)) 0 (wrap64 (1 + (wrap64 (Int.tmod a1 8)))) 0 (wrap64 (a3)) 0).bind fun t279 => (if t279 = true then (none) else ((handshakerlaw21_awake.f kj38).bind fun t280 => (some t280)))) else (none)) = some r := by rw [if_pos rfl] at H; exact H
                clear H
                have H := H1
                clear H1
                by_cases c61 : (t265.length : Int) = 2
                · rw [if_pos c61] at H
                  have c61b0 : ((t265.length : Int) == 2) = true := beq_iff_eq.mpr c61
                  have c61b1 : ((t265.length : Int) != 2) = false := bne_eq_false_iff_eq.mpr c61
                  clear c61
                  replace H := Option.bind_eq_some_iff.mp H
                  obtain ⟨t279, A620, H⟩ := H
                  replace H : (if t279 = true then (none) else ((handshakerlaw21_awake.f kj38).bind fun t280 => (some t280))) = some r := H
                  have A62 := Aside0.mk A620
                  clear A620
                  by_cases c63 : t279 = true
                  · subst c63
                    have H1 : (none) = some r := by rw [if_pos rfl] at H; exact H
                    clear H
                    have H := H1
                    clear H1
                    exact absurd H (by simp)
                  · replace c63 := Bool.eq_false_iff.mpr c63
                    subst c63
                    have H1 : ((handshakerlaw21_awake.f kj38).bind fun t280 => (some t280)) = some r := by rw [if_neg (show ¬ (false = true) by decide)] at H; exact H
                    clear H
                    have H := H1
                    clear H1
                    replace H := Option.bind_eq_some_iff.mp H
                    obtain ⟨t280, A640, H⟩ := H
                    replace H : (some t280) = some r := H
                    have A64 := Aside0.mk A640
                    clear A640
                    obtain rfl := Option.some.inj H
                    obtain ⟨Ao65, co65, eo65⟩ := Kd.V_slice HO_18.out
                    subst eo65
                    have hnb66 := NB247_248.out
                    have hnc66 := NB248_247.out
                    have hnb67 := NB247_264.out
                    have hnc67 := NB264_247.out
                    have hnb68 := NB247_278.out
                    have hnc68 := NB278_247.out
                    have hcz69_0 : wc.cell? ⟨gb247, 0, none⟩ = some (.int .i64 (wrap64 (1 + (wrap64 (Int.tmod a0 8))))) := (blk_cell BK247.out 0).trans rfl
                    have hcz69_1 : wc.cell? ⟨gb247, 1, none⟩ = some (.int .i64 x248001_17) := (blk_cell BK247.out 1).trans rfl
                    have hcz69_2 : wc.cell? ⟨gb247, 2, none⟩ = some (.int .i64 (wrap64 (a2))) := (blk_cell BK247.out 2).trans rfl
                    have hcz69_3 : wc.cell? ⟨gb247, 3, none⟩ = some (.int .i64 0) := (blk_cell BK247.out 3).trans rfl
                    have hfz69_0 := blk_frozen BK247.out 0
                    have hfz69_1 := blk_frozen BK247.out 1
                    have hfz69_2 := blk_frozen BK247.out 2
                    have hfz69_3 := blk_frozen BK247.out 3
                    have hnb70 := NB248_264.out
                    have hnc70 := NB264_248.out
                    have hnb71 := NB248_278.out
                    have hnc71 := NB278_248.out
                    have hcz72_0 : wc.cell? ⟨gb248, 0, none⟩ = some (.int .i64 (wrap64 (1 + (wrap64 (Int.tmod a1 8))))) := (blk_cell BK248.out 0).trans rfl
                    have hcz72_1 : wc.cell? ⟨gb248, 1, none⟩ = some (.int .i64 0) := (blk_cell BK248.out 1).trans rfl
                    have hcz72_2 : wc.cell? ⟨gb248, 2, none⟩ = some (.int .i64 (wrap64 (a3))) := (blk_cell BK248.out 2).trans rfl
                    have hcz72_3 : wc.cell? ⟨gb248, 3, none⟩ = some (.int .i64 0) := (blk_cell BK248.out 3).trans rfl
                    have hfz72_0 := blk_frozen BK248.out 0
                    have hfz72_1 := blk_frozen BK248.out 1
                    have hfz72_2 := blk_frozen BK248.out 2
                    have hfz72_3 := blk_frozen BK248.out 3
                    go_wp2_with (first | (go_at_call 13; (with_reducible refine (swap_Meet.calls (wrap64 (1 + (wrap64 (Int.tmod a0 8)))) x248001_17 (wrap64 (a2)) 0 (wrap64 (1 + (wrap64 (Int.tmod a1 8)))) 0 (wrap64 (a3)) 0 false _ A62.out).mono ?_); rintro e w73 ⟨rfl, hb⟩; have n0_ := Aside0.mk (Kd.V_below (by (with_reducible repeat (first | apply Kd.V_alloc | apply Kd.V_drewN | apply Kd.V_drew)); exact HO_18.out) hb); have n1_ := Aside0.mk (blk_below (g := gb247) (o := .cells #[.int .i64 (wrap64 (1 + (wrap64 (Int.tmod a0 8)))), .int .i64 x248001_17, .int .i64 (wrap64 (a2)), .int .i64 0] 26 (0, 0)) (by (with_reducible repeat (first | refine blk_drewN ?_ _ | refine blk_drew ?_ | refine blk_alloc ?_ _)); exact BK247.out) hb); have n2_ := Aside0.mk (blk_below (g := gb248) (o := .cells #[.int .i64 (wrap64 (1 + (wrap64 (Int.tmod a1 8)))), .int .i64 0, .int .i64 (wrap64 (a3)), .int .i64 0] 26 (0, 0)) (by (with_reducible repeat (first | refine blk_drewN ?_ _ | refine blk_drew ?_ | refine blk_alloc ?_ _)); exact BK248.out) hb); have n3_ := Aside0.mk (blk_below (g := gb264) (o := .cells #[.int .i64 t254, .int .i64 t255, .int .i64 t256, .int .i64 t257, .int .i64 t258, .int .i64 t259, .int .i64 t260, .int .i64 t261] 35 (0, 0)) (by (with_reducible repeat (first | refine blk_drewN ?_ _ | refine blk_drew ?_ | refine blk_alloc ?_ _)); exact BK264.out) hb); have n4_ := Aside0.mk (blk_below (g := gb278) (o := .cells #[.int .i64 t268, .int .i64 t269, .int .i64 t270, .int .i64 t271, .int .i64 t272, .int .i64 t273, .int .i64 t274, .int .i64 t275] 35 (0, 0)) (by (with_reducible repeat (first | refine blk_drewN ?_ _ | refine blk_drew ?_ | refine blk_alloc ?_ _)); exact BK278.out) hb); have n5_ := Aside0.mk (below_step (by repeat (first | (with_reducible first | exact HB.out | apply below_alloc | apply pw_below_drewN | apply below_drew1 | refine below_set ?_ GE247.out | refine below_set ?_ GE248.out | refine below_set ?_ GE264.out | refine below_set ?_ GE278.out) | exact HB.out)) hb); clear HO_18; clear BK247; clear BK248; clear BK264; clear BK278; clear HB; have HO_18 := n0_; have BK247 := n1_; have BK248 := n2_; have BK264 := n3_; have BK278 := n4_; have HB := n5_; clear n0_ n1_ n2_ n3_ n4_ n5_; (try clear hb); (try clear hb2); (try clear hk); (try clear hi)) | (go_at_call 8; (with_reducible refine (handshakerlaw21_awake.calls kj38  t280 _ A64.out).mono ?_); rintro e w74 ⟨rfl, hb⟩; have n0_ := Aside0.mk (Kd.V_below (by (with_reducible repeat (first | apply Kd.V_alloc | apply Kd.V_drewN | apply Kd.V_drew)); exact HO_18.out) hb); have n1_ := Aside0.mk (blk_below (g := gb247) (o := .cells #[.int .i64 (wrap64 (1 + (wrap64 (Int.tmod a0 8)))), .int .i64 x248001_17, .int .i64 (wrap64 (a2)), .int .i64 0] 26 (0, 0)) (by (with_reducible repeat (first | refine blk_drewN ?_ _ | refine blk_drew ?_ | refine blk_alloc ?_ _)); exact BK247.out) hb); have n2_ := Aside0.mk (blk_below (g := gb248) (o := .cells #[.int .i64 (wrap64 (1 + (wrap64 (Int.tmod a1 8)))), .int .i64 0, .int .i64 (wrap64 (a3)), .int .i64 0] 26 (0, 0)) (by (with_reducible repeat (first | refine blk_drewN ?_ _ | refine blk_drew ?_ | refine blk_alloc ?_ _)); exact BK248.out) hb); have n3_ := Aside0.mk (blk_below (g := gb264) (o := .cells #[.int .i64 t254, .int .i64 t255, .int .i64 t256, .int .i64 t257, .int .i64 t258, .int .i64 t259, .int .i64 t260, .int .i64 t261] 35 (0, 0)) (by (with_reducible repeat (first | refine blk_drewN ?_ _ | refine blk_drew ?_ | refine blk_alloc ?_ _)); exact BK264.out) hb); have n4_ := Aside0.mk (blk_below (g := gb278) (o := .cells #[.int .i64 t268, .int .i64 t269, .int .i64 t270, .int .i64 t271, .int .i64 t272, .int .i64 t273, .int .i64 t274, .int .i64 t275] 35 (0, 0)) (by (with_reducible repeat (first | refine blk_drewN ?_ _ | refine blk_drew ?_ | refine blk_alloc ?_ _)); exact BK278.out) hb); have n5_ := Aside0.mk (below_step (by repeat (first | (with_reducible first | exact HB.out | apply below_alloc | apply pw_below_drewN | apply below_drew1 | refine below_set ?_ GE247.out | refine below_set ?_ GE248.out | refine below_set ?_ GE264.out | refine below_set ?_ GE278.out) | exact HB.out)) hb); clear HO_18; clear BK247; clear BK248; clear BK264; clear BK278; clear HB; have HO_18 := n0_; have BK247 := n1_; have BK248 := n2_; have BK264 := n3_; have BK278 := n4_; have HB := n5_; clear n0_ n1_ n2_ n3_ n4_ n5_; (try clear hb); (try clear hb2); (try clear hk); (try clear hi)))
                    go_ret
                    exact ⟨by first | rfl | (simp [errW_none, errW_some] <;> rfl) | (simp [*, errW_none, errW_some] <;> rfl), by repeat (first | (with_reducible first | exact HB.out | apply below_alloc | apply pw_below_drewN | apply below_drew1 | refine below_set ?_ GE247.out | refine below_set ?_ GE248.out | refine below_set ?_ GE264.out | refine below_set ?_ GE278.out) | exact HB.out)⟩
                · rw [if_neg c61] at H
                  exact absurd H (by simp)
              · replace c60 := Bool.eq_false_iff.mpr c60
                subst c60
                have H1 : ((swap_Got.f t268 t269 t270 t271 t272 t273 t274 t275 (wrap64 (1 + (wrap64 (Int.tmod a0 8))))).bind fun bt281 => ((swap_Got.f t268 t269 t270 t271 t272 t273 t274 t275 (wrap64 (1 + (wrap64 (Int.tmod a1 8))))).bind fun bt283 => (if (t265.length : Int) = 0 then (if bt281.2 = true then (if bt283.2 = true then (if bt281.1 = (wrap64 (a3)) then (if bt283.1 = (wrap64 (a2)) then ((handshakerlaw21_awake.f kj38).bind fun t285 => (some t285)) else (none)) else (none)) else (none)) else (none)) else (none)))) = some r := by rw [if_neg (show ¬ (false = true) by decide)] at H; exact H
                clear H
                have H := H1
                clear H1
                replace H := Option.bind_eq_some_iff.mp H
                obtain ⟨⟨t281, t282⟩, A750, H⟩ := H
                replace H : ((swap_Got.f t268 t269 t270 t271 t272 t273 t274 t275 (wrap64 (1 + (wrap64 (Int.tmod a1 8))))).bind fun bt283 => (if (t265.length : Int) = 0 then (if t282 = true then (if bt283.2 = true then (if t281 = (wrap64 (a3)) then (if bt283.1 = (wrap64 (a2)) then ((handshakerlaw21_awake.f kj38).bind fun t285 => (some t285)) else (none)) else (none)) else (none)) else (none)) else (none))) = some r := H
                have A75 := Aside0.mk A750
                clear A750
                replace H := Option.bind_eq_some_iff.mp H
                obtain ⟨⟨t283, t284⟩, A760, H⟩ := H
                replace H : (if (t265.length : Int) = 0 then (if t282 = true then (if t284 = true then (if t281 = (wrap64 (a3)) then (if t283 = (wrap64 (a2)) then ((handshakerlaw21_awake.f kj38).bind fun t285 => (some t285)) else (none)) else (none)) else (none)) else (none)) else (none)) = some r := H
                have A76 := Aside0.mk A760
                clear A760
                by_cases c77 : (t265.length : Int) = 0
                · rw [if_pos c77] at H
                  have c77b0 : ((t265.length : Int) == 0) = true := beq_iff_eq.mpr c77
                  have c77b1 : ((t265.length : Int) != 0) = false := bne_eq_false_iff_eq.mpr c77
                  clear c77
                  by_cases c78 : t282 = true
                  · subst c78
                    have H1 : (if t284 = true then (if t281 = (wrap64 (a3)) then (if t283 = (wrap64 (a2)) then ((handshakerlaw21_awake.f kj38).bind fun t285 => (some t285)) else (none)) else (none)) else (none)) = some r := by rw [if_pos rfl] at H; exact H
                    clear H
                    have H := H1
                    clear H1
                    by_cases c79 : t284 = true
                    · subst c79
                      have H1 : (if t281 = (wrap64 (a3)) then (if t283 = (wrap64 (a2)) then ((handshakerlaw21_awake.f kj38).bind fun t285 => (some t285)) else (none)) else (none)) = some r := by rw [if_pos rfl] at H; exact H
                      clear H
                      have H := H1
                      clear H1
                      by_cases c80 : t281 = (wrap64 (a3))
                      · rw [if_pos c80] at H
                        have c80b0 : (t281 == (wrap64 (a3))) = true := beq_iff_eq.mpr c80
                        have c80b1 : (t281 != (wrap64 (a3))) = false := bne_eq_false_iff_eq.mpr c80
                        clear c80
                        by_cases c81 : t283 = (wrap64 (a2))
                        · rw [if_pos c81] at H
                          have c81b0 : (t283 == (wrap64 (a2))) = true := beq_iff_eq.mpr c81
                          have c81b1 : (t283 != (wrap64 (a2))) = false := bne_eq_false_iff_eq.mpr c81
                          clear c81
                          replace H := Option.bind_eq_some_iff.mp H
                          obtain ⟨t285, A820, H⟩ := H
                          replace H : (some t285) = some r := H
                          have A82 := Aside0.mk A820
                          clear A820
                          obtain rfl := Option.some.inj H
                          have hnb83 := NB278_247.out
                          have hnc83 := NB247_278.out
                          have hnb84 := NB278_248.out
                          have hnc84 := NB248_278.out
                          have hnb85 := NB278_264.out
                          have hnc85 := NB264_278.out
                          have hcz86_0 : wc.cell? ⟨gb278, 0, none⟩ = some (.int .i64 t268) := (blk_cell BK278.out 0).trans rfl
                          have hcz86_1 : wc.cell? ⟨gb278, 1, none⟩ = some (.int .i64 t269) := (blk_cell BK278.out 1).trans rfl
                          have hcz86_2 : wc.cell? ⟨gb278, 2, none⟩ = some (.int .i64 t270) := (blk_cell BK278.out 2).trans rfl
                          have hcz86_3 : wc.cell? ⟨gb278, 3, none⟩ = some (.int .i64 t271) := (blk_cell BK278.out 3).trans rfl
                          have hcz86_4 : wc.cell? ⟨gb278, 4, none⟩ = some (.int .i64 t272) := (blk_cell BK278.out 4).trans rfl
                          have hcz86_5 : wc.cell? ⟨gb278, 5, none⟩ = some (.int .i64 t273) := (blk_cell BK278.out 5).trans rfl
                          have hcz86_6 : wc.cell? ⟨gb278, 6, none⟩ = some (.int .i64 t274) := (blk_cell BK278.out 6).trans rfl
                          have hcz86_7 : wc.cell? ⟨gb278, 7, none⟩ = some (.int .i64 t275) := (blk_cell BK278.out 7).trans rfl
                          have hfz86_0 := blk_frozen BK278.out 0
                          have hfz86_1 := blk_frozen BK278.out 1
                          have hfz86_2 := blk_frozen BK278.out 2
                          have hfz86_3 := blk_frozen BK278.out 3
                          have hfz86_4 := blk_frozen BK278.out 4
                          have hfz86_5 := blk_frozen BK278.out 5
                          have hfz86_6 := blk_frozen BK278.out 6
                          have hfz86_7 := blk_frozen BK278.out 7
                          have hnb87 := NB247_248.out
                          have hnc87 := NB248_247.out
                          have hnb88 := NB247_264.out
                          have hnc88 := NB264_247.out
                          have hcz89_0 : wc.cell? ⟨gb247, 0, none⟩ = some (.int .i64 (wrap64 (1 + (wrap64 (Int.tmod a0 8))))) := (blk_cell BK247.out 0).trans rfl
                          have hcz89_1 : wc.cell? ⟨gb247, 1, none⟩ = some (.int .i64 x248001_17) := (blk_cell BK247.out 1).trans rfl
                          have hcz89_2 : wc.cell? ⟨gb247, 2, none⟩ = some (.int .i64 (wrap64 (a2))) := (blk_cell BK247.out 2).trans rfl
                          have hcz89_3 : wc.cell? ⟨gb247, 3, none⟩ = some (.int .i64 0) := (blk_cell BK247.out 3).trans rfl
                          have hfz89_0 := blk_frozen BK247.out 0
                          have hfz89_1 := blk_frozen BK247.out 1
                          have hfz89_2 := blk_frozen BK247.out 2
                          have hfz89_3 := blk_frozen BK247.out 3
                          go_wp2_with (first | ((with_reducible refine gate_callee (f := 12) rfl ?_); refine goesL_ (some 115) rfl rfl Try.func12 (by kernel_rfl) rfl #[.agg #[.int .i64 t268, .int .i64 t269, .int .i64 t270, .int .i64 t271, .int .i64 t272, .int .i64 t273, .int .i64 t274, .int .i64 t275], .int .i64 (wrap64 (1 + (wrap64 (Int.tmod a0 8))))] rfl (by (try simp only [List.map_toArray, List.map_cons, List.map_nil]); first | done | rfl | (simp only [List.length_drop, List.length_take]; rfl)) ?_; (with_reducible refine (swap_Got.calls t268 t269 t270 t271 t272 t273 t274 t275 (wrap64 (1 + (wrap64 (Int.tmod a0 8)))) t281 true _ A75.out).mono ?_); rintro e w90 ⟨rfl, hb⟩; refine ⟨_, rfl, ?_⟩; have n0_ := Aside0.mk (Kd.V_below (by (with_reducible repeat (first | apply Kd.V_alloc | apply Kd.V_drewN | apply Kd.V_drew)); exact HO_18.out) hb); have n1_ := Aside0.mk (blk_below (g := gb247) (o := .cells #[.int .i64 (wrap64 (1 + (wrap64 (Int.tmod a0 8)))), .int .i64 x248001_17, .int .i64 (wrap64 (a2)), .int .i64 0] 26 (0, 0)) (by (with_reducible repeat (first | refine blk_drewN ?_ _ | refine blk_drew ?_ | refine blk_alloc ?_ _)); exact BK247.out) hb); have n2_ := Aside0.mk (blk_below (g := gb248) (o := .cells #[.int .i64 (wrap64 (1 + (wrap64 (Int.tmod a1 8)))), .int .i64 0, .int .i64 (wrap64 (a3)), .int .i64 0] 26 (0, 0)) (by (with_reducible repeat (first | refine blk_drewN ?_ _ | refine blk_drew ?_ | refine blk_alloc ?_ _)); exact BK248.out) hb); have n3_ := Aside0.mk (blk_below (g := gb264) (o := .cells #[.int .i64 t254, .int .i64 t255, .int .i64 t256, .int .i64 t257, .int .i64 t258, .int .i64 t259, .int .i64 t260, .int .i64 t261] 35 (0, 0)) (by (with_reducible repeat (first | refine blk_drewN ?_ _ | refine blk_drew ?_ | refine blk_alloc ?_ _)); exact BK264.out) hb); have n4_ := Aside0.mk (blk_below (g := gb278) (o := .cells #[.int .i64 t268, .int .i64 t269, .int .i64 t270, .int .i64 t271, .int .i64 t272, .int .i64 t273, .int .i64 t274, .int .i64 t275] 35 (0, 0)) (by (with_reducible repeat (first | refine blk_drewN ?_ _ | refine blk_drew ?_ | refine blk_alloc ?_ _)); exact BK278.out) hb); have n5_ := Aside0.mk (below_step (by repeat (first | (with_reducible first | exact HB.out | apply below_alloc | apply pw_below_drewN | apply below_drew1 | refine below_set ?_ GE247.out | refine below_set ?_ GE248.out | refine below_set ?_ GE264.out | refine below_set ?_ GE278.out) | exact HB.out)) hb); clear HO_18; clear BK247; clear BK248; clear BK264; clear BK278; clear HB; have HO_18 := n0_; have BK247 := n1_; have BK248 := n2_; have BK264 := n3_; have BK278 := n4_; have HB := n5_; clear n0_ n1_ n2_ n3_ n4_ n5_; (try clear hb); (try clear hb2); (try clear hk); (try clear hi); have hcz91_0 : w90.cell? ⟨gb278, 0, none⟩ = some (.int .i64 t268) := (blk_cell BK278.out 0).trans rfl; have hcz91_1 : w90.cell? ⟨gb278, 1, none⟩ = some (.int .i64 t269) := (blk_cell BK278.out 1).trans rfl; have hcz91_2 : w90.cell? ⟨gb278, 2, none⟩ = some (.int .i64 t270) := (blk_cell BK278.out 2).trans rfl; have hcz91_3 : w90.cell? ⟨gb278, 3, none⟩ = some (.int .i64 t271) := (blk_cell BK278.out 3).trans rfl; have hcz91_4 : w90.cell? ⟨gb278, 4, none⟩ = some (.int .i64 t272) := (blk_cell BK278.out 4).trans rfl; have hcz91_5 : w90.cell? ⟨gb278, 5, none⟩ = some (.int .i64 t273) := (blk_cell BK278.out 5).trans rfl; have hcz91_6 : w90.cell? ⟨gb278, 6, none⟩ = some (.int .i64 t274) := (blk_cell BK278.out 6).trans rfl; have hcz91_7 : w90.cell? ⟨gb278, 7, none⟩ = some (.int .i64 t275) := (blk_cell BK278.out 7).trans rfl; have hfz91_0 := blk_frozen BK278.out 0; have hfz91_1 := blk_frozen BK278.out 1; have hfz91_2 := blk_frozen BK278.out 2; have hfz91_3 := blk_frozen BK278.out 3; have hfz91_4 := blk_frozen BK278.out 4; have hfz91_5 := blk_frozen BK278.out 5; have hfz91_6 := blk_frozen BK278.out 6; have hfz91_7 := blk_frozen BK278.out 7; have hnb92 := NB248_264.out; have hnc92 := NB264_248.out; have hcz93_0 : w90.cell? ⟨gb248, 0, none⟩ = some (.int .i64 (wrap64 (1 + (wrap64 (Int.tmod a1 8))))) := (blk_cell BK248.out 0).trans rfl; have hcz93_1 : w90.cell? ⟨gb248, 1, none⟩ = some (.int .i64 0) := (blk_cell BK248.out 1).trans rfl; have hcz93_2 : w90.cell? ⟨gb248, 2, none⟩ = some (.int .i64 (wrap64 (a3))) := (blk_cell BK248.out 2).trans rfl; have hcz93_3 : w90.cell? ⟨gb248, 3, none⟩ = some (.int .i64 0) := (blk_cell BK248.out 3).trans rfl; have hfz93_0 := blk_frozen BK248.out 0; have hfz93_1 := blk_frozen BK248.out 1; have hfz93_2 := blk_frozen BK248.out 2; have hfz93_3 := blk_frozen BK248.out 3) | ((with_reducible refine gate_callee (f := 12) rfl ?_); refine goesL_ (some 122) rfl rfl Try.func12 (by kernel_rfl) rfl #[.agg #[.int .i64 t268, .int .i64 t269, .int .i64 t270, .int .i64 t271, .int .i64 t272, .int .i64 t273, .int .i64 t274, .int .i64 t275], .int .i64 (wrap64 (1 + (wrap64 (Int.tmod a1 8))))] rfl (by (try simp only [List.map_toArray, List.map_cons, List.map_nil]); first | done | rfl | (simp only [List.length_drop, List.length_take]; rfl)) ?_; (with_reducible refine (swap_Got.calls t268 t269 t270 t271 t272 t273 t274 t275 (wrap64 (1 + (wrap64 (Int.tmod a1 8)))) t283 true _ A76.out).mono ?_); rintro e w94 ⟨rfl, hb⟩; refine ⟨_, rfl, ?_⟩; have n0_ := Aside0.mk (Kd.V_below (by (with_reducible repeat (first | apply Kd.V_alloc | apply Kd.V_drewN | apply Kd.V_drew)); exact HO_18.out) hb); have n1_ := Aside0.mk (blk_below (g := gb247) (o := .cells #[.int .i64 (wrap64 (1 + (wrap64 (Int.tmod a0 8)))), .int .i64 x248001_17, .int .i64 (wrap64 (a2)), .int .i64 0] 26 (0, 0)) (by (with_reducible repeat (first | refine blk_drewN ?_ _ | refine blk_drew ?_ | refine blk_alloc ?_ _)); exact BK247.out) hb); have n2_ := Aside0.mk (blk_below (g := gb248) (o := .cells #[.int .i64 (wrap64 (1 + (wrap64 (Int.tmod a1 8)))), .int .i64 0, .int .i64 (wrap64 (a3)), .int .i64 0] 26 (0, 0)) (by (with_reducible repeat (first | refine blk_drewN ?_ _ | refine blk_drew ?_ | refine blk_alloc ?_ _)); exact BK248.out) hb); have n3_ := Aside0.mk (blk_below (g := gb264) (o := .cells #[.int .i64 t254, .int .i64 t255, .int .i64 t256, .int .i64 t257, .int .i64 t258, .int .i64 t259, .int .i64 t260, .int .i64 t261] 35 (0, 0)) (by (with_reducible repeat (first | refine blk_drewN ?_ _ | refine blk_drew ?_ | refine blk_alloc ?_ _)); exact BK264.out) hb); have n4_ := Aside0.mk (blk_below (g := gb278) (o := .cells #[.int .i64 t268, .int .i64 t269, .int .i64 t270, .int .i64 t271, .int .i64 t272, .int .i64 t273, .int .i64 t274, .int .i64 t275] 35 (0, 0)) (by (with_reducible repeat (first | refine blk_drewN ?_ _ | refine blk_drew ?_ | refine blk_alloc ?_ _)); exact BK278.out) hb); have n5_ := Aside0.mk (below_step (by repeat (first | (with_reducible first | exact HB.out | apply below_alloc | apply pw_below_drewN | apply below_drew1 | refine below_set ?_ GE247.out | refine below_set ?_ GE248.out | refine below_set ?_ GE264.out | refine below_set ?_ GE278.out) | exact HB.out)) hb); clear HO_18; clear BK247; clear BK248; clear BK264; clear BK278; clear HB; have HO_18 := n0_; have BK247 := n1_; have BK248 := n2_; have BK264 := n3_; have BK278 := n4_; have HB := n5_; clear n0_ n1_ n2_ n3_ n4_ n5_; (try clear hb); (try clear hb2); (try clear hk); (try clear hi); obtain ⟨Ao95, co95, eo95⟩ := Kd.V_slice HO_18.out; subst eo95) | (go_at_call 8; (with_reducible refine (handshakerlaw21_awake.calls kj38  t285 _ A82.out).mono ?_); rintro e w96 ⟨rfl, hb⟩; have n0_ := Aside0.mk (Kd.V_below (by (with_reducible repeat (first | apply Kd.V_alloc | apply Kd.V_drewN | apply Kd.V_drew)); exact HO_18.out) hb); have n1_ := Aside0.mk (blk_below (g := gb247) (o := .cells #[.int .i64 (wrap64 (1 + (wrap64 (Int.tmod a0 8)))), .int .i64 x248001_17, .int .i64 (wrap64 (a2)), .int .i64 0] 26 (0, 0)) (by (with_reducible repeat (first | refine blk_drewN ?_ _ | refine blk_drew ?_ | refine blk_alloc ?_ _)); exact BK247.out) hb); have n2_ := Aside0.mk (blk_below (g := gb248) (o := .cells #[.int .i64 (wrap64 (1 + (wrap64 (Int.tmod a1 8)))), .int .i64 0, .int .i64 (wrap64 (a3)), .int .i64 0] 26 (0, 0)) (by (with_reducible repeat (first | refine blk_drewN ?_ _ | refine blk_drew ?_ | refine blk_alloc ?_ _)); exact BK248.out) hb); have n3_ := Aside0.mk (blk_below (g := gb264) (o := .cells #[.int .i64 t254, .int .i64 t255, .int .i64 t256, .int .i64 t257, .int .i64 t258, .int .i64 t259, .int .i64 t260, .int .i64 t261] 35 (0, 0)) (by (with_reducible repeat (first | refine blk_drewN ?_ _ | refine blk_drew ?_ | refine blk_alloc ?_ _)); exact BK264.out) hb); have n4_ := Aside0.mk (blk_below (g := gb278) (o := .cells #[.int .i64 t268, .int .i64 t269, .int .i64 t270, .int .i64 t271, .int .i64 t272, .int .i64 t273, .int .i64 t274, .int .i64 t275] 35 (0, 0)) (by (with_reducible repeat (first | refine blk_drewN ?_ _ | refine blk_drew ?_ | refine blk_alloc ?_ _)); exact BK278.out) hb); have n5_ := Aside0.mk (below_step (by repeat (first | (with_reducible first | exact HB.out | apply below_alloc | apply pw_below_drewN | apply below_drew1 | refine below_set ?_ GE247.out | refine below_set ?_ GE248.out | refine below_set ?_ GE264.out | refine below_set ?_ GE278.out) | exact HB.out)) hb); clear HO_18; clear BK247; clear BK248; clear BK264; clear BK278; clear HB; have HO_18 := n0_; have BK247 := n1_; have BK248 := n2_; have BK264 := n3_; have BK278 := n4_; have HB := n5_; clear n0_ n1_ n2_ n3_ n4_ n5_; (try clear hb); (try clear hb2); (try clear hk); (try clear hi)))
                          go_ret
                          exact ⟨by first | rfl | (simp [errW_none, errW_some] <;> rfl) | (simp [*, errW_none, errW_some] <;> rfl), by repeat (first | (with_reducible first | exact HB.out | apply below_alloc | apply pw_below_drewN | apply below_drew1 | refine below_set ?_ GE247.out | refine below_set ?_ GE248.out | refine below_set ?_ GE264.out | refine below_set ?_ GE278.out) | exact HB.out)⟩
                        · rw [if_neg c81] at H
                          exact absurd H (by simp)
                      · rw [if_neg c80] at H
                        exact absurd H (by simp)
                    · replace c79 := Bool.eq_false_iff.mpr c79
                      subst c79
                      have H1 : (none) = some r := by rw [if_neg (show ¬ (false = true) by decide)] at H; exact H
                      clear H
                      have H := H1
                      clear H1
                      exact absurd H (by simp)
                  · replace c78 := Bool.eq_false_iff.mpr c78
                    subst c78
                    have H1 : (none) = some r := by rw [if_neg (show ¬ (false = true) by decide)] at H; exact H
                    clear H
                    have H := H1
                    clear H1
                    exact absurd H (by simp)
                · rw [if_neg c77] at H
                  exact absurd H (by simp)

/-- THE ONE PURE STATEMENT of handshakerlaw21_SwapBoth: yours. -/
def handshakerlaw21_SwapBoth.Pure : Prop := ∀ (a0 : Int) (a1 : Int) (a2 : Int) (a3 : Int) (a4 : Bool), (Lit.int .u8 a0).wf = true → (Lit.int .u8 a1).wf = true → (Lit.int .i32 a2).wf = true → (Lit.int .i32 a3).wf = true → ∃ k, handshakerlaw21_SwapBoth.f k a0 a1 a2 a3 a4 = some true
theorem handshakerlaw21_SwapBoth.walk (P : handshakerlaw21_SwapBoth.Pure) (a0 : Int) (a1 : Int) (a2 : Int) (a3 : Int) (a4 : Bool) (w : World) (w0 : (Lit.int .u8 a0).wf = true) (w1 : (Lit.int .u8 a1).wf = true) (w2 : (Lit.int .i32 a2).wf = true) (w3 : (Lit.int .i32 a3).wf = true) :
    Calls Try.prog 4 #[.int .u8 a0, .int .u8 a1, .int .i32 a2, .int .i32 a3, .bool a4] w fun e w' => e = .returned (.bool true) ∧ Below w.heap.size w w' := by
  obtain ⟨k, h⟩ := P a0 a1 a2 a3 a4 w0 w1 w2 w3
  refine (handshakerlaw21_SwapBoth.calls k a0 a1 a2 a3 a4 true w h).mono ?_
  rintro e w' ⟨rfl, hd⟩
  exact ⟨rfl, hd⟩

end Go.Proofs.Ytpmcoehggajmcaa.PSwapBoth
