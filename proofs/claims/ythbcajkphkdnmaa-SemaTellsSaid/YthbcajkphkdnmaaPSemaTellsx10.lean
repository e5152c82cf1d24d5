/- Lean functions that say what functions of the given program compute, and proofs by walking the code that each call does just that; no condition but those that each statement names. -/
import Derived.Test.YthbcajkphkdnmaaPSemaTellsx0
import Derived.Test.YthbcajkphkdnmaaPSemaTellsx9
namespace Go.Proofs.Ythbcajkphkdnmaa.PSemaTells
open Go.RowKit Go.Proofs.YthbcajkphkdnmaaW.PrintWords Go.Proofs.YthbcajkphkdnmaaW.PrintLast Go.Proofs.YthbcajkphkdnmaaW.PrintMore
attribute [local go_sem] max2_int min2_int max_two min_two max_three min_three max_four min_four   -- for this text's walks alone
set_option linter.unusedVariables false
set_option linter.unusedSimpArgs false

/-! ### handshakerref18_Right: function 18 -/
mutual
def handshakerref18_Right.j0 : Nat → Bool → Int → Int → List (S61) → Option (Bool)
 | 0, _, _, _, _ => none
 | k + 1, x25, x263000, x263001, x263002 => if x25 = true then (some false) else (handshakerref18_Right.l0 k 0 x263000 x263001 x263002)
def handshakerref18_Right.l0 : Nat → Int → Int → Int → List (S61) → Option (Bool)
 | 0, _, _, _, _ => none
 | k + 1, x3, x263000, x263001, x263002 => if x3 < (x263002.length : Int) then (if 0 ≤ x3 then ((handshakerref03_Who.f ((rd_T61 x263002 x3).f0)).bind fun t266 => (if t266 = true then (if ((rd_T61 x263002 x3).f1) < 1 then (some false) else (if ((rd_T61 x263002 x3).f1) > x263000 then (some false) else ((handshakerref18_find.f k x263002 ((rd_T61 x263002 x3).f0)).bind fun t267 => (if t267 < x3 then (some false) else (handshakerref18_Right.l0 k (wrap64 (x3 + 1)) x263000 x263001 x263002))))) else (some false))) else (none)) else (if (x263002.length : Int) > 0 then (if 0 < (x263002.length : Int) then (some (decide (((rd_T61 x263002 0).f1) > x263001))) else (none)) else (some true))
end
def handshakerref18_Right.f (k : Nat) (a0_0 : Int) (a0_1 : Int) (l0_2 : List (S61)) : Option (Bool) := if a0_0 < 1 then (handshakerref18_Right.j0 k true a0_0 a0_1 l0_2) else (if a0_0 > 100 then (handshakerref18_Right.j0 k true a0_0 a0_1 l0_2) else (if a0_1 < 0 then (handshakerref18_Right.j0 k true a0_0 a0_1 l0_2) else (handshakerref18_Right.j0 k (decide (a0_1 > a0_0)) a0_0 a0_1 l0_2)))
theorem handshakerref18_Right.mono_l : ∀ k, (∀ y0 y1 y2 y3, LeO (handshakerref18_Right.j0 k y0 y1 y2 y3) (handshakerref18_Right.j0 (k + 1) y0 y1 y2 y3)) ∧ (∀ y0 y1 y2 y3, LeO (handshakerref18_Right.l0 k y0 y1 y2 y3) (handshakerref18_Right.l0 (k + 1) y0 y1 y2 y3))
 | 0 => ⟨fun _ _ _ _ r h => by simp [handshakerref18_Right.j0] at h, fun _ _ _ _ r h => by simp [handshakerref18_Right.l0] at h⟩
 | k + 1 => by
  obtain ⟨ih0, ih1⟩ := handshakerref18_Right.mono_l k
  refine ⟨?_, ?_⟩
  ·intro y0 y1 y2 y3
   unfold handshakerref18_Right.j0
   repeat' first
   | (with_reducible exact ih0 _ _ _ _)
   | (with_reducible exact ih1 _ _ _ _)
   | (with_reducible exact handshakerref18_find.mono _ _ _)
   | (with_reducible exact LeO.refl _)
   | (with_reducible exact LeO.none _)
   | (with_reducible refine LeO.ite ?_ ?_)
   | (with_reducible refine LeO.bind ?_ (fun _ => ?_))
   | exact ih0 _ _ _ _
   | exact ih1 _ _ _ _
   | exact handshakerref18_find.mono _ _ _
   | exact LeO.none _
   | refine LeO.ite ?_ ?_
   | refine LeO.bind ?_ (fun _ => ?_)
  ·intro y0 y1 y2 y3
   unfold handshakerref18_Right.l0
   repeat' first
   | (with_reducible exact ih0 _ _ _ _)
   | (with_reducible exact ih1 _ _ _ _)
   | (with_reducible exact handshakerref18_find.mono _ _ _)
   | (with_reducible exact LeO.refl _)
   | (with_reducible exact LeO.none _)
   | (with_reducible refine LeO.ite ?_ ?_)
   | (with_reducible refine LeO.bind ?_ (fun _ => ?_))
   | exact ih0 _ _ _ _
   | exact ih1 _ _ _ _
   | exact handshakerref18_find.mono _ _ _
   | exact LeO.none _
   | refine LeO.ite ?_ ?_
   | refine LeO.bind ?_ (fun _ => ?_)
theorem handshakerref18_Right.mono : ∀ a0 a1 a2 k, LeO (handshakerref18_Right.f k a0 a1 a2) (handshakerref18_Right.f (k + 1) a0 a1 a2) := by
 intro a0 a1 a2 k
 obtain ⟨ih0, ih1⟩ := handshakerref18_Right.mono_l k
 unfold handshakerref18_Right.f
 repeat' first
   | (with_reducible exact ih0 _ _ _ _)
   | (with_reducible exact ih1 _ _ _ _)
   | (with_reducible exact handshakerref18_find.mono _ _ _)
   | (with_reducible exact LeO.refl _)
   | (with_reducible exact LeO.none _)
   | (with_reducible refine LeO.ite ?_ ?_)
   | (with_reducible refine LeO.bind ?_ (fun _ => ?_))
   | exact ih0 _ _ _ _
   | exact ih1 _ _ _ _
   | exact handshakerref18_find.mono _ _ _
   | exact LeO.none _
   | refine LeO.ite ?_ ?_
   | refine LeO.bind ?_ (fun _ => ?_)
set_option maxHeartbeats 8000000 in
set_option maxRecDepth 100000 in
theorem handshakerref18_Right.calls (k : Nat) (a0_0 : Int) (a0_1 : Int) (A0_2 : Option Addr) (c0_2 : Nat) (l0_2 : List (S61)) (r : Bool) (w : World) (hr0_2 : Kd.C k61 w A0_2 l0_2.length l0_2) (hc0_2 : l0_2.length ≤ c0_2) (h : handshakerref18_Right.f k a0_0 a0_1 l0_2 = some r) :
  Calls Try.prog 18 #[.agg #[.int .i64 a0_0, .int .i64 a0_1, .slice A0_2 l0_2.length c0_2]] w fun e w' => e = .returned (.bool r) ∧ Below w.heap.size w w' := by
 have hu28 := Try.underlying28
 have hu61 := Try.underlying61
 have HR0_2 := am hr0_2
 have HC0_2 := am hc0_2
 clear hr0_2 hc0_2
 have HB := am (Below.refl w.heap.size w)
 have H : (if a0_0 < 1 then (handshakerref18_Right.j0 k true a0_0 a0_1 l0_2) else (if a0_0 > 100 then (handshakerref18_Right.j0 k true a0_0 a0_1 l0_2) else (if a0_1 < 0 then (handshakerref18_Right.j0 k true a0_0 a0_1 l0_2) else (handshakerref18_Right.j0 k (decide (a0_1 > a0_0)) a0_0 a0_1 l0_2)))) = some r := h
 clear h
 have HC2 := am H
 clear H
 go_enter Try.func18, Try.ntmps18
 go_upto_region 1 with (first | ((with_reducible refine gate_dst (N := 1) rfl ?_); refine box_event ?hg (N := 1) ?hd (cs := #[.int .i64 a0_0, .int .i64 a0_1, .slice A0_2 l0_2.length c0_2]) (t := 28) ?hr ?_; (case hd => rfl); (case hg => rfl); (case hr => first | (go_simp; done) | (go_simp; rfl)); intro gb262 hg w3 hbox hb; have BK262 := am (hbox); have GW262 := zsz hg (zc0 HB); have GE262 := zsz hg (zc0 HB); replace HB := am (below_step (zc0 HB) hb); clear hb hbox hg))
 repeat (go_quiet (first | ((with_reducible refine gate_dst (N := 1) rfl ?_); refine box_event ?hg (N := 1) ?hd (cs := #[.int .i64 a0_0, .int .i64 a0_1, .slice A0_2 l0_2.length c0_2]) (t := 28) ?hr ?_; (case hd => rfl); (case hg => rfl); (case hr => first | (go_simp; done) | (go_simp; rfl)); intro gb262 hg w3 hbox hb; have BK262 := am (hbox); have GW262 := zsz hg (zc0 HB); have GE262 := zsz hg (zc0 HB); replace HB := am (below_step (zc0 HB) hb); clear hb hbox hg)); go_upto_region 1 with (first | ((with_reducible refine gate_dst (N := 1) rfl ?_); refine box_event ?hg (N := 1) ?hd (cs := #[.int .i64 a0_0, .int .i64 a0_1, .slice A0_2 l0_2.length c0_2]) (t := 28) ?hr ?_; (case hd => rfl); (case hg => rfl); (case hr => first | (go_simp; done) | (go_simp; rfl)); intro gb262 hg w3 hbox hb; have BK262 := am (hbox); have GW262 := zsz hg (zc0 HB); have GE262 := zsz hg (zc0 HB); replace HB := am (below_step (zc0 HB) hb); clear hb hbox hg)))
 (try simp only [Act.put, List.setIfInBounds_toArray, List.set_cons_zero, List.set_cons_succ])
 go_cut [25] (fun v25 wc => ∃ (kq : Nat) (x25_1 : Bool), v25 = .bool x25_1 ∧ Aside0 (handshakerref18_Right.j0 kq x25_1 a0_0 a0_1 l0_2 = some r) ∧ Aside0 (kq ≤ k) ∧ Aside0 (wc.heap[gb262]? = some (.cells #[.int .i64 a0_0, .int .i64 a0_1, (.slice A0_2 l0_2.length c0_2)] 28 (0, 0))) ∧ Aside0 (Below w.heap.size w wc))
 case first =>
  have H := HC2.out
  clear HC2
  by_cases c4 : a0_0 < 1
  ·rw [if_pos c4] at H
   have c4b0 : decide (a0_0 < 1) = true := decide_eq_true c4
   clear c4
   (first | rw [c4b0] | (simp only [i64_w, i32_w]; rw [c4b0]) | skip)
   have H' := am H
   clear H
   have hcz5_0 : w3.cell? ⟨gb262, 0, none⟩ = some (.int .i64 a0_0) := (blk_cell BK262.out 0).trans rfl
   have hcz5_1 : w3.cell? ⟨gb262, 1, none⟩ = some (.int .i64 a0_1) := (blk_cell BK262.out 1).trans rfl
   have hcz5_2 : w3.cell? ⟨gb262, 2, none⟩ = some (.slice A0_2 l0_2.length c0_2) := (blk_cell BK262.out 2).trans rfl
   have hfz5_0 := blk_frozen BK262.out 0
   have hfz5_1 := blk_frozen BK262.out 1
   have hfz5_2 := blk_frozen BK262.out 2
   go_wp2
   repeat (go_quiet (fail); try go_wp2)
   go_meet
   case rel => exact ⟨_, (true), (by first | rfl | (simp; done) | (simp [*]; done)), H', ⟨by first | omega | exact Nat.le_refl _⟩, ⟨by (with_reducible repeat (first | refine blk_drewN ?_ _ | refine blk_drew ?_ | refine blk_alloc ?_ _)); exact BK262.out⟩, ⟨by repeat (first | (with_reducible first | exact HB.out | apply below_alloc | apply pw_below_drewN | apply below_drew1 | refine below_set ?_ GE262.out) | exact HB.out)⟩⟩
  ·rw [if_neg c4] at H
   have c4b0 : decide (a0_0 < 1) = false := decide_eq_false c4
   clear c4
   (first | rw [c4b0] | (simp only [i64_w, i32_w]; rw [c4b0]) | skip)
   by_cases c6 : a0_0 > 100
   ·rw [if_pos c6] at H
    have c6b0 : decide (100 < a0_0) = true := decide_eq_true c6
    clear c6
    have H' := am H
    clear H
    have hcz7_0 : w3.cell? ⟨gb262, 0, none⟩ = some (.int .i64 a0_0) := (blk_cell BK262.out 0).trans rfl
    have hcz7_1 : w3.cell? ⟨gb262, 1, none⟩ = some (.int .i64 a0_1) := (blk_cell BK262.out 1).trans rfl
    have hcz7_2 : w3.cell? ⟨gb262, 2, none⟩ = some (.slice A0_2 l0_2.length c0_2) := (blk_cell BK262.out 2).trans rfl
    have hfz7_0 := blk_frozen BK262.out 0
    have hfz7_1 := blk_frozen BK262.out 1
    have hfz7_2 := blk_frozen BK262.out 2
    go_wp2
    repeat (go_quiet (fail); try go_wp2)
    go_meet
    case rel => exact ⟨_, (true), (by first | rfl | (simp; done) | (simp [*]; done)), H', ⟨by first | omega | exact Nat.le_refl _⟩, ⟨by (with_reducible repeat (first | refine blk_drewN ?_ _ | refine blk_drew ?_ | refine blk_alloc ?_ _)); exact BK262.out⟩, ⟨by repeat (first | (with_reducible first | exact HB.out | apply below_alloc | apply pw_below_drewN | apply below_drew1 | refine below_set ?_ GE262.out) | exact HB.out)⟩⟩
   ·rw [if_neg c6] at H
    have c6b0 : decide (100 < a0_0) = false := decide_eq_false c6
    clear c6
    by_cases c8 : a0_1 < 0
    ·rw [if_pos c8] at H
     have c8b0 : decide (a0_1 < 0) = true := decide_eq_true c8
     clear c8
     have H' := am H
     clear H
     have hcz9_0 : w3.cell? ⟨gb262, 0, none⟩ = some (.int .i64 a0_0) := (blk_cell BK262.out 0).trans rfl
     have hcz9_1 : w3.cell? ⟨gb262, 1, none⟩ = some (.int .i64 a0_1) := (blk_cell BK262.out 1).trans rfl
     have hcz9_2 : w3.cell? ⟨gb262, 2, none⟩ = some (.slice A0_2 l0_2.length c0_2) := (blk_cell BK262.out 2).trans rfl
     have hfz9_0 := blk_frozen BK262.out 0
     have hfz9_1 := blk_frozen BK262.out 1
     have hfz9_2 := blk_frozen BK262.out 2
     go_wp2
     repeat (go_quiet (fail); try go_wp2)
     go_meet
     case rel => exact ⟨_, (true), (by first | rfl | (simp; done) | (simp [*]; done)), H', ⟨by first | omega | exact Nat.le_refl _⟩, ⟨by (with_reducible repeat (first | refine blk_drewN ?_ _ | refine blk_drew ?_ | refine blk_alloc ?_ _)); exact BK262.out⟩, ⟨by repeat (first | (with_reducible first | exact HB.out | apply below_alloc | apply pw_below_drewN | apply below_drew1 | refine below_set ?_ GE262.out) | exact HB.out)⟩⟩
    ·rw [if_neg c8] at H
     have c8b0 : decide (a0_1 < 0) = false := decide_eq_false c8
     clear c8
     have H' := am H
     clear H
     have hcz10_0 : w3.cell? ⟨gb262, 0, none⟩ = some (.int .i64 a0_0) := (blk_cell BK262.out 0).trans rfl
     have hcz10_1 : w3.cell? ⟨gb262, 1, none⟩ = some (.int .i64 a0_1) := (blk_cell BK262.out 1).trans rfl
     have hcz10_2 : w3.cell? ⟨gb262, 2, none⟩ = some (.slice A0_2 l0_2.length c0_2) := (blk_cell BK262.out 2).trans rfl
     have hfz10_0 := blk_frozen BK262.out 0
     have hfz10_1 := blk_frozen BK262.out 1
     have hfz10_2 := blk_frozen BK262.out 2
     go_wp2
     repeat (go_quiet (fail); try go_wp2)
     go_meet
     case rel => exact ⟨_, (decide (a0_1 > a0_0)), (by first | rfl | (simp; done) | (simp [*]; done)), H', ⟨by first | omega | exact Nat.le_refl _⟩, ⟨by (with_reducible repeat (first | refine blk_drewN ?_ _ | refine blk_drew ?_ | refine blk_alloc ?_ _)); exact BK262.out⟩, ⟨by repeat (first | (with_reducible first | exact HB.out | apply below_alloc | apply pw_below_drewN | apply below_drew1 | refine below_set ?_ GE262.out) | exact HB.out)⟩⟩
 case rest =>
  clear HC2
  try clear c1
  try clear p2
  try clear c4
  try clear c4b0
  try clear c6
  try clear c6b0
  try clear c8
  try clear c8b0
  try clear hcz10_0
  try clear hcz10_1
  try clear hcz10_2
  try clear hcz5_0
  try clear hcz5_1
  try clear hcz5_2
  try clear hcz7_0
  try clear hcz7_1
  try clear hcz7_2
  try clear hcz9_0
  try clear hcz9_1
  try clear hcz9_2
  try clear hfz10_0
  try clear hfz10_1
  try clear hfz10_2
  try clear hfz5_0
  try clear hfz5_1
  try clear hfz5_2
  try clear hfz7_0
  try clear hfz7_1
  try clear hfz7_2
  try clear hfz9_0
  try clear hfz9_1
  try clear hfz9_2
  obtain ⟨kq, x25_1, rfl, HA, HJ1, BK262, HB⟩ := hcut
  cases kq with
  | zero => exact absurd HA.out (by simp [handshakerref18_Right.j0])
  | succ kj1 =>
   have H := HA.out
   clear HA
   simp only [handshakerref18_Right.j0] at H
   by_cases c11 : x25_1 = true
   ·subst c11
    have H1 : (some false) = some r := by rw [if_pos rfl] at H; exact H
    clear H
    have H := H1
    clear H1
    obtain rfl := Option.some.inj H
    go_wp2
    repeat (go_quiet (fail); try go_wp2)
    go_ret
    exact ⟨by first | rfl | (simp [errW_none, errW_some] <;> rfl) | (simp [*, errW_none, errW_some] <;> rfl), by repeat (first | (with_reducible first | exact HB.out | apply below_alloc | apply pw_below_drewN | apply below_drew1 | refine below_set ?_ GE262.out) | exact HB.out)⟩
   ·replace c11 := Bool.eq_false_iff.mpr c11
    subst c11
    have H1 : (handshakerref18_Right.l0 kj1 0 a0_0 a0_1 l0_2) = some r := by rw [if_neg (show ¬ (false = true) by decide)] at H; exact H
    clear H
    have H := H1
    clear H1
    have H' := am H
    clear H
    go_wp2
    repeat (go_quiet (fail); try go_wp2)
    go_loopg [3] kj1 (fun kq v3 w' => ∃ (x3_2 : Int), v3 = .int .i64 x3_2 ∧ Aside0 (handshakerref18_Right.l0 kq x3_2 a0_0 a0_1 l0_2 = some r) ∧ Aside0 (kq ≤ kj1) ∧ Aside0 (w'.heap[gb262]? = some (.cells #[.int .i64 a0_0, .int .i64 a0_1, (.slice A0_2 l0_2.length c0_2)] 28 (0, 0))) ∧ Aside0 (Below w.heap.size w w'))
    case atStart => exact ⟨(0), (by first | rfl | (simp; done) | (simp [*]; done)), H', ⟨Nat.le_refl _⟩, ⟨by (with_reducible repeat (first | refine blk_drewN ?_ _ | refine blk_drew ?_ | refine blk_alloc ?_ _)); exact BK262.out⟩, ⟨by repeat (first | (with_reducible first | exact HB.out | apply below_alloc | apply pw_below_drewN | apply below_drew1 | refine below_set ?_ GE262.out) | exact HB.out)⟩⟩
    case round =>
     clear H'
     try clear c1
     try clear p2
     try clear c4
     try clear c4b0
     try clear c6
     try clear c6b0
     try clear c8
     try clear c8b0
     try clear c11
     try clear hcz10_0
     try clear hcz10_1
     try clear hcz10_2
     try clear hcz5_0
     try clear hcz5_1
     try clear hcz5_2
     try clear hcz7_0
     try clear hcz7_1
     try clear hcz7_2
     try clear hcz9_0
     try clear hcz9_1
     try clear hcz9_2
     try clear hfz10_0
     try clear hfz10_1
     try clear hfz10_2
     try clear hfz5_0
     try clear hfz5_1
     try clear hfz5_2
     try clear hfz7_0
     try clear hfz7_1
     try clear hfz7_2
     try clear hfz9_0
     try clear hfz9_1
     try clear hfz9_2
     try clear p2
     obtain ⟨x3_2, rfl, HA, HK2, BK262, HB⟩ := hrel
     cases gk with
     | zero => exact absurd HA.out (by simp [handshakerref18_Right.l0])
     | succ k2 =>
      have H := HA.out
      clear HA
      simp only [handshakerref18_Right.l0] at H
      by_cases c12 : x3_2 < (l0_2.length : Int)
      ·rw [if_pos c12] at H
       have c12b0 : decide (x3_2 < (l0_2.length : Int)) = true := decide_eq_true c12
       clear c12
       by_cases c13 : 0 ≤ x3_2
       ·rw [if_pos c13] at H
        have c13b0 : decide (0 ≤ x3_2) = true := decide_eq_true c13
        clear c13
        replace H := Option.bind_eq_some_iff.mp H
        obtain ⟨t266, A140, H⟩ := H
        try dsimp only at H
        have A14 := am A140
        clear A140
        by_cases c15 : t266 = true
        ·subst c15
         have H1 : (if ((rd_T61 l0_2 x3_2).f1) < 1 then (some false) else (if ((rd_T61 l0_2 x3_2).f1) > a0_0 then (some false) else ((handshakerref18_find.f k2 l0_2 ((rd_T61 l0_2 x3_2).f0)).bind fun t267 => (if t267 < x3_2 then (some false) else (handshakerref18_Right.l0 k2 (wrap64 (x3_2 + 1)) a0_0 a0_1 l0_2))))) = some r := by rw [if_pos rfl] at H; exact H
         clear H
         have H := H1
         clear H1
         by_cases c16 : ((rd_T61 l0_2 x3_2).f1) < 1
         ·rw [if_pos c16] at H
          have c16b0 : decide (((rd_T61 l0_2 x3_2).f1) < 1) = true := decide_eq_true c16
          clear c16
          obtain rfl := Option.some.inj H
          have hcz17_0 : wr.cell? ⟨gb262, 0, none⟩ = some (.int .i64 a0_0) := (blk_cell BK262.out 0).trans rfl
          have hcz17_1 : wr.cell? ⟨gb262, 1, none⟩ = some (.int .i64 a0_1) := (blk_cell BK262.out 1).trans rfl
          have hcz17_2 : wr.cell? ⟨gb262, 2, none⟩ = some (.slice A0_2 l0_2.length c0_2) := (blk_cell BK262.out 2).trans rfl
          have hfz17_0 := blk_frozen BK262.out 0
          have hfz17_1 := blk_frozen BK262.out 1
          have hfz17_2 := blk_frozen BK262.out 2
          have p264 : 0 ≤ (x3_2 : Int) := of_decide_eq_true (by first | (with_reducible assumption) | assumption)
          have q264 : x3_2 < (l0_2.length : Int) := of_decide_eq_true (by first | (with_reducible assumption) | assumption)
          obtain ⟨ad264, e264, hx264_0, hx264_1⟩ := at_T61 HR0_2.out x3_2 p264 q264
          cases e264
          replace hx264_0 := (HB.out.cell (World.block_lt_of_cell? w _ hx264_0)).trans hx264_0
          replace hx264_1 := (HB.out.cell (World.block_lt_of_cell? w _ hx264_1)).trans hx264_1
          replace p264 := eq_true p264
          replace q264 := eq_true q264
          go_wp2_with (first | ((with_reducible refine gate_dst (N := 4) rfl ?_); refine box_event ?hg (N := 4) ?hd (cs := #[.int .i64 0, .int .i64 0]) (t := 61) ?hr ?_; (case hd => rfl); (case hg => rfl); (case hr => first | (go_simp; done) | (go_simp; rfl)); intro gb265 hg w18 hbox hb; have BK265 := am (hbox); have GW265 := zsz hg (zc1 HB GE262); have GE265 := zsz hg (zc1 HB GE262); replace HB := am (below_step (zc1 HB GE262) hb); have NB262_265 := znt BK262 hg; have NB265_262 := zng BK262 hg; replace BK262 := zbb BK262 hb; clear hb hbox hg; have hnb19 := NB265_262.out; have hnc19 := NB262_265.out; have hcz20_0 : w18.cell? ⟨gb265, 0, none⟩ = some (.int .i64 0) := (blk_cell BK265.out 0).trans rfl; have hcz20_1 : w18.cell? ⟨gb265, 1, none⟩ = some (.int .i64 0) := (blk_cell BK265.out 1).trans rfl; have hfz20_0 := blk_frozen BK265.out 0; have hfz20_1 := blk_frozen BK265.out 1) | (go_at_call 27; (with_reducible refine (handshakerref03_Who.calls ((rd_T61 l0_2 x3_2).f0) true _ A14.out).mono ?_); rintro e w' ⟨rfl, ⟨nd, rfl⟩⟩; (try first | exact ⟨rfl, _, World.drewN_drewN _ _ _⟩ | exact ⟨rfl, _, Eq.trans (World.drewN_drewN _ _ _) (congrArg (World.drewN _) (Nat.add_assoc _ _ _))⟩)))
          repeat (go_quiet (first | ((with_reducible refine gate_dst (N := 4) rfl ?_); refine box_event ?hg (N := 4) ?hd (cs := #[.int .i64 0, .int .i64 0]) (t := 61) ?hr ?_; (case hd => rfl); (case hg => rfl); (case hr => first | (go_simp; done) | (go_simp; rfl)); intro gb265 hg w18 hbox hb; have BK265 := am (hbox); have GW265 := zsz hg (zc1 HB GE262); have GE265 := zsz hg (zc1 HB GE262); replace HB := am (below_step (zc1 HB GE262) hb); have NB262_265 := znt BK262 hg; have NB265_262 := zng BK262 hg; replace BK262 := zbb BK262 hb; clear hb hbox hg; have hnb19 := NB265_262.out; have hnc19 := NB262_265.out; have hcz20_0 : w18.cell? ⟨gb265, 0, none⟩ = some (.int .i64 0) := (blk_cell BK265.out 0).trans rfl; have hcz20_1 : w18.cell? ⟨gb265, 1, none⟩ = some (.int .i64 0) := (blk_cell BK265.out 1).trans rfl; have hfz20_0 := blk_frozen BK265.out 0; have hfz20_1 := blk_frozen BK265.out 1) | (go_at_call 27; (with_reducible refine (handshakerref03_Who.calls ((rd_T61 l0_2 x3_2).f0) true _ A14.out).mono ?_); rintro e w' ⟨rfl, ⟨nd, rfl⟩⟩; (try first | exact ⟨rfl, _, World.drewN_drewN _ _ _⟩ | exact ⟨rfl, _, Eq.trans (World.drewN_drewN _ _ _) (congrArg (World.drewN _) (Nat.add_assoc _ _ _))⟩))); try go_wp2_with (first | ((with_reducible refine gate_dst (N := 4) rfl ?_); refine box_event ?hg (N := 4) ?hd (cs := #[.int .i64 0, .int .i64 0]) (t := 61) ?hr ?_; (case hd => rfl); (case hg => rfl); (case hr => first | (go_simp; done) | (go_simp; rfl)); intro gb265 hg w18 hbox hb; have BK265 := am (hbox); have GW265 := zsz hg (zc1 HB GE262); have GE265 := zsz hg (zc1 HB GE262); replace HB := am (below_step (zc1 HB GE262) hb); have NB262_265 := znt BK262 hg; have NB265_262 := zng BK262 hg; replace BK262 := zbb BK262 hb; clear hb hbox hg; have hnb19 := NB265_262.out; have hnc19 := NB262_265.out; have hcz20_0 : w18.cell? ⟨gb265, 0, none⟩ = some (.int .i64 0) := (blk_cell BK265.out 0).trans rfl; have hcz20_1 : w18.cell? ⟨gb265, 1, none⟩ = some (.int .i64 0) := (blk_cell BK265.out 1).trans rfl; have hfz20_0 := blk_frozen BK265.out 0; have hfz20_1 := blk_frozen BK265.out 1) | (go_at_call 27; (with_reducible refine (handshakerref03_Who.calls ((rd_T61 l0_2 x3_2).f0) true _ A14.out).mono ?_); rintro e w' ⟨rfl, ⟨nd, rfl⟩⟩; (try first | exact ⟨rfl, _, World.drewN_drewN _ _ _⟩ | exact ⟨rfl, _, Eq.trans (World.drewN_drewN _ _ _) (congrArg (World.drewN _) (Nat.add_assoc _ _ _))⟩))))
          go_ret
          exact ⟨by first | rfl | (simp [errW_none, errW_some] <;> rfl) | (simp [*, errW_none, errW_some] <;> rfl), by repeat (first | (with_reducible first | exact HB.out | apply below_alloc | apply pw_below_drewN | apply below_drew1 | refine below_set ?_ GE262.out | refine below_set ?_ GE265.out) | exact HB.out)⟩
         ·rw [if_neg c16] at H
          have c16b0 : decide (((rd_T61 l0_2 x3_2).f1) < 1) = false := decide_eq_false c16
          clear c16
          by_cases c21 : ((rd_T61 l0_2 x3_2).f1) > a0_0
          ·rw [if_pos c21] at H
           have c21b0 : decide (a0_0 < ((rd_T61 l0_2 x3_2).f1)) = true := decide_eq_true c21
           clear c21
           obtain rfl := Option.some.inj H
           have hcz22_0 : wr.cell? ⟨gb262, 0, none⟩ = some (.int .i64 a0_0) := (blk_cell BK262.out 0).trans rfl
           have hcz22_1 : wr.cell? ⟨gb262, 1, none⟩ = some (.int .i64 a0_1) := (blk_cell BK262.out 1).trans rfl
           have hcz22_2 : wr.cell? ⟨gb262, 2, none⟩ = some (.slice A0_2 l0_2.length c0_2) := (blk_cell BK262.out 2).trans rfl
           have hfz22_0 := blk_frozen BK262.out 0
           have hfz22_1 := blk_frozen BK262.out 1
           have hfz22_2 := blk_frozen BK262.out 2
           have p264 : 0 ≤ (x3_2 : Int) := of_decide_eq_true (by first | (with_reducible assumption) | assumption)
           have q264 : x3_2 < (l0_2.length : Int) := of_decide_eq_true (by first | (with_reducible assumption) | assumption)
           obtain ⟨ad264, e264, hx264_0, hx264_1⟩ := at_T61 HR0_2.out x3_2 p264 q264
           cases e264
           replace hx264_0 := (HB.out.cell (World.block_lt_of_cell? w _ hx264_0)).trans hx264_0
           replace hx264_1 := (HB.out.cell (World.block_lt_of_cell? w _ hx264_1)).trans hx264_1
           replace p264 := eq_true p264
           replace q264 := eq_true q264
           go_wp2_with (first | ((with_reducible refine gate_dst (N := 4) rfl ?_); refine box_event ?hg (N := 4) ?hd (cs := #[.int .i64 0, .int .i64 0]) (t := 61) ?hr ?_; (case hd => rfl); (case hg => rfl); (case hr => first | (go_simp; done) | (go_simp; rfl)); intro gb265 hg w23 hbox hb; have BK265 := am (hbox); have GW265 := zsz hg (zc1 HB GE262); have GE265 := zsz hg (zc1 HB GE262); replace HB := am (below_step (zc1 HB GE262) hb); have NB262_265 := znt BK262 hg; have NB265_262 := zng BK262 hg; replace BK262 := zbb BK262 hb; clear hb hbox hg; have hnb24 := NB265_262.out; have hnc24 := NB262_265.out; have hcz25_0 : w23.cell? ⟨gb265, 0, none⟩ = some (.int .i64 0) := (blk_cell BK265.out 0).trans rfl; have hcz25_1 : w23.cell? ⟨gb265, 1, none⟩ = some (.int .i64 0) := (blk_cell BK265.out 1).trans rfl; have hfz25_0 := blk_frozen BK265.out 0; have hfz25_1 := blk_frozen BK265.out 1) | (go_at_call 27; (with_reducible refine (handshakerref03_Who.calls ((rd_T61 l0_2 x3_2).f0) true _ A14.out).mono ?_); rintro e w' ⟨rfl, ⟨nd, rfl⟩⟩; (try first | exact ⟨rfl, _, World.drewN_drewN _ _ _⟩ | exact ⟨rfl, _, Eq.trans (World.drewN_drewN _ _ _) (congrArg (World.drewN _) (Nat.add_assoc _ _ _))⟩); have hcz26_0 : w23.cell? ⟨gb262, 0, none⟩ = some (.int .i64 a0_0) := (blk_cell BK262.out 0).trans rfl; have hcz26_1 : w23.cell? ⟨gb262, 1, none⟩ = some (.int .i64 a0_1) := (blk_cell BK262.out 1).trans rfl; have hcz26_2 : w23.cell? ⟨gb262, 2, none⟩ = some (.slice (some ad264) l0_2.length c0_2) := (blk_cell BK262.out 2).trans rfl; have hfz26_0 := blk_frozen BK262.out 0; have hfz26_1 := blk_frozen BK262.out 1; have hfz26_2 := blk_frozen BK262.out 2))
           repeat (go_quiet (first | ((with_reducible refine gate_dst (N := 4) rfl ?_); refine box_event ?hg (N := 4) ?hd (cs := #[.int .i64 0, .int .i64 0]) (t := 61) ?hr ?_; (case hd => rfl); (case hg => rfl); (case hr => first | (go_simp; done) | (go_simp; rfl)); intro gb265 hg w23 hbox hb; have BK265 := am (hbox); have GW265 := zsz hg (zc1 HB GE262); have GE265 := zsz hg (zc1 HB GE262); replace HB := am (below_step (zc1 HB GE262) hb); have NB262_265 := znt BK262 hg; have NB265_262 := zng BK262 hg; replace BK262 := zbb BK262 hb; clear hb hbox hg; have hnb24 := NB265_262.out; have hnc24 := NB262_265.out; have hcz25_0 : w23.cell? ⟨gb265, 0, none⟩ = some (.int .i64 0) := (blk_cell BK265.out 0).trans rfl; have hcz25_1 : w23.cell? ⟨gb265, 1, none⟩ = some (.int .i64 0) := (blk_cell BK265.out 1).trans rfl; have hfz25_0 := blk_frozen BK265.out 0; have hfz25_1 := blk_frozen BK265.out 1) | (go_at_call 27; (with_reducible refine (handshakerref03_Who.calls ((rd_T61 l0_2 x3_2).f0) true _ A14.out).mono ?_); rintro e w' ⟨rfl, ⟨nd, rfl⟩⟩; (try first | exact ⟨rfl, _, World.drewN_drewN _ _ _⟩ | exact ⟨rfl, _, Eq.trans (World.drewN_drewN _ _ _) (congrArg (World.drewN _) (Nat.add_assoc _ _ _))⟩); have hcz26_0 : w23.cell? ⟨gb262, 0, none⟩ = some (.int .i64 a0_0) := (blk_cell BK262.out 0).trans rfl; have hcz26_1 : w23.cell? ⟨gb262, 1, none⟩ = some (.int .i64 a0_1) := (blk_cell BK262.out 1).trans rfl; have hcz26_2 : w23.cell? ⟨gb262, 2, none⟩ = some (.slice (some ad264) l0_2.length c0_2) := (blk_cell BK262.out 2).trans rfl; have hfz26_0 := blk_frozen BK262.out 0; have hfz26_1 := blk_frozen BK262.out 1; have hfz26_2 := blk_frozen BK262.out 2)); try go_wp2_with (first | ((with_reducible refine gate_dst (N := 4) rfl ?_); refine box_event ?hg (N := 4) ?hd (cs := #[.int .i64 0, .int .i64 0]) (t := 61) ?hr ?_; (case hd => rfl); (case hg => rfl); (case hr => first | (go_simp; done) | (go_simp; rfl)); intro gb265 hg w23 hbox hb; have BK265 := am (hbox); have GW265 := zsz hg (zc1 HB GE262); have GE265 := zsz hg (zc1 HB GE262); replace HB := am (below_step (zc1 HB GE262) hb); have NB262_265 := znt BK262 hg; have NB265_262 := zng BK262 hg; replace BK262 := zbb BK262 hb; clear hb hbox hg; have hnb24 := NB265_262.out; have hnc24 := NB262_265.out; have hcz25_0 : w23.cell? ⟨gb265, 0, none⟩ = some (.int .i64 0) := (blk_cell BK265.out 0).trans rfl; have hcz25_1 : w23.cell? ⟨gb265, 1, none⟩ = some (.int .i64 0) := (blk_cell BK265.out 1).trans rfl; have hfz25_0 := blk_frozen BK265.out 0; have hfz25_1 := blk_frozen BK265.out 1) | (go_at_call 27; (with_reducible refine (handshakerref03_Who.calls ((rd_T61 l0_2 x3_2).f0) true _ A14.out).mono ?_); rintro e w' ⟨rfl, ⟨nd, rfl⟩⟩; (try first | exact ⟨rfl, _, World.drewN_drewN _ _ _⟩ | exact ⟨rfl, _, Eq.trans (World.drewN_drewN _ _ _) (congrArg (World.drewN _) (Nat.add_assoc _ _ _))⟩); have hcz26_0 : w23.cell? ⟨gb262, 0, none⟩ = some (.int .i64 a0_0) := (blk_cell BK262.out 0).trans rfl; have hcz26_1 : w23.cell? ⟨gb262, 1, none⟩ = some (.int .i64 a0_1) := (blk_cell BK262.out 1).trans rfl; have hcz26_2 : w23.cell? ⟨gb262, 2, none⟩ = some (.slice (some ad264) l0_2.length c0_2) := (blk_cell BK262.out 2).trans rfl; have hfz26_0 := blk_frozen BK262.out 0; have hfz26_1 := blk_frozen BK262.out 1; have hfz26_2 := blk_frozen BK262.out 2)))
           go_ret
           exact ⟨by first | rfl | (simp [errW_none, errW_some] <;> rfl) | (simp [*, errW_none, errW_some] <;> rfl), by repeat (first | (with_reducible first | exact HB.out | apply below_alloc | apply pw_below_drewN | apply below_drew1 | refine below_set ?_ GE262.out | refine below_set ?_ GE265.out) | exact HB.out)⟩
          ·rw [if_neg c21] at H
           have c21b0 : decide (a0_0 < ((rd_T61 l0_2 x3_2).f1)) = false := decide_eq_false c21
           clear c21
           replace H := Option.bind_eq_some_iff.mp H
           obtain ⟨t267, A270, H⟩ := H
           try dsimp only at H
           have A27 := am A270
           clear A270
           by_cases c28 : t267 < x3_2
           ·rw [if_pos c28] at H
            have c28b0 : decide (t267 < x3_2) = true := decide_eq_true c28
            clear c28
            obtain rfl := Option.some.inj H
            have hcz29_0 : wr.cell? ⟨gb262, 0, none⟩ = some (.int .i64 a0_0) := (blk_cell BK262.out 0).trans rfl
            have hcz29_1 : wr.cell? ⟨gb262, 1, none⟩ = some (.int .i64 a0_1) := (blk_cell BK262.out 1).trans rfl
            have hcz29_2 : wr.cell? ⟨gb262, 2, none⟩ = some (.slice A0_2 l0_2.length c0_2) := (blk_cell BK262.out 2).trans rfl
            have hfz29_0 := blk_frozen BK262.out 0
            have hfz29_1 := blk_frozen BK262.out 1
            have hfz29_2 := blk_frozen BK262.out 2
            have p264 : 0 ≤ (x3_2 : Int) := of_decide_eq_true (by first | (with_reducible assumption) | assumption)
            have q264 : x3_2 < (l0_2.length : Int) := of_decide_eq_true (by first | (with_reducible assumption) | assumption)
            obtain ⟨ad264, e264, hx264_0, hx264_1⟩ := at_T61 HR0_2.out x3_2 p264 q264
            cases e264
            replace hx264_0 := (HB.out.cell (World.block_lt_of_cell? w _ hx264_0)).trans hx264_0
            replace hx264_1 := (HB.out.cell (World.block_lt_of_cell? w _ hx264_1)).trans hx264_1
            replace p264 := eq_true p264
            replace q264 := eq_true q264
            go_wp2_with (first | ((with_reducible refine gate_dst (N := 4) rfl ?_); refine box_event ?hg (N := 4) ?hd (cs := #[.int .i64 0, .int .i64 0]) (t := 61) ?hr ?_; (case hd => rfl); (case hg => rfl); (case hr => first | (go_simp; done) | (go_simp; rfl)); intro gb265 hg w30 hbox hb; have BK265 := am (hbox); have GW265 := zsz hg (zc1 HB GE262); have GE265 := zsz hg (zc1 HB GE262); replace HB := am (below_step (zc1 HB GE262) hb); have NB262_265 := znt BK262 hg; have NB265_262 := zng BK262 hg; replace BK262 := zbb BK262 hb; clear hb hbox hg; have hnb31 := NB265_262.out; have hnc31 := NB262_265.out; have hcz32_0 : w30.cell? ⟨gb265, 0, none⟩ = some (.int .i64 0) := (blk_cell BK265.out 0).trans rfl; have hcz32_1 : w30.cell? ⟨gb265, 1, none⟩ = some (.int .i64 0) := (blk_cell BK265.out 1).trans rfl; have hfz32_0 := blk_frozen BK265.out 0; have hfz32_1 := blk_frozen BK265.out 1) | (go_at_call 27; (with_reducible refine (handshakerref03_Who.calls ((rd_T61 l0_2 x3_2).f0) true _ A14.out).mono ?_); rintro e w' ⟨rfl, ⟨nd, rfl⟩⟩; (try first | exact ⟨rfl, _, World.drewN_drewN _ _ _⟩ | exact ⟨rfl, _, Eq.trans (World.drewN_drewN _ _ _) (congrArg (World.drewN _) (Nat.add_assoc _ _ _))⟩); have hcz33_0 : w30.cell? ⟨gb262, 0, none⟩ = some (.int .i64 a0_0) := (blk_cell BK262.out 0).trans rfl; have hcz33_1 : w30.cell? ⟨gb262, 1, none⟩ = some (.int .i64 a0_1) := (blk_cell BK262.out 1).trans rfl; have hcz33_2 : w30.cell? ⟨gb262, 2, none⟩ = some (.slice (some ad264) l0_2.length c0_2) := (blk_cell BK262.out 2).trans rfl; have hfz33_0 := blk_frozen BK262.out 0; have hfz33_1 := blk_frozen BK262.out 1; have hfz33_2 := blk_frozen BK262.out 2) | (go_at_call 28; (with_reducible refine (handshakerref18_find.calls k2 _ _ l0_2 ((rd_T61 l0_2 x3_2).f0) t267 _ ?side1 ?side2 A27.out).mono ?_); (case side1 => exact Kd.C_below HR0_2.out (zc2 HB GE262 GE265)); (case side2 => exact HC0_2.out); rintro e w' ⟨rfl, ⟨nd, rfl⟩⟩; (try first | exact ⟨rfl, _, World.drewN_drewN _ _ _⟩ | exact ⟨rfl, _, Eq.trans (World.drewN_drewN _ _ _) (congrArg (World.drewN _) (Nat.add_assoc _ _ _))⟩)))
            repeat (go_quiet (first | ((with_reducible refine gate_dst (N := 4) rfl ?_); refine box_event ?hg (N := 4) ?hd (cs := #[.int .i64 0, .int .i64 0]) (t := 61) ?hr ?_; (case hd => rfl); (case hg => rfl); (case hr => first | (go_simp; done) | (go_simp; rfl)); intro gb265 hg w30 hbox hb; have BK265 := am (hbox); have GW265 := zsz hg (zc1 HB GE262); have GE265 := zsz hg (zc1 HB GE262); replace HB := am (below_step (zc1 HB GE262) hb); have NB262_265 := znt BK262 hg; have NB265_262 := zng BK262 hg; replace BK262 := zbb BK262 hb; clear hb hbox hg; have hnb31 := NB265_262.out; have hnc31 := NB262_265.out; have hcz32_0 : w30.cell? ⟨gb265, 0, none⟩ = some (.int .i64 0) := (blk_cell BK265.out 0).trans rfl; have hcz32_1 : w30.cell? ⟨gb265, 1, none⟩ = some (.int .i64 0) := (blk_cell BK265.out 1).trans rfl; have hfz32_0 := blk_frozen BK265.out 0; have hfz32_1 := blk_frozen BK265.out 1) | (go_at_call 27; (with_reducible refine (handshakerref03_Who.calls ((rd_T61 l0_2 x3_2).f0) true _ A14.out).mono ?_); rintro e w' ⟨rfl, ⟨nd, rfl⟩⟩; (try first | exact ⟨rfl, _, World.drewN_drewN _ _ _⟩ | exact ⟨rfl, _, Eq.trans (World.drewN_drewN _ _ _) (congrArg (World.drewN _) (Nat.add_assoc _ _ _))⟩); have hcz33_0 : w30.cell? ⟨gb262, 0, none⟩ = some (.int .i64 a0_0) := (blk_cell BK262.out 0).trans rfl; have hcz33_1 : w30.cell? ⟨gb262, 1, none⟩ = some (.int .i64 a0_1) := (blk_cell BK262.out 1).trans rfl; have hcz33_2 : w30.cell? ⟨gb262, 2, none⟩ = some (.slice (some ad264) l0_2.length c0_2) := (blk_cell BK262.out 2).trans rfl; have hfz33_0 := blk_frozen BK262.out 0; have hfz33_1 := blk_frozen BK262.out 1; have hfz33_2 := blk_frozen BK262.out 2) | (go_at_call 28; (with_reducible refine (handshakerref18_find.calls k2 _ _ l0_2 ((rd_T61 l0_2 x3_2).f0) t267 _ ?side1 ?side2 A27.out).mono ?_); (case side1 => exact Kd.C_below HR0_2.out (zc2 HB GE262 GE265)); (case side2 => exact HC0_2.out); rintro e w' ⟨rfl, ⟨nd, rfl⟩⟩; (try first | exact ⟨rfl, _, World.drewN_drewN _ _ _⟩ | exact ⟨rfl, _, Eq.trans (World.drewN_drewN _ _ _) (congrArg (World.drewN _) (Nat.add_assoc _ _ _))⟩))); try go_wp2_with (first | ((with_reducible refine gate_dst (N := 4) rfl ?_); refine box_event ?hg (N := 4) ?hd (cs := #[.int .i64 0, .int .i64 0]) (t := 61) ?hr ?_; (case hd => rfl); (case hg => rfl); (case hr => first | (go_simp; done) | (go_simp; rfl)); intro gb265 hg w30 hbox hb; have BK265 := am (hbox); have GW265 := zsz hg (zc1 HB GE262); have GE265 := zsz hg (zc1 HB GE262); replace HB := am (below_step (zc1 HB GE262) hb); have NB262_265 := znt BK262 hg; have NB265_262 := zng BK262 hg; replace BK262 := zbb BK262 hb; clear hb hbox hg; have hnb31 := NB265_262.out; have hnc31 := NB262_265.out; have hcz32_0 : w30.cell? ⟨gb265, 0, none⟩ = some (.int .i64 0) := (blk_cell BK265.out 0).trans rfl; have hcz32_1 : w30.cell? ⟨gb265, 1, none⟩ = some (.int .i64 0) := (blk_cell BK265.out 1).trans rfl; have hfz32_0 := blk_frozen BK265.out 0; have hfz32_1 := blk_frozen BK265.out 1) | (go_at_call 27; (with_reducible refine (handshakerref03_Who.calls ((rd_T61 l0_2 x3_2).f0) true _ A14.out).mono ?_); rintro e w' ⟨rfl, ⟨nd, rfl⟩⟩; (try first | exact ⟨rfl, _, World.drewN_drewN _ _ _⟩ | exact ⟨rfl, _, Eq.trans (World.drewN_drewN _ _ _) (congrArg (World.drewN _) (Nat.add_assoc _ _ _))⟩); have hcz33_0 : w30.cell? ⟨gb262, 0, none⟩ = some (.int .i64 a0_0) := (blk_cell BK262.out 0).trans rfl; have hcz33_1 : w30.cell? ⟨gb262, 1, none⟩ = some (.int .i64 a0_1) := (blk_cell BK262.out 1).trans rfl; have hcz33_2 : w30.cell? ⟨gb262, 2, none⟩ = some (.slice (some ad264) l0_2.length c0_2) := (blk_cell BK262.out 2).trans rfl; have hfz33_0 := blk_frozen BK262.out 0; have hfz33_1 := blk_frozen BK262.out 1; have hfz33_2 := blk_frozen BK262.out 2) | (go_at_call 28; (with_reducible refine (handshakerref18_find.calls k2 _ _ l0_2 ((rd_T61 l0_2 x3_2).f0) t267 _ ?side1 ?side2 A27.out).mono ?_); (case side1 => exact Kd.C_below HR0_2.out (zc2 HB GE262 GE265)); (case side2 => exact HC0_2.out); rintro e w' ⟨rfl, ⟨nd, rfl⟩⟩; (try first | exact ⟨rfl, _, World.drewN_drewN _ _ _⟩ | exact ⟨rfl, _, Eq.trans (World.drewN_drewN _ _ _) (congrArg (World.drewN _) (Nat.add_assoc _ _ _))⟩))))
            go_ret
            exact ⟨by first | rfl | (simp [errW_none, errW_some] <;> rfl) | (simp [*, errW_none, errW_some] <;> rfl), by repeat (first | (with_reducible first | exact HB.out | apply below_alloc | apply pw_below_drewN | apply below_drew1 | refine below_set ?_ GE262.out | refine below_set ?_ GE265.out) | exact HB.out)⟩
           ·rw [if_neg c28] at H
            have c28b0 : decide (t267 < x3_2) = false := decide_eq_false c28
            clear c28
            have H' := am H
            clear H
            have hcz34_0 : wr.cell? ⟨gb262, 0, none⟩ = some (.int .i64 a0_0) := (blk_cell BK262.out 0).trans rfl
            have hcz34_1 : wr.cell? ⟨gb262, 1, none⟩ = some (.int .i64 a0_1) := (blk_cell BK262.out 1).trans rfl
            have hcz34_2 : wr.cell? ⟨gb262, 2, none⟩ = some (.slice A0_2 l0_2.length c0_2) := (blk_cell BK262.out 2).trans rfl
            have hfz34_0 := blk_frozen BK262.out 0
            have hfz34_1 := blk_frozen BK262.out 1
            have hfz34_2 := blk_frozen BK262.out 2
            have p264 : 0 ≤ (x3_2 : Int) := of_decide_eq_true (by first | (with_reducible assumption) | assumption)
            have q264 : x3_2 < (l0_2.length : Int) := of_decide_eq_true (by first | (with_reducible assumption) | assumption)
            obtain ⟨ad264, e264, hx264_0, hx264_1⟩ := at_T61 HR0_2.out x3_2 p264 q264
            cases e264
            replace hx264_0 := (HB.out.cell (World.block_lt_of_cell? w _ hx264_0)).trans hx264_0
            replace hx264_1 := (HB.out.cell (World.block_lt_of_cell? w _ hx264_1)).trans hx264_1
            replace p264 := eq_true p264
            replace q264 := eq_true q264
            go_wp2_with (first | ((with_reducible refine gate_dst (N := 4) rfl ?_); refine box_event ?hg (N := 4) ?hd (cs := #[.int .i64 0, .int .i64 0]) (t := 61) ?hr ?_; (case hd => rfl); (case hg => rfl); (case hr => first | (go_simp; done) | (go_simp; rfl)); intro gb265 hg w35 hbox hb; have BK265 := am (hbox); have GW265 := zsz hg (zc1 HB GE262); have GE265 := zsz hg (zc1 HB GE262); replace HB := am (below_step (zc1 HB GE262) hb); have NB262_265 := znt BK262 hg; have NB265_262 := zng BK262 hg; replace BK262 := zbb BK262 hb; clear hb hbox hg; have hnb36 := NB265_262.out; have hnc36 := NB262_265.out; have hcz37_0 : w35.cell? ⟨gb265, 0, none⟩ = some (.int .i64 0) := (blk_cell BK265.out 0).trans rfl; have hcz37_1 : w35.cell? ⟨gb265, 1, none⟩ = some (.int .i64 0) := (blk_cell BK265.out 1).trans rfl; have hfz37_0 := blk_frozen BK265.out 0; have hfz37_1 := blk_frozen BK265.out 1) | (go_at_call 27; (with_reducible refine (handshakerref03_Who.calls ((rd_T61 l0_2 x3_2).f0) true _ A14.out).mono ?_); rintro e w' ⟨rfl, ⟨nd, rfl⟩⟩; (try first | exact ⟨rfl, _, World.drewN_drewN _ _ _⟩ | exact ⟨rfl, _, Eq.trans (World.drewN_drewN _ _ _) (congrArg (World.drewN _) (Nat.add_assoc _ _ _))⟩); have hcz38_0 : w35.cell? ⟨gb262, 0, none⟩ = some (.int .i64 a0_0) := (blk_cell BK262.out 0).trans rfl; have hcz38_1 : w35.cell? ⟨gb262, 1, none⟩ = some (.int .i64 a0_1) := (blk_cell BK262.out 1).trans rfl; have hcz38_2 : w35.cell? ⟨gb262, 2, none⟩ = some (.slice (some ad264) l0_2.length c0_2) := (blk_cell BK262.out 2).trans rfl; have hfz38_0 := blk_frozen BK262.out 0; have hfz38_1 := blk_frozen BK262.out 1; have hfz38_2 := blk_frozen BK262.out 2) | (go_at_call 28; (with_reducible refine (handshakerref18_find.calls k2 _ _ l0_2 ((rd_T61 l0_2 x3_2).f0) t267 _ ?side1 ?side2 A27.out).mono ?_); (case side1 => exact Kd.C_below HR0_2.out (zc2 HB GE262 GE265)); (case side2 => exact HC0_2.out); rintro e w' ⟨rfl, ⟨nd, rfl⟩⟩; (try first | exact ⟨rfl, _, World.drewN_drewN _ _ _⟩ | exact ⟨rfl, _, Eq.trans (World.drewN_drewN _ _ _) (congrArg (World.drewN _) (Nat.add_assoc _ _ _))⟩)))
            repeat (go_quiet (first | ((with_reducible refine gate_dst (N := 4) rfl ?_); refine box_event ?hg (N := 4) ?hd (cs := #[.int .i64 0, .int .i64 0]) (t := 61) ?hr ?_; (case hd => rfl); (case hg => rfl); (case hr => first | (go_simp; done) | (go_simp; rfl)); intro gb265 hg w35 hbox hb; have BK265 := am (hbox); have GW265 := zsz hg (zc1 HB GE262); have GE265 := zsz hg (zc1 HB GE262); replace HB := am (below_step (zc1 HB GE262) hb); have NB262_265 := znt BK262 hg; have NB265_262 := zng BK262 hg; replace BK262 := zbb BK262 hb; clear hb hbox hg; have hnb36 := NB265_262.out; have hnc36 := NB262_265.out; have hcz37_0 : w35.cell? ⟨gb265, 0, none⟩ = some (.int .i64 0) := (blk_cell BK265.out 0).trans rfl; have hcz37_1 : w35.cell? ⟨gb265, 1, none⟩ = some (.int .i64 0) := (blk_cell BK265.out 1).trans rfl; have hfz37_0 := blk_frozen BK265.out 0; have hfz37_1 := blk_frozen BK265.out 1) | (go_at_call 27; (with_reducible refine (handshakerref03_Who.calls ((rd_T61 l0_2 x3_2).f0) true _ A14.out).mono ?_); rintro e w' ⟨rfl, ⟨nd, rfl⟩⟩; (try first | exact ⟨rfl, _, World.drewN_drewN _ _ _⟩ | exact ⟨rfl, _, Eq.trans (World.drewN_drewN _ _ _) (congrArg (World.drewN _) (Nat.add_assoc _ _ _))⟩); have hcz38_0 : w35.cell? ⟨gb262, 0, none⟩ = some (.int .i64 a0_0) := (blk_cell BK262.out 0).trans rfl; have hcz38_1 : w35.cell? ⟨gb262, 1, none⟩ = some (.int .i64 a0_1) := (blk_cell BK262.out 1).trans rfl; have hcz38_2 : w35.cell? ⟨gb262, 2, none⟩ = some (.slice (some ad264) l0_2.length c0_2) := (blk_cell BK262.out 2).trans rfl; have hfz38_0 := blk_frozen BK262.out 0; have hfz38_1 := blk_frozen BK262.out 1; have hfz38_2 := blk_frozen BK262.out 2) | (go_at_call 28; (with_reducible refine (handshakerref18_find.calls k2 _ _ l0_2 ((rd_T61 l0_2 x3_2).f0) t267 _ ?side1 ?side2 A27.out).mono ?_); (case side1 => exact Kd.C_below HR0_2.out (zc2 HB GE262 GE265)); (case side2 => exact HC0_2.out); rintro e w' ⟨rfl, ⟨nd, rfl⟩⟩; (try first | exact ⟨rfl, _, World.drewN_drewN _ _ _⟩ | exact ⟨rfl, _, Eq.trans (World.drewN_drewN _ _ _) (congrArg (World.drewN _) (Nat.add_assoc _ _ _))⟩))); try go_wp2_with (first | ((with_reducible refine gate_dst (N := 4) rfl ?_); refine box_event ?hg (N := 4) ?hd (cs := #[.int .i64 0, .int .i64 0]) (t := 61) ?hr ?_; (case hd => rfl); (case hg => rfl); (case hr => first | (go_simp; done) | (go_simp; rfl)); intro gb265 hg w35 hbox hb; have BK265 := am (hbox); have GW265 := zsz hg (zc1 HB GE262); have GE265 := zsz hg (zc1 HB GE262); replace HB := am (below_step (zc1 HB GE262) hb); have NB262_265 := znt BK262 hg; have NB265_262 := zng BK262 hg; replace BK262 := zbb BK262 hb; clear hb hbox hg; have hnb36 := NB265_262.out; have hnc36 := NB262_265.out; have hcz37_0 : w35.cell? ⟨gb265, 0, none⟩ = some (.int .i64 0) := (blk_cell BK265.out 0).trans rfl; have hcz37_1 : w35.cell? ⟨gb265, 1, none⟩ = some (.int .i64 0) := (blk_cell BK265.out 1).trans rfl; have hfz37_0 := blk_frozen BK265.out 0; have hfz37_1 := blk_frozen BK265.out 1) | (go_at_call 27; (with_reducible refine (handshakerref03_Who.calls ((rd_T61 l0_2 x3_2).f0) true _ A14.out).mono ?_); rintro e w' ⟨rfl, ⟨nd, rfl⟩⟩; (try first | exact ⟨rfl, _, World.drewN_drewN _ _ _⟩ | exact ⟨rfl, _, Eq.trans (World.drewN_drewN _ _ _) (congrArg (World.drewN _) (Nat.add_assoc _ _ _))⟩); have hcz38_0 : w35.cell? ⟨gb262, 0, none⟩ = some (.int .i64 a0_0) := (blk_cell BK262.out 0).trans rfl; have hcz38_1 : w35.cell? ⟨gb262, 1, none⟩ = some (.int .i64 a0_1) := (blk_cell BK262.out 1).trans rfl; have hcz38_2 : w35.cell? ⟨gb262, 2, none⟩ = some (.slice (some ad264) l0_2.length c0_2) := (blk_cell BK262.out 2).trans rfl; have hfz38_0 := blk_frozen BK262.out 0; have hfz38_1 := blk_frozen BK262.out 1; have hfz38_2 := blk_frozen BK262.out 2) | (go_at_call 28; (with_reducible refine (handshakerref18_find.calls k2 _ _ l0_2 ((rd_T61 l0_2 x3_2).f0) t267 _ ?side1 ?side2 A27.out).mono ?_); (case side1 => exact Kd.C_below HR0_2.out (zc2 HB GE262 GE265)); (case side2 => exact HC0_2.out); rintro e w' ⟨rfl, ⟨nd, rfl⟩⟩; (try first | exact ⟨rfl, _, World.drewN_drewN _ _ _⟩ | exact ⟨rfl, _, Eq.trans (World.drewN_drewN _ _ _) (congrArg (World.drewN _) (Nat.add_assoc _ _ _))⟩))))
            go_roundg k2
            case measure => have := HJ1.out; have := HK2.out; omega
            case rel => exact ⟨(wrap64 (x3_2 + 1)), (by first | rfl | (simp; done) | (simp [*]; done)), H', ⟨by have := HJ1.out; have := HK2.out; omega⟩, ⟨by (with_reducible repeat (first | refine blk_drewN ?_ _ | refine blk_drew ?_ | refine blk_alloc ?_ _)); refine blk_far ?_ NB262_265.out _; (with_reducible repeat (first | refine blk_drewN ?_ _ | refine blk_drew ?_ | refine blk_alloc ?_ _)); refine blk_far ?_ NB262_265.out _; (with_reducible repeat (first | refine blk_drewN ?_ _ | refine blk_drew ?_ | refine blk_alloc ?_ _)); exact BK262.out⟩, ⟨by repeat (first | (with_reducible first | exact HB.out | apply below_alloc | apply pw_below_drewN | apply below_drew1 | refine below_set ?_ GE262.out | refine below_set ?_ GE265.out) | exact HB.out)⟩⟩
        ·replace c15 := Bool.eq_false_iff.mpr c15
         subst c15
         have H1 : (some false) = some r := by rw [if_neg (show ¬ (false = true) by decide)] at H; exact H
         clear H
         have H := H1
         clear H1
         obtain rfl := Option.some.inj H
         have hcz39_0 : wr.cell? ⟨gb262, 0, none⟩ = some (.int .i64 a0_0) := (blk_cell BK262.out 0).trans rfl
         have hcz39_1 : wr.cell? ⟨gb262, 1, none⟩ = some (.int .i64 a0_1) := (blk_cell BK262.out 1).trans rfl
         have hcz39_2 : wr.cell? ⟨gb262, 2, none⟩ = some (.slice A0_2 l0_2.length c0_2) := (blk_cell BK262.out 2).trans rfl
         have hfz39_0 := blk_frozen BK262.out 0
         have hfz39_1 := blk_frozen BK262.out 1
         have hfz39_2 := blk_frozen BK262.out 2
         have p264 : 0 ≤ (x3_2 : Int) := of_decide_eq_true (by first | (with_reducible assumption) | assumption)
         have q264 : x3_2 < (l0_2.length : Int) := of_decide_eq_true (by first | (with_reducible assumption) | assumption)
         obtain ⟨ad264, e264, hx264_0, hx264_1⟩ := at_T61 HR0_2.out x3_2 p264 q264
         cases e264
         replace hx264_0 := (HB.out.cell (World.block_lt_of_cell? w _ hx264_0)).trans hx264_0
         replace hx264_1 := (HB.out.cell (World.block_lt_of_cell? w _ hx264_1)).trans hx264_1
         replace p264 := eq_true p264
         replace q264 := eq_true q264
         go_wp2_with (first | ((with_reducible refine gate_dst (N := 4) rfl ?_); refine box_event ?hg (N := 4) ?hd (cs := #[.int .i64 0, .int .i64 0]) (t := 61) ?hr ?_; (case hd => rfl); (case hg => rfl); (case hr => first | (go_simp; done) | (go_simp; rfl)); intro gb265 hg w40 hbox hb; have BK265 := am (hbox); have GW265 := zsz hg (zc1 HB GE262); have GE265 := zsz hg (zc1 HB GE262); replace HB := am (below_step (zc1 HB GE262) hb); have NB262_265 := znt BK262 hg; have NB265_262 := zng BK262 hg; replace BK262 := zbb BK262 hb; clear hb hbox hg; have hnb41 := NB265_262.out; have hnc41 := NB262_265.out; have hcz42_0 : w40.cell? ⟨gb265, 0, none⟩ = some (.int .i64 0) := (blk_cell BK265.out 0).trans rfl; have hcz42_1 : w40.cell? ⟨gb265, 1, none⟩ = some (.int .i64 0) := (blk_cell BK265.out 1).trans rfl; have hfz42_0 := blk_frozen BK265.out 0; have hfz42_1 := blk_frozen BK265.out 1) | (go_at_call 27; (with_reducible refine (handshakerref03_Who.calls ((rd_T61 l0_2 x3_2).f0) false _ A14.out).mono ?_); rintro e w' ⟨rfl, ⟨nd, rfl⟩⟩; (try first | exact ⟨rfl, _, World.drewN_drewN _ _ _⟩ | exact ⟨rfl, _, Eq.trans (World.drewN_drewN _ _ _) (congrArg (World.drewN _) (Nat.add_assoc _ _ _))⟩)))
         repeat (go_quiet (first | ((with_reducible refine gate_dst (N := 4) rfl ?_); refine box_event ?hg (N := 4) ?hd (cs := #[.int .i64 0, .int .i64 0]) (t := 61) ?hr ?_; (case hd => rfl); (case hg => rfl); (case hr => first | (go_simp; done) | (go_simp; rfl)); intro gb265 hg w40 hbox hb; have BK265 := am (hbox); have GW265 := zsz hg (zc1 HB GE262); have GE265 := zsz hg (zc1 HB GE262); replace HB := am (below_step (zc1 HB GE262) hb); have NB262_265 := znt BK262 hg; have NB265_262 := zng BK262 hg; replace BK262 := zbb BK262 hb; clear hb hbox hg; have hnb41 := NB265_262.out; have hnc41 := NB262_265.out; have hcz42_0 : w40.cell? ⟨gb265, 0, none⟩ = some (.int .i64 0) := (blk_cell BK265.out 0).trans rfl; have hcz42_1 : w40.cell? ⟨gb265, 1, none⟩ = some (.int .i64 0) := (blk_cell BK265.out 1).trans rfl; have hfz42_0 := blk_frozen BK265.out 0; have hfz42_1 := blk_frozen BK265.out 1) | (go_at_call 27; (with_reducible refine (handshakerref03_Who.calls ((rd_T61 l0_2 x3_2).f0) false _ A14.out).mono ?_); rintro e w' ⟨rfl, ⟨nd, rfl⟩⟩; (try first | exact ⟨rfl, _, World.drewN_drewN _ _ _⟩ | exact ⟨rfl, _, Eq.trans (World.drewN_drewN _ _ _) (congrArg (World.drewN _) (Nat.add_assoc _ _ _))⟩))); try go_wp2_with (first | ((with_reducible refine gate_dst (N := 4) rfl ?_); refine box_event ?hg (N := 4) ?hd (cs := #[.int .i64 0, .int .i64 0]) (t := 61) ?hr ?_; (case hd => rfl); (case hg => rfl); (case hr => first | (go_simp; done) | (go_simp; rfl)); intro gb265 hg w40 hbox hb; have BK265 := am (hbox); have GW265 := zsz hg (zc1 HB GE262); have GE265 := zsz hg (zc1 HB GE262); replace HB := am (below_step (zc1 HB GE262) hb); have NB262_265 := znt BK262 hg; have NB265_262 := zng BK262 hg; replace BK262 := zbb BK262 hb; clear hb hbox hg; have hnb41 := NB265_262.out; have hnc41 := NB262_265.out; have hcz42_0 : w40.cell? ⟨gb265, 0, none⟩ = some (.int .i64 0) := (blk_cell BK265.out 0).trans rfl; have hcz42_1 : w40.cell? ⟨gb265, 1, none⟩ = some (.int .i64 0) := (blk_cell BK265.out 1).trans rfl; have hfz42_0 := blk_frozen BK265.out 0; have hfz42_1 := blk_frozen BK265.out 1) | (go_at_call 27; (with_reducible refine (handshakerref03_Who.calls ((rd_T61 l0_2 x3_2).f0) false _ A14.out).mono ?_); rintro e w' ⟨rfl, ⟨nd, rfl⟩⟩; (try first | exact ⟨rfl, _, World.drewN_drewN _ _ _⟩ | exact ⟨rfl, _, Eq.trans (World.drewN_drewN _ _ _) (congrArg (World.drewN _) (Nat.add_assoc _ _ _))⟩))))
         go_ret
         exact ⟨by first | rfl | (simp [errW_none, errW_some] <;> rfl) | (simp [*, errW_none, errW_some] <;> rfl), by repeat (first | (with_reducible first | exact HB.out | apply below_alloc | apply pw_below_drewN | apply below_drew1 | refine below_set ?_ GE262.out | refine below_set ?_ GE265.out) | exact HB.out)⟩
       ·rw [if_neg c13] at H
        exact absurd H (by simp)
      ·rw [if_neg c12] at H
       have c12b0 : decide (x3_2 < (l0_2.length : Int)) = false := decide_eq_false c12
       clear c12
       by_cases c43 : (l0_2.length : Int) > 0
       ·rw [if_pos c43] at H
        have c43b0 : decide (0 < (l0_2.length : Int)) = true := decide_eq_true c43
        have c43b1 : decide (0 < l0_2.length) = true := decide_eq_true (by omega)
        clear c43
        by_cases c44 : 0 < (l0_2.length : Int)
        ·rw [if_pos c44] at H
         have c44b0 : decide (0 < (l0_2.length : Int)) = true := decide_eq_true c44
         have c44b1 : decide (0 < l0_2.length) = true := decide_eq_true (by omega)
         clear c44
         obtain rfl := Option.some.inj H
         have hcz45_0 : wr.cell? ⟨gb262, 0, none⟩ = some (.int .i64 a0_0) := (blk_cell BK262.out 0).trans rfl
         have hcz45_1 : wr.cell? ⟨gb262, 1, none⟩ = some (.int .i64 a0_1) := (blk_cell BK262.out 1).trans rfl
         have hcz45_2 : wr.cell? ⟨gb262, 2, none⟩ = some (.slice A0_2 l0_2.length c0_2) := (blk_cell BK262.out 2).trans rfl
         have hfz45_0 := blk_frozen BK262.out 0
         have hfz45_1 := blk_frozen BK262.out 1
         have hfz45_2 := blk_frozen BK262.out 2
         have p263 : 0 ≤ (0 : Int) := (by omega)
         have q263 : 0 < (l0_2.length : Int) := of_decide_eq_true (by first | (with_reducible assumption) | assumption)
         obtain ⟨ad263, e263, hx263_0, hx263_1⟩ := at_T61 HR0_2.out 0 p263 q263
         cases e263
         have qi263 : (0 < l0_2.length) = True := eq_true (by omega)
         (try rw [show ((0 : Int)).toNat = 0 from rfl] at hx263_0)
         (try rw [show 0 * 2 = 0 from rfl] at hx263_0)
         (try rw [Addr.add_zero'] at hx263_0)
         (try rw [show ((0 : Int)).toNat = 0 from rfl] at hx263_1)
         (try rw [show 0 * 2 = 0 from rfl] at hx263_1)
         (try rw [Addr.add_zero'] at hx263_1)
         replace hx263_0 := (HB.out.cell (World.block_lt_of_cell? w _ hx263_0)).trans hx263_0
         replace hx263_1 := (HB.out.cell (World.block_lt_of_cell? w _ hx263_1)).trans hx263_1
         replace p263 := eq_true p263
         replace q263 := eq_true q263
         go_wp2
         repeat (go_quiet (fail); try go_wp2)
         go_ret
         exact ⟨by first | rfl | (simp [errW_none, errW_some] <;> rfl) | (simp [*, errW_none, errW_some] <;> rfl), by repeat (first | (with_reducible first | exact HB.out | apply below_alloc | apply pw_below_drewN | apply below_drew1 | refine below_set ?_ GE262.out) | exact HB.out)⟩
        ·rw [if_neg c44] at H
         exact absurd H (by simp)
       ·rw [if_neg c43] at H
        have c43b0 : decide (0 < (l0_2.length : Int)) = false := decide_eq_false c43
        have c43b1 : decide (0 < l0_2.length) = false := decide_eq_false (by omega)
        clear c43
        obtain rfl := Option.some.inj H
        have hcz46_0 : wr.cell? ⟨gb262, 0, none⟩ = some (.int .i64 a0_0) := (blk_cell BK262.out 0).trans rfl
        have hcz46_1 : wr.cell? ⟨gb262, 1, none⟩ = some (.int .i64 a0_1) := (blk_cell BK262.out 1).trans rfl
        have hcz46_2 : wr.cell? ⟨gb262, 2, none⟩ = some (.slice A0_2 l0_2.length c0_2) := (blk_cell BK262.out 2).trans rfl
        have hfz46_0 := blk_frozen BK262.out 0
        have hfz46_1 := blk_frozen BK262.out 1
        have hfz46_2 := blk_frozen BK262.out 2
        go_wp2
        repeat (go_quiet (fail); try go_wp2)
        go_ret
        exact ⟨by first | rfl | (simp [errW_none, errW_some] <;> rfl) | (simp [*, errW_none, errW_some] <;> rfl), by repeat (first | (with_reducible first | exact HB.out | apply below_alloc | apply pw_below_drewN | apply below_drew1 | refine below_set ?_ GE262.out) | exact HB.out)⟩

end Go.Proofs.Ythbcajkphkdnmaa.PSemaTells
