/- Lean functions that say what functions of the given program compute, and proofs by walking the code that each call does just that; no condition but those that each statement names. -/
import Derived.Test.YthbcajkphkdnmaaPSemaTellsx0
import Derived.Test.YthbcajkphkdnmaaPSemaTellsx2
namespace Go.Proofs.Ythbcajkphkdnmaa.PSemaTells
open Go.RowKit Go.Proofs.YthbcajkphkdnmaaW.PrintWords Go.Proofs.YthbcajkphkdnmaaW.PrintLast Go.Proofs.YthbcajkphkdnmaaW.PrintMore
attribute [local go_sem] max2_int min2_int max_two min_two max_three min_three max_four min_four   -- for this text's walks alone
set_option linter.unusedVariables false
set_option linter.unusedSimpArgs false

attribute [local go_sem high] eqA61
/-! ### handshakerref18_List: function 21 -/
def handshakerref18_List.l0 : Nat → List (S61) → List (S61) → Int → Option (Bool)
 | 0, _, _, _ => none
 | k + 1, x0, x1, x5 => if x5 < (x0.length : Int) then (if 0 ≤ x5 then (if x5 < (x1.length : Int) then (if (!(((rd_T61 x0 x5).f0) == ((rd_T61 x1 x5).f0)) || (!(((rd_T61 x0 x5).f1) == ((rd_T61 x1 x5).f1)))) = true then (some false) else (handshakerref18_List.l0 k x0 x1 (wrap64 (x5 + 1)))) else (none)) else (none)) else (some true)
def handshakerref18_List.f (k : Nat) (l0 : List (S61)) (l1 : List (S61)) : Option (Bool) := if (l0.length : Int) = (l1.length : Int) then (handshakerref18_List.l0 k l0 l1 0) else (some false)
theorem handshakerref18_List.mono_l : ∀ k, (∀ y0 y1 y2, LeO (handshakerref18_List.l0 k y0 y1 y2) (handshakerref18_List.l0 (k + 1) y0 y1 y2))
 | 0 => fun _ _ _ r h => by simp [handshakerref18_List.l0] at h
 | k + 1 => by
  have ih0 := handshakerref18_List.mono_l k
  ·intro y0 y1 y2
   unfold handshakerref18_List.l0
   repeat' first
   | (with_reducible exact ih0 _ _ _)
   | (with_reducible exact LeO.refl _)
   | (with_reducible exact LeO.none _)
   | (with_reducible refine LeO.ite ?_ ?_)
   | (with_reducible refine LeO.bind ?_ (fun _ => ?_))
   | exact ih0 _ _ _
   | exact LeO.none _
   | refine LeO.ite ?_ ?_
   | refine LeO.bind ?_ (fun _ => ?_)
theorem handshakerref18_List.mono : ∀ a0 a1 k, LeO (handshakerref18_List.f k a0 a1) (handshakerref18_List.f (k + 1) a0 a1) := by
 intro a0 a1 k
 have ih0 := handshakerref18_List.mono_l k
 unfold handshakerref18_List.f
 repeat' first
   | (with_reducible exact ih0 _ _ _)
   | (with_reducible exact LeO.refl _)
   | (with_reducible exact LeO.none _)
   | (with_reducible refine LeO.ite ?_ ?_)
   | (with_reducible refine LeO.bind ?_ (fun _ => ?_))
   | exact ih0 _ _ _
   | exact LeO.none _
   | refine LeO.ite ?_ ?_
   | refine LeO.bind ?_ (fun _ => ?_)
set_option maxHeartbeats 8000000 in
set_option maxRecDepth 100000 in
theorem handshakerref18_List.calls (k : Nat) (A0 : Option Addr) (c0 : Nat) (l0 : List (S61)) (A1 : Option Addr) (c1 : Nat) (l1 : List (S61)) (r : Bool) (w : World) (hr0 : Kd.C k61 w A0 l0.length l0) (hc0 : l0.length ≤ c0) (hr1 : Kd.C k61 w A1 l1.length l1) (hc1 : l1.length ≤ c1) (h : handshakerref18_List.f k l0 l1 = some r) :
  Calls Try.prog 21 #[.slice A0 l0.length c0, .slice A1 l1.length c1] w fun e w' => e = .returned (.bool r) ∧ Drawn0 w w' := by
 have hu61 := Try.underlying61
 have HR0 := am hr0
 have HC0 := am hc0
 clear hr0 hc0
 have HR1 := am hr1
 have HC1 := am hc1
 clear hr1 hc1
 have H : (if (l0.length : Int) = (l1.length : Int) then (handshakerref18_List.l0 k l0 l1 0) else (some false)) = some r := h
 clear h
 by_cases c3 : (l0.length : Int) = (l1.length : Int)
 ·rw [if_pos c3] at H
  have c3b0 : ((l0.length : Int) == (l1.length : Int)) = true := beq_iff_eq.mpr c3
  have c3b1 : ((l0.length : Int) != (l1.length : Int)) = false := bne_eq_false_iff_eq.mpr c3
  have c3b2 : (l0.length == l1.length) = true := by first | simpa using c3 | (simp at c3 ⊢; omega)
  clear c3
  have H' := am H
  clear H
  go_enter Try.func21, Try.ntmps21
  go_wp2
  repeat (go_quiet (fail); try go_wp2)
  go_loopg [5] k (fun kq v5 w' => ∃ (x5_1 : Int), v5 = .int .i64 x5_1 ∧ Aside0 (handshakerref18_List.l0 kq l0 l1 x5_1 = some r) ∧ Aside0 (kq ≤ k) ∧ Drawn0 w w')
  case atStart => exact ⟨(0), (by first | rfl | (simp; done) | (simp [*]; done)), H', ⟨Nat.le_refl _⟩, by repeat (first | exact Drawn0.refl _ | apply Drawn0.step)⟩
  case round =>
   clear H'
   try clear c1
   try clear c2
   try clear p2
   try clear c3
   try clear c3b0
   try clear c3b1
   try clear c3b2
   obtain ⟨x5_1, rfl, HA, HK1, ⟨m1, rfl⟩⟩ := hrel
   cases gk with
   | zero => exact absurd HA.out (by simp [handshakerref18_List.l0])
   | succ k1 =>
    have H := HA.out
    clear HA
    simp only [handshakerref18_List.l0] at H
    by_cases c4 : x5_1 < (l0.length : Int)
    ·rw [if_pos c4] at H
     have c4b0 : decide (x5_1 < (l0.length : Int)) = true := decide_eq_true c4
     clear c4
     by_cases c5 : 0 ≤ x5_1
     ·rw [if_pos c5] at H
      have c5b0 : decide (0 ≤ x5_1) = true := decide_eq_true c5
      clear c5
      by_cases c6 : x5_1 < (l1.length : Int)
      ·rw [if_pos c6] at H
       have c6b0 : decide (x5_1 < (l1.length : Int)) = true := decide_eq_true c6
       clear c6
       by_cases c7 : (!(((rd_T61 l0 x5_1).f0) == ((rd_T61 l1 x5_1).f0)) || (!(((rd_T61 l0 x5_1).f1) == ((rd_T61 l1 x5_1).f1)))) = true
       ·rw [if_pos c7] at H
        have c7b0 : (!(((rd_T61 l0 x5_1).f0) == ((rd_T61 l1 x5_1).f0)) || (!(((rd_T61 l0 x5_1).f1) == ((rd_T61 l1 x5_1).f1)))) = true := c7
        clear c7
        obtain rfl := Option.some.inj H
        have p347 : 0 ≤ (x5_1 : Int) := of_decide_eq_true (by first | (with_reducible assumption) | assumption)
        have q347 : x5_1 < (l0.length : Int) := of_decide_eq_true (by first | (with_reducible assumption) | assumption)
        obtain ⟨ad347, e347, hx347_0, hx347_1⟩ := at_T61 HR0.out x5_1 p347 q347
        cases e347
        replace p347 := eq_true p347
        replace q347 := eq_true q347
        have p348 : 0 ≤ (x5_1 : Int) := of_decide_eq_true (by first | (with_reducible assumption) | assumption)
        have q348 : x5_1 < (l1.length : Int) := of_decide_eq_true (by first | (with_reducible assumption) | assumption)
        obtain ⟨ad348, e348, hx348_0, hx348_1⟩ := at_T61 HR1.out x5_1 p348 q348
        cases e348
        replace p348 := eq_true p348
        replace q348 := eq_true q348
        go_wp2
        repeat (go_quiet (fail); try go_wp2)
        go_ret
        exact ⟨by first | rfl | (simp; done) | (simp [*]; done), by repeat (first | exact Drawn0.refl _ | apply Drawn0.step)⟩
       ·rw [if_neg c7] at H
        have c7b0 : (!(((rd_T61 l0 x5_1).f0) == ((rd_T61 l1 x5_1).f0)) || (!(((rd_T61 l0 x5_1).f1) == ((rd_T61 l1 x5_1).f1)))) = false := by simpa using c7
        clear c7
        have H' := am H
        clear H
        have p347 : 0 ≤ (x5_1 : Int) := of_decide_eq_true (by first | (with_reducible assumption) | assumption)
        have q347 : x5_1 < (l0.length : Int) := of_decide_eq_true (by first | (with_reducible assumption) | assumption)
        obtain ⟨ad347, e347, hx347_0, hx347_1⟩ := at_T61 HR0.out x5_1 p347 q347
        cases e347
        replace p347 := eq_true p347
        replace q347 := eq_true q347
        have p348 : 0 ≤ (x5_1 : Int) := of_decide_eq_true (by first | (with_reducible assumption) | assumption)
        have q348 : x5_1 < (l1.length : Int) := of_decide_eq_true (by first | (with_reducible assumption) | assumption)
        obtain ⟨ad348, e348, hx348_0, hx348_1⟩ := at_T61 HR1.out x5_1 p348 q348
        cases e348
        replace p348 := eq_true p348
        replace q348 := eq_true q348
        go_wp2
        repeat (go_quiet (fail); try go_wp2)
        go_roundg k1
        case measure => have := HK1.out; omega
        case rel => exact ⟨(wrap64 (x5_1 + 1)), (by first | rfl | (simp; done) | (simp [*]; done)), H', ⟨by have := HK1.out; omega⟩, by repeat (first | exact Drawn0.refl _ | apply Drawn0.step)⟩
      ·rw [if_neg c6] at H
       exact absurd H (by simp)
     ·rw [if_neg c5] at H
      exact absurd H (by simp)
    ·rw [if_neg c4] at H
     have c4b0 : decide (x5_1 < (l0.length : Int)) = false := decide_eq_false c4
     clear c4
     obtain rfl := Option.some.inj H
     go_wp2
     repeat (go_quiet (fail); try go_wp2)
     go_ret
     exact ⟨by first | rfl | (simp; done) | (simp [*]; done), by repeat (first | exact Drawn0.refl _ | apply Drawn0.step)⟩
 ·rw [if_neg c3] at H
  have c3b0 : ((l0.length : Int) == (l1.length : Int)) = false := beq_eq_false_iff_ne.mpr c3
  have c3b1 : ((l0.length : Int) != (l1.length : Int)) = true := bne_iff_ne.mpr c3
  have c3b2 : (l0.length == l1.length) = false := by first | simpa using c3 | (simp at c3 ⊢; omega)
  obtain rfl := Option.some.inj H
  go_enter Try.func21, Try.ntmps21
  go_wp2
  repeat (go_quiet (fail); try go_wp2)
  go_ret
  exact ⟨by first | rfl | (simp; done) | (simp [*]; done), by repeat (first | exact Drawn0.refl _ | apply Drawn0.step)⟩

/-! ### handshakerref18_Same: function 20 -/
def handshakerref18_Same.f (k : Nat) (a0_0 : Int) (a0_1 : Int) (l0_2 : List (S61)) (a1_0 : Int) (a1_1 : Int) (l1_2 : List (S61)) : Option (Bool) := (handshakerref18_List.f k l0_2 l1_2).bind fun t351 => (if t351 = true then (if a0_0 = a1_0 then (some (a0_1 == a1_1)) else (some false)) else (some false))
theorem handshakerref18_Same.mono : ∀ a0 a1 a2 a3 a4 a5 k, LeO (handshakerref18_Same.f k a0 a1 a2 a3 a4 a5) (handshakerref18_Same.f (k + 1) a0 a1 a2 a3 a4 a5) := by
 intro a0 a1 a2 a3 a4 a5 k
 unfold handshakerref18_Same.f
 repeat' first
   | (with_reducible exact handshakerref18_List.mono _ _ _)
   | (with_reducible exact LeO.refl _)
   | (with_reducible exact LeO.none _)
   | (with_reducible refine LeO.ite ?_ ?_)
   | (with_reducible refine LeO.bind ?_ (fun _ => ?_))
   | exact handshakerref18_List.mono _ _ _
   | exact LeO.none _
   | refine LeO.ite ?_ ?_
   | refine LeO.bind ?_ (fun _ => ?_)
set_option maxHeartbeats 8000000 in
set_option maxRecDepth 100000 in
theorem handshakerref18_Same.calls (k : Nat) (a0_0 : Int) (a0_1 : Int) (A0_2 : Option Addr) (c0_2 : Nat) (l0_2 : List (S61)) (a1_0 : Int) (a1_1 : Int) (A1_2 : Option Addr) (c1_2 : Nat) (l1_2 : List (S61)) (r : Bool) (w : World) (hr0_2 : Kd.C k61 w A0_2 l0_2.length l0_2) (hc0_2 : l0_2.length ≤ c0_2) (hr1_2 : Kd.C k61 w A1_2 l1_2.length l1_2) (hc1_2 : l1_2.length ≤ c1_2) (h : handshakerref18_Same.f k a0_0 a0_1 l0_2 a1_0 a1_1 l1_2 = some r) :
  Calls Try.prog 20 #[.agg #[.int .i64 a0_0, .int .i64 a0_1, .slice A0_2 l0_2.length c0_2], .agg #[.int .i64 a1_0, .int .i64 a1_1, .slice A1_2 l1_2.length c1_2]] w fun e w' => e = .returned (.bool r) ∧ Below w.heap.size w w' := by
 have hu28 := Try.underlying28
 have HR0_2 := am hr0_2
 have HC0_2 := am hc0_2
 clear hr0_2 hc0_2
 have HR1_2 := am hr1_2
 have HC1_2 := am hc1_2
 clear hr1_2 hc1_2
 have HB := am (Below.refl w.heap.size w)
 have H : ((handshakerref18_List.f k l0_2 l1_2).bind fun t351 => (if t351 = true then (if a0_0 = a1_0 then (some (a0_1 == a1_1)) else (some false)) else (some false))) = some r := h
 clear h
 replace H := Option.bind_eq_some_iff.mp H
 obtain ⟨t351, A30, H⟩ := H
 try dsimp only at H
 have A3 := am A30
 clear A30
 by_cases c4 : t351 = true
 ·subst c4
  have H1 : (if a0_0 = a1_0 then (some (a0_1 == a1_1)) else (some false)) = some r := by rw [if_pos rfl] at H; exact H
  clear H
  have H := H1
  clear H1
  by_cases c5 : a0_0 = a1_0
  ·rw [if_pos c5] at H
   have c5b0 : (a0_0 == a1_0) = true := beq_iff_eq.mpr c5
   have c5b1 : (a0_0 != a1_0) = false := bne_eq_false_iff_eq.mpr c5
   clear c5
   obtain rfl := Option.some.inj H
   go_enter Try.func20, Try.ntmps20
   go_wp2_with (first | ((with_reducible refine gate_dst (N := 2) rfl ?_); refine box_event ?hg (N := 2) ?hd (cs := #[.int .i64 a0_0, .int .i64 a0_1, .slice A0_2 l0_2.length c0_2]) (t := 28) ?hr ?_; (case hd => rfl); (case hg => rfl); (case hr => first | (go_simp; done) | (go_simp; rfl)); intro gb349 hg w6 hbox hb; have BK349 := am (hbox); have GW349 := zsz hg (zc0 HB); have GE349 := zsz hg (zc0 HB); replace HB := am (below_step (zc0 HB) hb); clear hb hbox hg) | ((with_reducible refine gate_dst (N := 3) rfl ?_); refine box_event ?hg (N := 3) ?hd (cs := #[.int .i64 a1_0, .int .i64 a1_1, .slice A1_2 l1_2.length c1_2]) (t := 28) ?hr ?_; (case hd => rfl); (case hg => rfl); (case hr => first | (go_simp; done) | (go_simp; rfl)); intro gb350 hg w7 hbox hb; have BK350 := am (hbox); have GW350 := zsz hg (zc1 HB GE349); have GE350 := zsz hg (zc1 HB GE349); replace HB := am (below_step (zc1 HB GE349) hb); have NB349_350 := znt BK349 hg; have NB350_349 := zng BK349 hg; replace BK349 := zbb BK349 hb; clear hb hbox hg; have hnb8 := NB349_350.out; have hnc8 := NB350_349.out; have hcz9_0 : w7.cell? ⟨gb349, 0, none⟩ = some (.int .i64 a0_0) := (blk_cell BK349.out 0).trans rfl; have hcz9_1 : w7.cell? ⟨gb349, 1, none⟩ = some (.int .i64 a0_1) := (blk_cell BK349.out 1).trans rfl; have hcz9_2 : w7.cell? ⟨gb349, 2, none⟩ = some (.slice A0_2 l0_2.length c0_2) := (blk_cell BK349.out 2).trans rfl; have hfz9_0 := blk_frozen BK349.out 0; have hfz9_1 := blk_frozen BK349.out 1; have hfz9_2 := blk_frozen BK349.out 2; have hcz10_0 : w7.cell? ⟨gb350, 0, none⟩ = some (.int .i64 a1_0) := (blk_cell BK350.out 0).trans rfl; have hcz10_1 : w7.cell? ⟨gb350, 1, none⟩ = some (.int .i64 a1_1) := (blk_cell BK350.out 1).trans rfl; have hcz10_2 : w7.cell? ⟨gb350, 2, none⟩ = some (.slice A1_2 l1_2.length c1_2) := (blk_cell BK350.out 2).trans rfl; have hfz10_0 := blk_frozen BK350.out 0; have hfz10_1 := blk_frozen BK350.out 1; have hfz10_2 := blk_frozen BK350.out 2) | ((with_reducible refine gate_callee (f := 21) rfl ?_); refine goesL_ (some 10) rfl rfl Try.func21 (by kernel_rfl) rfl #[.slice A0_2 l0_2.length c0_2, .slice A1_2 l1_2.length c1_2] rfl zm ?_; (with_reducible refine (handshakerref18_List.calls k _ _ l0_2 _ _ l1_2 true _ ?side1 ?side2 ?side3 ?side4 A3.out).mono ?_); (case side1 => repeat (first | exact (Kd.C_below HR0_2.out HB.out) | (with_reducible refine Kd.C_alloc ?_ _) | (with_reducible refine Kd.C_drewN ?_ _) | (with_reducible refine Kd.C_drew ?_))); (case side2 => exact HC0_2.out); (case side3 => repeat (first | exact (Kd.C_below HR1_2.out HB.out) | (with_reducible refine Kd.C_alloc ?_ _) | (with_reducible refine Kd.C_drewN ?_ _) | (with_reducible refine Kd.C_drew ?_))); (case side4 => exact HC1_2.out); rintro e w' ⟨rfl, ⟨nd, rfl⟩⟩; refine ⟨_, rfl, ?_⟩))
   go_ret
   exact ⟨by first | rfl | (simp [errW_none, errW_some] <;> rfl) | (simp [*, errW_none, errW_some] <;> rfl), by repeat (first | (with_reducible first | exact HB.out | apply below_alloc | apply pw_below_drewN | apply below_drew1 | refine below_set ?_ GE349.out | refine below_set ?_ GE350.out) | exact HB.out)⟩
  ·rw [if_neg c5] at H
   have c5b0 : (a0_0 == a1_0) = false := beq_eq_false_iff_ne.mpr c5
   have c5b1 : (a0_0 != a1_0) = true := bne_iff_ne.mpr c5
   obtain rfl := Option.some.inj H
   go_enter Try.func20, Try.ntmps20
   go_wp2_with (first | ((with_reducible refine gate_dst (N := 2) rfl ?_); refine box_event ?hg (N := 2) ?hd (cs := #[.int .i64 a0_0, .int .i64 a0_1, .slice A0_2 l0_2.length c0_2]) (t := 28) ?hr ?_; (case hd => rfl); (case hg => rfl); (case hr => first | (go_simp; done) | (go_simp; rfl)); intro gb349 hg w11 hbox hb; have BK349 := am (hbox); have GW349 := zsz hg (zc0 HB); have GE349 := zsz hg (zc0 HB); replace HB := am (below_step (zc0 HB) hb); clear hb hbox hg) | ((with_reducible refine gate_dst (N := 3) rfl ?_); refine box_event ?hg (N := 3) ?hd (cs := #[.int .i64 a1_0, .int .i64 a1_1, .slice A1_2 l1_2.length c1_2]) (t := 28) ?hr ?_; (case hd => rfl); (case hg => rfl); (case hr => first | (go_simp; done) | (go_simp; rfl)); intro gb350 hg w12 hbox hb; have BK350 := am (hbox); have GW350 := zsz hg (zc1 HB GE349); have GE350 := zsz hg (zc1 HB GE349); replace HB := am (below_step (zc1 HB GE349) hb); have NB349_350 := znt BK349 hg; have NB350_349 := zng BK349 hg; replace BK349 := zbb BK349 hb; clear hb hbox hg; have hnb13 := NB349_350.out; have hnc13 := NB350_349.out; have hcz14_0 : w12.cell? ⟨gb349, 0, none⟩ = some (.int .i64 a0_0) := (blk_cell BK349.out 0).trans rfl; have hcz14_1 : w12.cell? ⟨gb349, 1, none⟩ = some (.int .i64 a0_1) := (blk_cell BK349.out 1).trans rfl; have hcz14_2 : w12.cell? ⟨gb349, 2, none⟩ = some (.slice A0_2 l0_2.length c0_2) := (blk_cell BK349.out 2).trans rfl; have hfz14_0 := blk_frozen BK349.out 0; have hfz14_1 := blk_frozen BK349.out 1; have hfz14_2 := blk_frozen BK349.out 2; have hcz15_0 : w12.cell? ⟨gb350, 0, none⟩ = some (.int .i64 a1_0) := (blk_cell BK350.out 0).trans rfl; have hcz15_1 : w12.cell? ⟨gb350, 1, none⟩ = some (.int .i64 a1_1) := (blk_cell BK350.out 1).trans rfl; have hcz15_2 : w12.cell? ⟨gb350, 2, none⟩ = some (.slice A1_2 l1_2.length c1_2) := (blk_cell BK350.out 2).trans rfl; have hfz15_0 := blk_frozen BK350.out 0; have hfz15_1 := blk_frozen BK350.out 1; have hfz15_2 := blk_frozen BK350.out 2) | ((with_reducible refine gate_callee (f := 21) rfl ?_); refine goesL_ (some 10) rfl rfl Try.func21 (by kernel_rfl) rfl #[.slice A0_2 l0_2.length c0_2, .slice A1_2 l1_2.length c1_2] rfl zm ?_; (with_reducible refine (handshakerref18_List.calls k _ _ l0_2 _ _ l1_2 true _ ?side1 ?side2 ?side3 ?side4 A3.out).mono ?_); (case side1 => repeat (first | exact (Kd.C_below HR0_2.out HB.out) | (with_reducible refine Kd.C_alloc ?_ _) | (with_reducible refine Kd.C_drewN ?_ _) | (with_reducible refine Kd.C_drew ?_))); (case side2 => exact HC0_2.out); (case side3 => repeat (first | exact (Kd.C_below HR1_2.out HB.out) | (with_reducible refine Kd.C_alloc ?_ _) | (with_reducible refine Kd.C_drewN ?_ _) | (with_reducible refine Kd.C_drew ?_))); (case side4 => exact HC1_2.out); rintro e w' ⟨rfl, ⟨nd, rfl⟩⟩; refine ⟨_, rfl, ?_⟩))
   go_ret
   exact ⟨by first | rfl | (simp [errW_none, errW_some] <;> rfl) | (simp [*, errW_none, errW_some] <;> rfl), by repeat (first | (with_reducible first | exact HB.out | apply below_alloc | apply pw_below_drewN | apply below_drew1 | refine below_set ?_ GE349.out | refine below_set ?_ GE350.out) | exact HB.out)⟩
 ·replace c4 := Bool.eq_false_iff.mpr c4
  subst c4
  have H1 : (some false) = some r := by rw [if_neg (show ¬ (false = true) by decide)] at H; exact H
  clear H
  have H := H1
  clear H1
  obtain rfl := Option.some.inj H
  go_enter Try.func20, Try.ntmps20
  go_wp2_with (first | ((with_reducible refine gate_dst (N := 2) rfl ?_); refine box_event ?hg (N := 2) ?hd (cs := #[.int .i64 a0_0, .int .i64 a0_1, .slice A0_2 l0_2.length c0_2]) (t := 28) ?hr ?_; (case hd => rfl); (case hg => rfl); (case hr => first | (go_simp; done) | (go_simp; rfl)); intro gb349 hg w16 hbox hb; have BK349 := am (hbox); have GW349 := zsz hg (zc0 HB); have GE349 := zsz hg (zc0 HB); replace HB := am (below_step (zc0 HB) hb); clear hb hbox hg) | ((with_reducible refine gate_dst (N := 3) rfl ?_); refine box_event ?hg (N := 3) ?hd (cs := #[.int .i64 a1_0, .int .i64 a1_1, .slice A1_2 l1_2.length c1_2]) (t := 28) ?hr ?_; (case hd => rfl); (case hg => rfl); (case hr => first | (go_simp; done) | (go_simp; rfl)); intro gb350 hg w17 hbox hb; have BK350 := am (hbox); have GW350 := zsz hg (zc1 HB GE349); have GE350 := zsz hg (zc1 HB GE349); replace HB := am (below_step (zc1 HB GE349) hb); have NB349_350 := znt BK349 hg; have NB350_349 := zng BK349 hg; replace BK349 := zbb BK349 hb; clear hb hbox hg; have hnb18 := NB349_350.out; have hnc18 := NB350_349.out; have hcz19_0 : w17.cell? ⟨gb349, 0, none⟩ = some (.int .i64 a0_0) := (blk_cell BK349.out 0).trans rfl; have hcz19_1 : w17.cell? ⟨gb349, 1, none⟩ = some (.int .i64 a0_1) := (blk_cell BK349.out 1).trans rfl; have hcz19_2 : w17.cell? ⟨gb349, 2, none⟩ = some (.slice A0_2 l0_2.length c0_2) := (blk_cell BK349.out 2).trans rfl; have hfz19_0 := blk_frozen BK349.out 0; have hfz19_1 := blk_frozen BK349.out 1; have hfz19_2 := blk_frozen BK349.out 2; have hcz20_0 : w17.cell? ⟨gb350, 0, none⟩ = some (.int .i64 a1_0) := (blk_cell BK350.out 0).trans rfl; have hcz20_1 : w17.cell? ⟨gb350, 1, none⟩ = some (.int .i64 a1_1) := (blk_cell BK350.out 1).trans rfl; have hcz20_2 : w17.cell? ⟨gb350, 2, none⟩ = some (.slice A1_2 l1_2.length c1_2) := (blk_cell BK350.out 2).trans rfl; have hfz20_0 := blk_frozen BK350.out 0; have hfz20_1 := blk_frozen BK350.out 1; have hfz20_2 := blk_frozen BK350.out 2) | ((with_reducible refine gate_callee (f := 21) rfl ?_); refine goesL_ (some 10) rfl rfl Try.func21 (by kernel_rfl) rfl #[.slice A0_2 l0_2.length c0_2, .slice A1_2 l1_2.length c1_2] rfl zm ?_; (with_reducible refine (handshakerref18_List.calls k _ _ l0_2 _ _ l1_2 false _ ?side1 ?side2 ?side3 ?side4 A3.out).mono ?_); (case side1 => repeat (first | exact (Kd.C_below HR0_2.out HB.out) | (with_reducible refine Kd.C_alloc ?_ _) | (with_reducible refine Kd.C_drewN ?_ _) | (with_reducible refine Kd.C_drew ?_))); (case side2 => exact HC0_2.out); (case side3 => repeat (first | exact (Kd.C_below HR1_2.out HB.out) | (with_reducible refine Kd.C_alloc ?_ _) | (with_reducible refine Kd.C_drewN ?_ _) | (with_reducible refine Kd.C_drew ?_))); (case side4 => exact HC1_2.out); rintro e w' ⟨rfl, ⟨nd, rfl⟩⟩; refine ⟨_, rfl, ?_⟩))
  go_ret
  exact ⟨by first | rfl | (simp [errW_none, errW_some] <;> rfl) | (simp [*, errW_none, errW_some] <;> rfl), by repeat (first | (with_reducible first | exact HB.out | apply below_alloc | apply pw_below_drewN | apply below_drew1 | refine below_set ?_ GE349.out | refine below_set ?_ GE350.out) | exact HB.out)⟩

end Go.Proofs.Ythbcajkphkdnmaa.PSemaTells
