/- Lean functions that say what functions of the given program compute, and proofs by walking the code that each call does just that; no condition but those that each statement names. -/
import Derived.Test.YthbcajkphkdnmaaPSemaCountsx0
import Derived.Test.YthbcajkphkdnmaaPSemaCountsx3
import Derived.Test.YthbcajkphkdnmaaPSemaCountsx5
import Derived.Test.YthbcajkphkdnmaaPSemaCountsx7
import Derived.Test.YthbcajkphkdnmaaPSemaCountsx8
namespace Go.Proofs.Ythbcajkphkdnmaa.PSemaCounts
open Go.RowKit Go.Proofs.YthbcajkphkdnmaaW.PrintWords Go.Proofs.YthbcajkphkdnmaaW.PrintLast Go.Proofs.YthbcajkphkdnmaaW.PrintMore
attribute [local go_sem] max2_int min2_int max_two min_two max_three min_three max_four min_four   -- for this text's walks alone
set_option linter.unusedVariables false
set_option linter.unusedSimpArgs false

/-! ### handshakerlaw18_SemaCounts: function 4 -/
mutual
def handshakerlaw18_SemaCounts.l0 : Nat → Int → Int → Int → List (S49) → Int → Int → Int → Int → List (S50) → Option (Bool)
 | 0, _, _, _, _, _, _, _, _, _ => none
 | k + 1, x5, x7, x8, x34, x35, x36, x259000, x259001, x259002 => if x36 < x35 then (if 0 ≤ x36 then (if x36 < (x34.length : Int) then (if ((rd_T49 x34 x36).f0) = 0 then ((sema_Give.f k x259000 x259001 x259002 ((rd_T49 x34 x36).f1)).bind fun bt262 => (if bt262.2.2.2.2 = 0 then (handshakerlaw18_SemaCounts.j1 k x5 x7 (wrap64 (x8 - ((rd_T49 x34 x36).f1))) bt262.2.2.2.1 x34 x35 x36 bt262.1 bt262.2.1 bt262.2.2.1) else (handshakerlaw18_SemaCounts.j1 k x5 x7 x8 bt262.2.2.2.1 x34 x35 x36 bt262.1 bt262.2.1 bt262.2.2.1))) else (if ((rd_T49 x34 x36).f1) = 0 then ((sema_Leave.f k x259000 x259001 x259002 ((rd_T49 x34 x36).f0)).bind fun bt272 => (handshakerlaw18_SemaCounts.j1 k x5 x7 x8 bt272.2.2.2.1 x34 x35 x36 bt272.1 bt272.2.1 bt272.2.2.1)) else ((sema_Take.f k x259000 x259001 x259002 ((rd_T49 x34 x36).f0) ((rd_T49 x34 x36).f1)).bind fun bt281 => (if bt281.2.2.2.1 = true then (handshakerlaw18_SemaCounts.j1 k x5 x7 (wrap64 (x8 + ((rd_T49 x34 x36).f1))) ([] : List (S50)) x34 x35 x36 bt281.1 bt281.2.1 bt281.2.2.1) else (handshakerlaw18_SemaCounts.j1 k x5 x7 x8 ([] : List (S50)) x34 x35 x36 bt281.1 bt281.2.1 bt281.2.2.1))))) else (none)) else (none)) else (if x7 = 0 then ((handshakerlaw18_awake.f k).bind fun t259 => (some t259)) else (none))
def handshakerlaw18_SemaCounts.j1 : Nat → Int → Int → Int → List (S50) → List (S49) → Int → Int → Int → Int → List (S50) → Option (Bool)
 | 0, _, _, _, _, _, _, _, _, _, _ => none
 | k + 1, x5, x7, x8, x11, x34, x35, x36, x259000, x259001, x259002 => handshakerlaw18_SemaCounts.l1 k x5 x7 x8 x34 x35 x36 x11 (x11.length : Int) 0 x259000 x259001 x259002
def handshakerlaw18_SemaCounts.l1 : Nat → Int → Int → Int → List (S49) → Int → Int → List (S50) → Int → Int → Int → Int → List (S50) → Option (Bool)
 | 0, _, _, _, _, _, _, _, _, _, _, _, _ => none
 | k + 1, x5, x7, x8, x34, x35, x36, x88, x89, x90, x259000, x259001, x259002 => if x90 < x89 then (if 0 ≤ x90 then (if x90 < (x88.length : Int) then (handshakerlaw18_SemaCounts.l1 k x5 x7 (wrap64 (x8 + ((rd_T50 x88 x90).f1))) x34 x35 x36 x88 x89 (wrap64 (x90 + 1)) x259000 x259001 x259002) else (none)) else (none)) else ((sema_Right.f k x259000 x259001 x259002).bind fun t291 => (if t291 = true then (if (wrap64 (x259001 + x8)) = x5 then (if x259000 = x5 then (handshakerlaw18_SemaCounts.l0 k x5 x7 x8 x34 x35 (wrap64 (x36 + 1)) x259000 x259001 x259002) else (none)) else (none)) else (none)))
end
def handshakerlaw18_SemaCounts.f (k : Nat) (a0 : Int) (l1 : List (S49)) : Option (Bool) := if (l1.length : Int) > 60 then ((handshakerlaw18_awake.f k).bind fun t251 => (some t251)) else ((sema_New.f k (wrap64 (1 + (wrap64 (Int.tmod a0 100)))) (wrap64 (1 + (wrap64 (Int.tmod a0 100))))).bind fun bt252 => (handshakerlaw18_SemaCounts.l0 k (wrap64 (1 + (wrap64 (Int.tmod a0 100)))) bt252.2.2.2 0 l1 (l1.length : Int) 0 bt252.1 bt252.2.1 bt252.2.2.1))
theorem handshakerlaw18_SemaCounts.mono_l : ∀ k, (∀ y0 y1 y2 y3 y4 y5 y6 y7 y8, LeO (handshakerlaw18_SemaCounts.l0 k y0 y1 y2 y3 y4 y5 y6 y7 y8) (handshakerlaw18_SemaCounts.l0 (k + 1) y0 y1 y2 y3 y4 y5 y6 y7 y8)) ∧ (∀ y0 y1 y2 y3 y4 y5 y6 y7 y8 y9, LeO (handshakerlaw18_SemaCounts.j1 k y0 y1 y2 y3 y4 y5 y6 y7 y8 y9) (handshakerlaw18_SemaCounts.j1 (k + 1) y0 y1 y2 y3 y4 y5 y6 y7 y8 y9)) ∧ (∀ y0 y1 y2 y3 y4 y5 y6 y7 y8 y9 y10 y11, LeO (handshakerlaw18_SemaCounts.l1 k y0 y1 y2 y3 y4 y5 y6 y7 y8 y9 y10 y11) (handshakerlaw18_SemaCounts.l1 (k + 1) y0 y1 y2 y3 y4 y5 y6 y7 y8 y9 y10 y11))
 | 0 => ⟨fun _ _ _ _ _ _ _ _ _ r h => by simp [handshakerlaw18_SemaCounts.l0] at h, fun _ _ _ _ _ _ _ _ _ _ r h => by simp [handshakerlaw18_SemaCounts.j1] at h, fun _ _ _ _ _ _ _ _ _ _ _ _ r h => by simp [handshakerlaw18_SemaCounts.l1] at h⟩
 | k + 1 => by
  obtain ⟨ih0, ih1, ih2⟩ := handshakerlaw18_SemaCounts.mono_l k
  refine ⟨?_, ?_, ?_⟩
  ·intro y0 y1 y2 y3 y4 y5 y6 y7 y8
   unfold handshakerlaw18_SemaCounts.l0
   repeat' first
   | (with_reducible exact ih0 _ _ _ _ _ _ _ _ _)
   | (with_reducible exact ih1 _ _ _ _ _ _ _ _ _ _)
   | (with_reducible exact ih2 _ _ _ _ _ _ _ _ _ _ _ _)
   | (with_reducible exact handshakerlaw18_awake.mono _)
   | (with_reducible exact sema_Give.mono _ _ _ _ _)
   | (with_reducible exact sema_Leave.mono _ _ _ _ _)
   | (with_reducible exact sema_New.mono _ _ _)
   | (with_reducible exact sema_Right.mono _ _ _ _)
   | (with_reducible exact sema_Take.mono _ _ _ _ _ _)
   | (with_reducible exact LeO.refl _)
   | (with_reducible exact LeO.none _)
   | (with_reducible refine LeO.ite ?_ ?_)
   | (with_reducible refine LeO.bind ?_ (fun _ => ?_))
   | exact ih0 _ _ _ _ _ _ _ _ _
   | exact ih1 _ _ _ _ _ _ _ _ _ _
   | exact ih2 _ _ _ _ _ _ _ _ _ _ _ _
   | exact handshakerlaw18_awake.mono _
   | exact sema_Give.mono _ _ _ _ _
   | exact sema_Leave.mono _ _ _ _ _
   | exact sema_New.mono _ _ _
   | exact sema_Right.mono _ _ _ _
   | exact sema_Take.mono _ _ _ _ _ _
   | exact LeO.none _
   | refine LeO.ite ?_ ?_
   | refine LeO.bind ?_ (fun _ => ?_)
  ·intro y0 y1 y2 y3 y4 y5 y6 y7 y8 y9
   unfold handshakerlaw18_SemaCounts.j1
   repeat' first
   | (with_reducible exact ih0 _ _ _ _ _ _ _ _ _)
   | (with_reducible exact ih1 _ _ _ _ _ _ _ _ _ _)
   | (with_reducible exact ih2 _ _ _ _ _ _ _ _ _ _ _ _)
   | (with_reducible exact handshakerlaw18_awake.mono _)
   | (with_reducible exact sema_Give.mono _ _ _ _ _)
   | (with_reducible exact sema_Leave.mono _ _ _ _ _)
   | (with_reducible exact sema_New.mono _ _ _)
   | (with_reducible exact sema_Right.mono _ _ _ _)
   | (with_reducible exact sema_Take.mono _ _ _ _ _ _)
   | (with_reducible exact LeO.refl _)
   | (with_reducible exact LeO.none _)
   | (with_reducible refine LeO.ite ?_ ?_)
   | (with_reducible refine LeO.bind ?_ (fun _ => ?_))
   | exact ih0 _ _ _ _ _ _ _ _ _
   | exact ih1 _ _ _ _ _ _ _ _ _ _
   | exact ih2 _ _ _ _ _ _ _ _ _ _ _ _
   | exact handshakerlaw18_awake.mono _
   | exact sema_Give.mono _ _ _ _ _
   | exact sema_Leave.mono _ _ _ _ _
   | exact sema_New.mono _ _ _
   | exact sema_Right.mono _ _ _ _
   | exact sema_Take.mono _ _ _ _ _ _
   | exact LeO.none _
   | refine LeO.ite ?_ ?_
   | refine LeO.bind ?_ (fun _ => ?_)
  ·intro y0 y1 y2 y3 y4 y5 y6 y7 y8 y9 y10 y11
   unfold handshakerlaw18_SemaCounts.l1
   repeat' first
   | (with_reducible exact ih0 _ _ _ _ _ _ _ _ _)
   | (with_reducible exact ih1 _ _ _ _ _ _ _ _ _ _)
   | (with_reducible exact ih2 _ _ _ _ _ _ _ _ _ _ _ _)
   | (with_reducible exact handshakerlaw18_awake.mono _)
   | (with_reducible exact sema_Give.mono _ _ _ _ _)
   | (with_reducible exact sema_Leave.mono _ _ _ _ _)
   | (with_reducible exact sema_New.mono _ _ _)
   | (with_reducible exact sema_Right.mono _ _ _ _)
   | (with_reducible exact sema_Take.mono _ _ _ _ _ _)
   | (with_reducible exact LeO.refl _)
   | (with_reducible exact LeO.none _)
   | (with_reducible refine LeO.ite ?_ ?_)
   | (with_reducible refine LeO.bind ?_ (fun _ => ?_))
   | exact ih0 _ _ _ _ _ _ _ _ _
   | exact ih1 _ _ _ _ _ _ _ _ _ _
   | exact ih2 _ _ _ _ _ _ _ _ _ _ _ _
   | exact handshakerlaw18_awake.mono _
   | exact sema_Give.mono _ _ _ _ _
   | exact sema_Leave.mono _ _ _ _ _
   | exact sema_New.mono _ _ _
   | exact sema_Right.mono _ _ _ _
   | exact sema_Take.mono _ _ _ _ _ _
   | exact LeO.none _
   | refine LeO.ite ?_ ?_
   | refine LeO.bind ?_ (fun _ => ?_)
theorem handshakerlaw18_SemaCounts.mono : ∀ a0 a1 k, LeO (handshakerlaw18_SemaCounts.f k a0 a1) (handshakerlaw18_SemaCounts.f (k + 1) a0 a1) := by
 intro a0 a1 k
 obtain ⟨ih0, ih1, ih2⟩ := handshakerlaw18_SemaCounts.mono_l k
 unfold handshakerlaw18_SemaCounts.f
 repeat' first
   | (with_reducible exact ih0 _ _ _ _ _ _ _ _ _)
   | (with_reducible exact ih1 _ _ _ _ _ _ _ _ _ _)
   | (with_reducible exact ih2 _ _ _ _ _ _ _ _ _ _ _ _)
   | (with_reducible exact handshakerlaw18_awake.mono _)
   | (with_reducible exact sema_Give.mono _ _ _ _ _)
   | (with_reducible exact sema_Leave.mono _ _ _ _ _)
   | (with_reducible exact sema_New.mono _ _ _)
   | (with_reducible exact sema_Right.mono _ _ _ _)
   | (with_reducible exact sema_Take.mono _ _ _ _ _ _)
   | (with_reducible exact LeO.refl _)
   | (with_reducible exact LeO.none _)
   | (with_reducible refine LeO.ite ?_ ?_)
   | (with_reducible refine LeO.bind ?_ (fun _ => ?_))
   | exact ih0 _ _ _ _ _ _ _ _ _
   | exact ih1 _ _ _ _ _ _ _ _ _ _
   | exact ih2 _ _ _ _ _ _ _ _ _ _ _ _
   | exact handshakerlaw18_awake.mono _
   | exact sema_Give.mono _ _ _ _ _
   | exact sema_Leave.mono _ _ _ _ _
   | exact sema_New.mono _ _ _
   | exact sema_Right.mono _ _ _ _
   | exact sema_Take.mono _ _ _ _ _ _
   | exact LeO.none _
   | refine LeO.ite ?_ ?_
   | refine LeO.bind ?_ (fun _ => ?_)
set_option maxHeartbeats 8000000 in
set_option maxRecDepth 100000 in
theorem handshakerlaw18_SemaCounts.calls (k : Nat) (a0 : Int) (A1 : Option Addr) (c1 : Nat) (l1 : List (S49)) (r : Bool) (w : World) (hr1 : Kd.C k49 w A1 l1.length l1) (hc1 : l1.length ≤ c1) (h : handshakerlaw18_SemaCounts.f k a0 l1 = some r) :
  Calls Try.prog 4 #[.int .u8 a0, .slice A1 l1.length c1] w fun e w' => e = .returned (.bool r) ∧ Below w.heap.size w w' := by
 have hu24 := Try.underlying24
 have hu49 := Try.underlying49
 have hu50 := Try.underlying50
 have HR1 := Aside0.mk hr1
 have HC1 := Aside0.mk hc1
 clear hr1 hc1
 have HB := Aside0.mk (Below.refl w.heap.size w)
 have H : (if (l1.length : Int) > 60 then ((handshakerlaw18_awake.f k).bind fun t251 => (some t251)) else ((sema_New.f k (wrap64 (1 + (wrap64 (Int.tmod a0 100)))) (wrap64 (1 + (wrap64 (Int.tmod a0 100))))).bind fun bt252 => (handshakerlaw18_SemaCounts.l0 k (wrap64 (1 + (wrap64 (Int.tmod a0 100)))) bt252.2.2.2 0 l1 (l1.length : Int) 0 bt252.1 bt252.2.1 bt252.2.2.1))) = some r := h
 clear h
 by_cases c3 : (l1.length : Int) > 60
 ·rw [if_pos c3] at H
  have c3b0 : decide (60 < (l1.length : Int)) = true := decide_eq_true c3
  have c3b1 : decide (60 < l1.length) = true := decide_eq_true (by omega)
  clear c3
  replace H := Option.bind_eq_some_iff.mp H
  obtain ⟨t251, A40, H⟩ := H
  replace H : (some t251) = some r := H
  have A4 := Aside0.mk A40
  clear A40
  obtain rfl := Option.some.inj H
  go_enter Try.func4, Try.ntmps4
  go_wp2_with (first | ((with_reducible refine gate_callee (f := 9) rfl ?_); refine goesL_ (some 23) rfl rfl Try.func9 (by kernel_rfl) rfl #[] rfl zm ?_; (with_reducible refine (handshakerlaw18_awake.calls k  t251 _ A4.out).mono ?_); rintro e w5 ⟨rfl, hb⟩; refine ⟨_, rfl, ?_⟩; have n0_ := Aside0.mk (below_step (zc0 HB) hb); clear HB; have HB := n0_; clear n0_; (try clear hb); (try clear hb2); (try clear hk); (try clear hi)))
  go_ret
  exact ⟨by first | rfl | (simp [errW_none, errW_some] <;> rfl) | (simp [*, errW_none, errW_some] <;> rfl), by repeat (first | (with_reducible first | exact HB.out | apply below_alloc | apply pw_below_drewN | apply below_drew1) | exact HB.out)⟩
 ·rw [if_neg c3] at H
  have c3b0 : decide (60 < (l1.length : Int)) = false := decide_eq_false c3
  have c3b1 : decide (60 < l1.length) = false := decide_eq_false (by omega)
  clear c3
  replace H := Option.bind_eq_some_iff.mp H
  obtain ⟨⟨t252, t253, t254, t257⟩, A60, H⟩ := H
  replace H : (handshakerlaw18_SemaCounts.l0 k (wrap64 (1 + (wrap64 (Int.tmod a0 100)))) t257 0 l1 (l1.length : Int) 0 t252 t253 t254) = some r := H
  have A6 := Aside0.mk A60
  clear A60
  have H' := Aside0.mk H
  clear H
  go_enter Try.func4, Try.ntmps4
  go_wp2_with (first | ((with_reducible refine gate_callee (f := 17) rfl ?_); refine goesL_ (some 31) rfl rfl Try.func17 (by kernel_rfl) rfl #[.int .i64 (wrap64 (1 + (wrap64 (Int.tmod a0 100)))), .int .i64 (wrap64 (1 + (wrap64 (Int.tmod a0 100))))] rfl zm ?_; (with_reducible refine (sema_New.calls k (wrap64 (1 + (wrap64 (Int.tmod a0 100)))) (wrap64 (1 + (wrap64 (Int.tmod a0 100)))) t252 t253 t254 t257 _ A6.out).mono ?_); rintro e w7 ⟨v255, rfl, ho0, hb⟩; refine ⟨_, rfl, ?_⟩; have n0_ := Aside0.mk (Kd.R_lower ho0 (below_size (zc0 HB))); have n1_ := Aside0.mk (below_step (zc0 HB) hb); clear HB; have HO256 := n0_; have HB := n1_; clear n0_ n1_; (try clear hb); (try clear hb2); (try clear hk); (try clear hi); (try clear ho0)) | ((with_reducible refine gate_dst (N := 6) rfl ?_); refine box_event ?hg (N := 6) ?hd (cs := #[.int .i64 0, .int .i64 0, .slice none 0 0]) (t := 24) ?hr ?_; (case hd => rfl); (case hg => rfl); (case hr => first | (go_simp; done) | (go_simp; rfl)); intro gb258 hg w8 hbox hb; have n0_ := Aside0.mk (Kd.R_below (zR HO256) hb); have n1_ := Aside0.mk (below_step (zc0 HB) hb); have n2_ := Aside0.mk (hbox); have n3_ := Aside0.mk ((by rw [hg]; exact (below_size (zc0 HB)) : w.heap.size ≤ gb258)); have n4_ := Aside0.mk ((by rw [hg]; exact (below_size (zc0 HB)) : w.heap.size ≤ gb258)); clear HO256; clear HB; have HO256 := n0_; have HB := n1_; have BK258 := n2_; have GW258 := n3_; have GE258 := n4_; clear n0_ n1_ n2_ n3_ n4_; clear hb hbox hg; have hcz9_0 : w8.cell? ⟨gb258, 0, none⟩ = some (.int .i64 0) := (blk_cell BK258.out 0).trans rfl; have hcz9_1 : w8.cell? ⟨gb258, 1, none⟩ = some (.int .i64 0) := (blk_cell BK258.out 1).trans rfl; have hcz9_2 : w8.cell? ⟨gb258, 2, none⟩ = some (.slice none 0 0) := (blk_cell BK258.out 2).trans rfl; have hfz9_0 := blk_frozen BK258.out 0; have hfz9_1 := blk_frozen BK258.out 1; have hfz9_2 := blk_frozen BK258.out 2; obtain ⟨Ao10, co10, eo10⟩ := Kd.R_slice HO256.out; subst eo10))
  go_loopg [8, 36] k (fun kq v8 v36 w' => ∃ (x8_1 : Int) (x36_1 : Int) (x259000_1 : Int) (x259001_1 : Int) (x259002_1 : List (S50)) (u259002 : Value), v8 = .int .i64 x8_1 ∧ v36 = .int .i64 x36_1 ∧ Aside0 (handshakerlaw18_SemaCounts.l0 kq (wrap64 (1 + (wrap64 (Int.tmod a0 100)))) t257 x8_1 l1 (l1.length : Int) x36_1 x259000_1 x259001_1 x259002_1 = some r) ∧ Aside0 (kq ≤ k) ∧ Aside0 (Kd.V k50 50 w' w.heap.size (fun k_ => k_ ≠ gb258) u259002 x259002_1) ∧ Aside0 (w'.heap[gb258]? = some (.cells #[.int .i64 x259000_1, .int .i64 x259001_1, u259002] 24 (0, 0))) ∧ Aside0 (Below w.heap.size w w'))
  case atStart => exact ⟨(0), (0), (t252), (t253), (t254), (.slice Ao10 t254.length co10), (by first | rfl | (simp; done) | (simp [*]; done)), (by first | rfl | (simp; done) | (simp [*]; done)), H', ⟨Nat.le_refl _⟩, ⟨Kd.R_V (by (with_reducible repeat (first | apply Kd.R_alloc | apply Kd.R_drewN | apply Kd.R_drew)); exact Kd.R_mono (Kd.R_far (p := ⟨gb258, 2, none⟩) (Kd.R_far (p := ⟨gb258, 1, none⟩) (Kd.R_far (p := ⟨gb258, 0, none⟩) (Kd.R_types (Kd.R_types HO256.out BK258.out (by decide)) BK258.out (by decide)) (fun _ hk => hk.2) (.int .i64 t252)) (fun _ hk => hk.2) (.int .i64 t253)) (fun _ hk => hk.2) (.slice Ao10 t254.length co10)) (fun _ hk => hk.1.2))⟩, ⟨by (with_reducible repeat (first | refine blk_drewN ?_ _ | refine blk_drew ?_ | refine blk_alloc ?_ _)); refine blk_put (cs := #[.int .i64 t252, .int .i64 t253, .slice none 0 0]) ?_ 2 _ rfl; (with_reducible repeat (first | refine blk_drewN ?_ _ | refine blk_drew ?_ | refine blk_alloc ?_ _)); refine blk_put (cs := #[.int .i64 t252, .int .i64 0, .slice none 0 0]) ?_ 1 _ rfl; (with_reducible repeat (first | refine blk_drewN ?_ _ | refine blk_drew ?_ | refine blk_alloc ?_ _)); refine blk_put (cs := #[.int .i64 0, .int .i64 0, .slice none 0 0]) ?_ 0 _ rfl; (with_reducible repeat (first | refine blk_drewN ?_ _ | refine blk_drew ?_ | refine blk_alloc ?_ _)); exact BK258.out⟩, ⟨by repeat (first | (with_reducible first | exact HB.out | apply below_alloc | apply pw_below_drewN | apply below_drew1 | refine below_set ?_ GE258.out) | exact HB.out)⟩⟩
  case round =>
   clear H'
   try clear c1
   try clear p2
   try clear c3
   try clear c3b0
   try clear c3b1
   try clear c4
   try clear p6
   try clear c9
   try clear hcz9_0
   try clear hcz9_1
   try clear hcz9_2
   try clear hfz9_0
   try clear hfz9_1
   try clear hfz9_2
   obtain ⟨x8_1, x36_1, x259000_1, x259001_1, x259002_1, u259002, rfl, rfl, HA, HK1, HO_259002, BK258, HB⟩ := hrel
   cases gk with
   | zero => exact absurd HA.out (by simp [handshakerlaw18_SemaCounts.l0])
   | succ k1 =>
    have H := HA.out
    clear HA
    simp only [handshakerlaw18_SemaCounts.l0] at H
    by_cases c11 : x36_1 < (l1.length : Int)
    ·rw [if_pos c11] at H
     have c11b0 : decide (x36_1 < (l1.length : Int)) = true := decide_eq_true c11
     clear c11
     by_cases c12 : 0 ≤ x36_1
     ·rw [if_pos c12] at H
      have c12b0 : decide (0 ≤ x36_1) = true := decide_eq_true c12
      clear c12
      by_cases c13 : x36_1 < (l1.length : Int)
      ·rw [if_pos c13] at H
       have c13b0 : decide (x36_1 < (l1.length : Int)) = true := decide_eq_true c13
       clear c13
       have HC14 := Aside0.mk H
       clear H
       have p260 : 0 ≤ (x36_1 : Int) := of_decide_eq_true (by first | (with_reducible assumption) | assumption)
       have q260 : x36_1 < (l1.length : Int) := of_decide_eq_true (by first | (with_reducible assumption) | assumption)
       obtain ⟨ad260, e260, hx260_0, hx260_1⟩ := at_T49 HR1.out x36_1 p260 q260
       cases e260
       replace hx260_0 := (HB.out.cell (World.block_lt_of_cell? w _ hx260_0)).trans hx260_0
       replace hx260_1 := (HB.out.cell (World.block_lt_of_cell? w _ hx260_1)).trans hx260_1
       replace p260 := eq_true p260
       replace q260 := eq_true q260
       go_upto_block 2 with (first | ((with_reducible refine gate_dst (N := 10) rfl ?_); refine box_event ?hg (N := 10) ?hd (cs := #[.int .i64 0, .int .i64 0]) (t := 49) ?hr ?_; (case hd => rfl); (case hg => rfl); (case hr => first | (go_simp; done) | (go_simp; rfl)); intro gb261 hg w15 hbox hb; have n0_ := Aside0.mk (Kd.V_below (Kd.V_elderB (zV HO_259002) gb261 (Nat.le_of_eq hg.symm)) hb); have n1_ := Aside0.mk (blk_below (g := gb258) (o := .cells #[.int .i64 x259000_1, .int .i64 x259001_1, u259002] 24 (0, 0)) (zb BK258) hb); have n2_ := Aside0.mk (below_step (zc1 HB GE258) hb); have n3_ := Aside0.mk (hbox); have n4_ := Aside0.mk ((by rw [hg]; exact (below_size (zc1 HB GE258)) : w.heap.size ≤ gb261)); have n5_ := Aside0.mk ((by rw [hg]; exact (below_size (zc1 HB GE258)) : w.heap.size ≤ gb261)); have n6_ := Aside0.mk ((by rw [hg]; exact Nat.ne_of_lt (blk_lt (g := gb258) (o := .cells #[.int .i64 x259000_1, .int .i64 x259001_1, u259002] 24 (0, 0)) (zb BK258)) : gb258 ≠ gb261)); have n7_ := Aside0.mk ((by rw [hg]; exact Nat.ne_of_gt (blk_lt (g := gb258) (o := .cells #[.int .i64 x259000_1, .int .i64 x259001_1, u259002] 24 (0, 0)) (zb BK258)) : gb261 ≠ gb258)); clear HO_259002; clear BK258; clear HB; have HO_259002 := n0_; have BK258 := n1_; have HB := n2_; have BK261 := n3_; have GW261 := n4_; have GE261 := n5_; have NB258_261 := n6_; have NB261_258 := n7_; clear n0_ n1_ n2_ n3_ n4_ n5_ n6_ n7_; clear hb hbox hg; have hnb16 := NB261_258.out; have hnc16 := NB258_261.out; have hcz17_0 : w15.cell? ⟨gb261, 0, none⟩ = some (.int .i64 0) := (blk_cell BK261.out 0).trans rfl; have hcz17_1 : w15.cell? ⟨gb261, 1, none⟩ = some (.int .i64 0) := (blk_cell BK261.out 1).trans rfl; have hfz17_0 := blk_frozen BK261.out 0; have hfz17_1 := blk_frozen BK261.out 1))
       (try simp only [Act.put, List.setIfInBounds_toArray, List.set_cons_zero, List.set_cons_succ])
       go_cut [8, 11] (fun v8 v11 wc => ∃ (kq : Nat) (x8_13 : Int) (x11_13 : List (S50)) (x259000_13 : Int) (x259001_13 : Int) (x259002_13 : List (S50)) (u259002 : Value), v8 = .int .i64 x8_13 ∧ Aside0 (handshakerlaw18_SemaCounts.j1 kq (wrap64 (1 + (wrap64 (Int.tmod a0 100)))) t257 x8_13 x11_13 l1 (l1.length : Int) x36_1 x259000_13 x259001_13 x259002_13 = some r) ∧ Aside0 (kq ≤ k1) ∧ Aside0 (Kd.R k50 50 wc w.heap.size (fun _ => True) v11 x11_13) ∧ Aside0 (Kd.V k50 50 wc w.heap.size (fun k_ => some k_ ≠ (v11 : Value).ownBlock ∧ k_ ≠ gb258 ∧ k_ ≠ gb261) u259002 x259002_13) ∧ Aside0 (wc.heap[gb258]? = some (.cells #[.int .i64 x259000_13, .int .i64 x259001_13, u259002] 24 (0, 0))) ∧ Aside0 (wc.heap[gb261]? = some (.cells #[.int .i64 ((rd_T49 l1 x36_1).f0), .int .i64 ((rd_T49 l1 x36_1).f1)] 49 (0, 0))) ∧ Aside0 (Below w.heap.size w wc))
       case first =>
        have H := HC14.out
        clear HC14
        by_cases c18 : ((rd_T49 l1 x36_1).f0) = 0
        ·rw [if_pos c18] at H
         have c18b0 : (((rd_T49 l1 x36_1).f0) == 0) = true := beq_iff_eq.mpr c18
         have c18b1 : (((rd_T49 l1 x36_1).f0) != 0) = false := bne_eq_false_iff_eq.mpr c18
         clear c18
         (first | rw [c18b0] | (simp only [i64_w, i32_w]; rw [c18b0]) | skip)
         replace H := Option.bind_eq_some_iff.mp H
         obtain ⟨⟨t262, t263, t264, t267, t270⟩, A190, H⟩ := H
         replace H : (if t270 = 0 then (handshakerlaw18_SemaCounts.j1 k1 (wrap64 (1 + (wrap64 (Int.tmod a0 100)))) t257 (wrap64 (x8_1 - ((rd_T49 l1 x36_1).f1))) t267 l1 (l1.length : Int) x36_1 t262 t263 t264) else (handshakerlaw18_SemaCounts.j1 k1 (wrap64 (1 + (wrap64 (Int.tmod a0 100)))) t257 x8_1 t267 l1 (l1.length : Int) x36_1 t262 t263 t264)) = some r := H
         have A19 := Aside0.mk A190
         clear A190
         by_cases c20 : t270 = 0
         ·rw [if_pos c20] at H
          have c20b0 : (t270 == 0) = true := beq_iff_eq.mpr c20
          have c20b1 : (t270 != 0) = false := bne_eq_false_iff_eq.mpr c20
          clear c20
          have H' := Aside0.mk H
          clear H
          have hnb21 := NB261_258.out
          have hnc21 := NB258_261.out
          have hcz22_0 : w15.cell? ⟨gb261, 0, none⟩ = some (.int .i64 0) := (blk_cell BK261.out 0).trans rfl
          have hcz22_1 : w15.cell? ⟨gb261, 1, none⟩ = some (.int .i64 0) := (blk_cell BK261.out 1).trans rfl
          have hfz22_0 := blk_frozen BK261.out 0
          have hfz22_1 := blk_frozen BK261.out 1
          have hcz23_0 : w15.cell? ⟨gb258, 0, none⟩ = some (.int .i64 x259000_1) := (blk_cell BK258.out 0).trans rfl
          have hcz23_1 : w15.cell? ⟨gb258, 1, none⟩ = some (.int .i64 x259001_1) := (blk_cell BK258.out 1).trans rfl
          have hcz23_2 : w15.cell? ⟨gb258, 2, none⟩ = some (u259002) := (blk_cell BK258.out 2).trans rfl
          have hfz23_0 := blk_frozen BK258.out 0
          have hfz23_1 := blk_frozen BK258.out 1
          have hfz23_2 := blk_frozen BK258.out 2
          obtain ⟨Ao24, co24, eo24⟩ := Kd.V_slice HO_259002.out
          subst eo24
          go_wp2_with (first | ((with_reducible refine gate_callee (f := 13) rfl ?_); refine goesL_ (some 64) rfl rfl Try.func13 (by kernel_rfl) rfl #[.agg #[.int .i64 x259000_1, .int .i64 x259001_1, .slice Ao24 x259002_1.length co24], .int .i64 ((rd_T49 l1 x36_1).f1)] rfl zm ?_; (with_reducible refine (sema_Give.calls k1 x259000_1 x259001_1 (fun k_ => (k_ ≠ gb258 ∧ k_ ≠ gb261)) _ _ x259002_1 ((rd_T49 l1 x36_1).f1) t262 t263 t264 t267 t270 _ ?side1 A19.out).mono ?_); (case side1 => exact (by (with_reducible repeat (first | apply Kd.V_alloc | apply Kd.V_drewN | apply Kd.V_drew)); exact (Kd.V_mono (Kd.V_far (p := ⟨gb261, 1, none⟩) (Kd.V_far (p := ⟨gb261, 0, none⟩) (Kd.V_mono HO_259002.out (fun k_ hk => (⟨hk, hk.2⟩ : _ ∧ k_ ≠ gb261))) (fun _ hk => hk.2) (.int .i64 ((rd_T49 l1 x36_1).f0))) (fun _ hk => hk.2) (.int .i64 ((rd_T49 l1 x36_1).f1))) (fun _ h_ => h_.1)))); rintro e w25 ⟨v265, v268, rfl, ho0, ho1, hb⟩; refine ⟨_, rfl, ?_⟩; have n0_ := Aside0.mk (Kd.V_elder' (by (with_reducible repeat (first | apply Kd.V_alloc | apply Kd.V_drewN | apply Kd.V_drew)); exact (Kd.V_mono (Kd.V_far (p := ⟨gb261, 1, none⟩) (Kd.V_far (p := ⟨gb261, 0, none⟩) (Kd.V_mono HO_259002.out (fun k_ hk => (⟨hk, hk.2⟩ : _ ∧ k_ ≠ gb261))) (fun _ hk => hk.2) (.int .i64 ((rd_T49 l1 x36_1).f0))) (fun _ hk => hk.2) (.int .i64 ((rd_T49 l1 x36_1).f1))) (fun _ h_ => h_.1))) (Kd.R_base ho1) hb); have n1_ := Aside0.mk (Kd.V_lower (Kd.V_mono (ok' := fun k_ => some k_ ≠ (v268 : Value).ownBlock ∧ k_ ≠ gb258 ∧ k_ ≠ gb261) ho0 (fun k_ hk_ => ⟨hk_.2, Or.elim hk_.1 (fun hs_ => hs_.1) (fun hn_ => (Kd.freshB (g := gb258) (o := .cells #[.int .i64 x259000_1, .int .i64 x259001_1, .slice Ao24 x259002_1.length co24] 24 (0, 0)) (by (with_reducible repeat (first | refine blk_drewN ?_ _ | refine blk_drew ?_ | refine blk_alloc ?_ _)); refine blk_far ?_ NB258_261.out _; (with_reducible repeat (first | refine blk_drewN ?_ _ | refine blk_drew ?_ | refine blk_alloc ?_ _)); refine blk_far ?_ NB258_261.out _; (with_reducible repeat (first | refine blk_drewN ?_ _ | refine blk_drew ?_ | refine blk_alloc ?_ _)); exact BK258.out) k_ hn_)), Or.elim hk_.1 (fun hs_ => hs_.2) (fun hn_ => (Kd.freshB (g := gb261) (o := .cells #[.int .i64 ((rd_T49 l1 x36_1).f0), .int .i64 ((rd_T49 l1 x36_1).f1)] 49 (0, 0)) (by (with_reducible repeat (first | refine blk_drewN ?_ _ | refine blk_drew ?_ | refine blk_alloc ?_ _)); refine blk_put (cs := #[.int .i64 ((rd_T49 l1 x36_1).f0), .int .i64 0]) ?_ 1 _ rfl; (with_reducible repeat (first | refine blk_drewN ?_ _ | refine blk_drew ?_ | refine blk_alloc ?_ _)); refine blk_put (cs := #[.int .i64 0, .int .i64 0]) ?_ 0 _ rfl; (with_reducible repeat (first | refine blk_drewN ?_ _ | refine blk_drew ?_ | refine blk_alloc ?_ _)); exact BK261.out) k_ hn_))⟩)) (below_size (zc2 HB GE258 GE261))); have n2_ := Aside0.mk (Kd.R_lower (Kd.R_mono (ok' := fun k_ => True) ho1 (fun _ hk_ => trivial)) (below_size (zc2 HB GE258 GE261))); have n3_ := Aside0.mk (blk_below (g := gb258) (o := .cells #[.int .i64 x259000_1, .int .i64 x259001_1, .slice Ao24 x259002_1.length co24] 24 (0, 0)) (by (with_reducible repeat (first | refine blk_drewN ?_ _ | refine blk_drew ?_ | refine blk_alloc ?_ _)); refine blk_far ?_ NB258_261.out _; (with_reducible repeat (first | refine blk_drewN ?_ _ | refine blk_drew ?_ | refine blk_alloc ?_ _)); refine blk_far ?_ NB258_261.out _; (with_reducible repeat (first | refine blk_drewN ?_ _ | refine blk_drew ?_ | refine blk_alloc ?_ _)); exact BK258.out) hb); have n4_ := Aside0.mk (blk_below (g := gb261) (o := .cells #[.int .i64 ((rd_T49 l1 x36_1).f0), .int .i64 ((rd_T49 l1 x36_1).f1)] 49 (0, 0)) (by (with_reducible repeat (first | refine blk_drewN ?_ _ | refine blk_drew ?_ | refine blk_alloc ?_ _)); refine blk_put (cs := #[.int .i64 ((rd_T49 l1 x36_1).f0), .int .i64 0]) ?_ 1 _ rfl; (with_reducible repeat (first | refine blk_drewN ?_ _ | refine blk_drew ?_ | refine blk_alloc ?_ _)); refine blk_put (cs := #[.int .i64 0, .int .i64 0]) ?_ 0 _ rfl; (with_reducible repeat (first | refine blk_drewN ?_ _ | refine blk_drew ?_ | refine blk_alloc ?_ _)); exact BK261.out) hb); have n5_ := Aside0.mk (below_step (zc2 HB GE258 GE261) hb); clear HO_259002; clear BK258; clear BK261; clear HB; have HO_259002 := n0_; have HO266 := n1_; have HO269 := n2_; have BK258 := n3_; have BK261 := n4_; have HB := n5_; clear n0_ n1_ n2_ n3_ n4_ n5_; (try clear hb); (try clear hb2); (try clear hk); (try clear hi); (try clear ho0); (try clear ho1)) | ((with_reducible refine gate_dst (N := 12) rfl ?_); refine box_event ?hg (N := 12) ?hd (cs := #[.int .i64 0, .int .i64 0, .slice none 0 0]) (t := 24) ?hr ?_; (case hd => rfl); (case hg => rfl); (case hr => first | (go_simp; done) | (go_simp; rfl)); intro gb271 hg w26 hbox hb; have n0_ := Aside0.mk (Kd.V_below (Kd.V_elderB (zV HO_259002) gb271 (Nat.le_of_eq hg.symm)) hb); have n1_ := Aside0.mk (Kd.V_below (Kd.V_elderB (zV HO266) gb271 (Nat.le_of_eq hg.symm)) hb); have n2_ := Aside0.mk (Kd.R_below (zR HO269) hb); have n3_ := Aside0.mk (blk_below (g := gb258) (o := .cells #[.int .i64 x259000_1, .int .i64 x259001_1, .slice Ao24 x259002_1.length co24] 24 (0, 0)) (zb BK258) hb); have n4_ := Aside0.mk (blk_below (g := gb261) (o := .cells #[.int .i64 ((rd_T49 l1 x36_1).f0), .int .i64 ((rd_T49 l1 x36_1).f1)] 49 (0, 0)) (zb BK261) hb); have n5_ := Aside0.mk (below_step (zc2 HB GE258 GE261) hb); have n6_ := Aside0.mk (hbox); have n7_ := Aside0.mk ((by rw [hg]; exact (below_size (zc2 HB GE258 GE261)) : w.heap.size ≤ gb271)); have n8_ := Aside0.mk ((by rw [hg]; exact (below_size (zc2 HB GE258 GE261)) : w.heap.size ≤ gb271)); have n9_ := Aside0.mk ((by rw [hg]; exact Nat.ne_of_lt (blk_lt (g := gb258) (o := .cells #[.int .i64 x259000_1, .int .i64 x259001_1, .slice Ao24 x259002_1.length co24] 24 (0, 0)) (zb BK258)) : gb258 ≠ gb271)); have n10_ := Aside0.mk ((by rw [hg]; exact Nat.ne_of_gt (blk_lt (g := gb258) (o := .cells #[.int .i64 x259000_1, .int .i64 x259001_1, .slice Ao24 x259002_1.length co24] 24 (0, 0)) (zb BK258)) : gb271 ≠ gb258)); have n11_ := Aside0.mk ((by rw [hg]; exact Nat.ne_of_lt (blk_lt (g := gb261) (o := .cells #[.int .i64 ((rd_T49 l1 x36_1).f0), .int .i64 ((rd_T49 l1 x36_1).f1)] 49 (0, 0)) (zb BK261)) : gb261 ≠ gb271)); have n12_ := Aside0.mk ((by rw [hg]; exact Nat.ne_of_gt (blk_lt (g := gb261) (o := .cells #[.int .i64 ((rd_T49 l1 x36_1).f0), .int .i64 ((rd_T49 l1 x36_1).f1)] 49 (0, 0)) (zb BK261)) : gb271 ≠ gb261)); clear HO_259002; clear HO266; clear HO269; clear BK258; clear BK261; clear HB; have HO_259002 := n0_; have HO266 := n1_; have HO269 := n2_; have BK258 := n3_; have BK261 := n4_; have HB := n5_; have BK271 := n6_; have GW271 := n7_; have GE271 := n8_; have NB258_271 := n9_; have NB271_258 := n10_; have NB261_271 := n11_; have NB271_261 := n12_; clear n0_ n1_ n2_ n3_ n4_ n5_ n6_ n7_ n8_ n9_ n10_ n11_ n12_; clear hb hbox hg; have hnb27 := NB271_258.out; have hnc27 := NB258_271.out; have hnb28 := NB271_261.out; have hnc28 := NB261_271.out; have hcz29_0 : w26.cell? ⟨gb271, 0, none⟩ = some (.int .i64 0) := (blk_cell BK271.out 0).trans rfl; have hcz29_1 : w26.cell? ⟨gb271, 1, none⟩ = some (.int .i64 0) := (blk_cell BK271.out 1).trans rfl; have hcz29_2 : w26.cell? ⟨gb271, 2, none⟩ = some (.slice none 0 0) := (blk_cell BK271.out 2).trans rfl; have hfz29_0 := blk_frozen BK271.out 0; have hfz29_1 := blk_frozen BK271.out 1; have hfz29_2 := blk_frozen BK271.out 2; obtain ⟨Ao30, co30, eo30⟩ := Kd.V_slice HO266.out; subst eo30; have hcz31_0 : w26.cell? ⟨gb261, 0, none⟩ = some (.int .i64 ((rd_T49 l1 x36_1).f0)) := (blk_cell BK261.out 0).trans rfl; have hcz31_1 : w26.cell? ⟨gb261, 1, none⟩ = some (.int .i64 ((rd_T49 l1 x36_1).f1)) := (blk_cell BK261.out 1).trans rfl; have hfz31_0 := blk_frozen BK261.out 0; have hfz31_1 := blk_frozen BK261.out 1; have hcz32_0 : w26.cell? ⟨gb258, 0, none⟩ = some (.int .i64 x259000_1) := (blk_cell BK258.out 0).trans rfl; have hcz32_1 : w26.cell? ⟨gb258, 1, none⟩ = some (.int .i64 x259001_1) := (blk_cell BK258.out 1).trans rfl; have hcz32_2 : w26.cell? ⟨gb258, 2, none⟩ = some (.slice Ao24 x259002_1.length co24) := (blk_cell BK258.out 2).trans rfl; have hfz32_0 := blk_frozen BK258.out 0; have hfz32_1 := blk_frozen BK258.out 1; have hfz32_2 := blk_frozen BK258.out 2))
          go_meet
          case rel => exact ⟨_, (wrap64 (x8_1 - ((rd_T49 l1 x36_1).f1))), (t267), (t262), (t263), (t264), (.slice Ao30 t264.length co30), (by first | rfl | (simp; done) | (simp [*]; done)), H', ⟨by have := HK1.out; first | omega | exact Nat.le_refl _⟩, ⟨by (with_reducible repeat (first | apply Kd.R_alloc | apply Kd.R_drewN | apply Kd.R_drew)); exact Kd.R_mono (Kd.R_far (p := ⟨gb258, 2, none⟩) (Kd.R_far (p := ⟨gb258, 1, none⟩) (Kd.R_far (p := ⟨gb258, 0, none⟩) (Kd.R_far (p := ⟨gb271, 2, none⟩) (Kd.R_far (p := ⟨gb271, 1, none⟩) (Kd.R_far (p := ⟨gb271, 0, none⟩) (Kd.R_types (Kd.R_types HO269.out BK271.out (by decide)) BK258.out (by decide)) (fun _ hk => hk.1.2) (.int .i64 t262)) (fun _ hk => hk.1.2) (.int .i64 t263)) (fun _ hk => hk.1.2) (.slice Ao30 t264.length co30)) (fun _ hk => hk.2) (.int .i64 t262)) (fun _ hk => hk.2) (.int .i64 t263)) (fun _ hk => hk.2) (.slice Ao30 t264.length co30)) (fun _ hk => trivial)⟩, ⟨by (with_reducible repeat (first | apply Kd.V_alloc | apply Kd.V_drewN | apply Kd.V_drew)); exact Kd.V_mono (Kd.V_far (p := ⟨gb258, 2, none⟩) (Kd.V_far (p := ⟨gb258, 1, none⟩) (Kd.V_far (p := ⟨gb258, 0, none⟩) (Kd.V_far (p := ⟨gb271, 2, none⟩) (Kd.V_far (p := ⟨gb271, 1, none⟩) (Kd.V_far (p := ⟨gb271, 0, none⟩) (Kd.V_mono (Kd.V_mono HO266.out (fun k_ hk => (⟨hk, hk.2⟩ : _ ∧ k_ ≠ gb271))) (fun k_ hk => (⟨hk, hk.1.1.2.1⟩ : _ ∧ k_ ≠ gb258))) (fun _ hk => hk.1.2) (.int .i64 t262)) (fun _ hk => hk.1.2) (.int .i64 t263)) (fun _ hk => hk.1.2) (.slice Ao30 t264.length co30)) (fun _ hk => hk.2) (.int .i64 t262)) (fun _ hk => hk.2) (.int .i64 t263)) (fun _ hk => hk.2) (.slice Ao30 t264.length co30)) (fun _ hk => ⟨hk.1.1.1.1, ⟨hk.1.1.1.2.1, hk.1.1.1.2.2⟩⟩)⟩, ⟨by (with_reducible repeat (first | refine blk_drewN ?_ _ | refine blk_drew ?_ | refine blk_alloc ?_ _)); refine blk_put (cs := #[.int .i64 t262, .int .i64 t263, .slice Ao24 x259002_1.length co24]) ?_ 2 _ rfl; (with_reducible repeat (first | refine blk_drewN ?_ _ | refine blk_drew ?_ | refine blk_alloc ?_ _)); refine blk_put (cs := #[.int .i64 t262, .int .i64 x259001_1, .slice Ao24 x259002_1.length co24]) ?_ 1 _ rfl; (with_reducible repeat (first | refine blk_drewN ?_ _ | refine blk_drew ?_ | refine blk_alloc ?_ _)); refine blk_put (cs := #[.int .i64 x259000_1, .int .i64 x259001_1, .slice Ao24 x259002_1.length co24]) ?_ 0 _ rfl; (with_reducible repeat (first | refine blk_drewN ?_ _ | refine blk_drew ?_ | refine blk_alloc ?_ _)); refine blk_far ?_ NB258_271.out _; (with_reducible repeat (first | refine blk_drewN ?_ _ | refine blk_drew ?_ | refine blk_alloc ?_ _)); refine blk_far ?_ NB258_271.out _; (with_reducible repeat (first | refine blk_drewN ?_ _ | refine blk_drew ?_ | refine blk_alloc ?_ _)); refine blk_far ?_ NB258_271.out _; (with_reducible repeat (first | refine blk_drewN ?_ _ | refine blk_drew ?_ | refine blk_alloc ?_ _)); exact BK258.out⟩, ⟨by (with_reducible repeat (first | refine blk_drewN ?_ _ | refine blk_drew ?_ | refine blk_alloc ?_ _)); refine blk_far ?_ NB261_258.out _; (with_reducible repeat (first | refine blk_drewN ?_ _ | refine blk_drew ?_ | refine blk_alloc ?_ _)); refine blk_far ?_ NB261_258.out _; (with_reducible repeat (first | refine blk_drewN ?_ _ | refine blk_drew ?_ | refine blk_alloc ?_ _)); refine blk_far ?_ NB261_258.out _; (with_reducible repeat (first | refine blk_drewN ?_ _ | refine blk_drew ?_ | refine blk_alloc ?_ _)); refine blk_far ?_ NB261_271.out _; (with_reducible repeat (first | refine blk_drewN ?_ _ | refine blk_drew ?_ | refine blk_alloc ?_ _)); refine blk_far ?_ NB261_271.out _; (with_reducible repeat (first | refine blk_drewN ?_ _ | refine blk_drew ?_ | refine blk_alloc ?_ _)); refine blk_far ?_ NB261_271.out _; (with_reducible repeat (first | refine blk_drewN ?_ _ | refine blk_drew ?_ | refine blk_alloc ?_ _)); exact BK261.out⟩, ⟨by repeat (first | (with_reducible first | exact HB.out | apply below_alloc | apply pw_below_drewN | apply below_drew1 | refine below_set ?_ GE258.out | refine below_set ?_ GE261.out | refine below_set ?_ GE271.out) | exact HB.out)⟩⟩
         ·rw [if_neg c20] at H
          have c20b0 : (t270 == 0) = false := beq_eq_false_iff_ne.mpr c20
          have c20b1 : (t270 != 0) = true := bne_iff_ne.mpr c20
          have H' := Aside0.mk H
          clear H
          have hnb33 := NB261_258.out
          have hnc33 := NB258_261.out
          have hcz34_0 : w15.cell? ⟨gb261, 0, none⟩ = some (.int .i64 0) := (blk_cell BK261.out 0).trans rfl
          have hcz34_1 : w15.cell? ⟨gb261, 1, none⟩ = some (.int .i64 0) := (blk_cell BK261.out 1).trans rfl
          have hfz34_0 := blk_frozen BK261.out 0
          have hfz34_1 := blk_frozen BK261.out 1
          have hcz35_0 : w15.cell? ⟨gb258, 0, none⟩ = some (.int .i64 x259000_1) := (blk_cell BK258.out 0).trans rfl
          have hcz35_1 : w15.cell? ⟨gb258, 1, none⟩ = some (.int .i64 x259001_1) := (blk_cell BK258.out 1).trans rfl
          have hcz35_2 : w15.cell? ⟨gb258, 2, none⟩ = some (u259002) := (blk_cell BK258.out 2).trans rfl
          have hfz35_0 := blk_frozen BK258.out 0
          have hfz35_1 := blk_frozen BK258.out 1
          have hfz35_2 := blk_frozen BK258.out 2
          obtain ⟨Ao36, co36, eo36⟩ := Kd.V_slice HO_259002.out
          subst eo36
          go_wp2_with (first | ((with_reducible refine gate_callee (f := 13) rfl ?_); refine goesL_ (some 64) rfl rfl Try.func13 (by kernel_rfl) rfl #[.agg #[.int .i64 x259000_1, .int .i64 x259001_1, .slice Ao36 x259002_1.length co36], .int .i64 ((rd_T49 l1 x36_1).f1)] rfl zm ?_; (with_reducible refine (sema_Give.calls k1 x259000_1 x259001_1 (fun k_ => (k_ ≠ gb258 ∧ k_ ≠ gb261)) _ _ x259002_1 ((rd_T49 l1 x36_1).f1) t262 t263 t264 t267 t270 _ ?side1 A19.out).mono ?_); (case side1 => exact (by (with_reducible repeat (first | apply Kd.V_alloc | apply Kd.V_drewN | apply Kd.V_drew)); exact (Kd.V_mono (Kd.V_far (p := ⟨gb261, 1, none⟩) (Kd.V_far (p := ⟨gb261, 0, none⟩) (Kd.V_mono HO_259002.out (fun k_ hk => (⟨hk, hk.2⟩ : _ ∧ k_ ≠ gb261))) (fun _ hk => hk.2) (.int .i64 ((rd_T49 l1 x36_1).f0))) (fun _ hk => hk.2) (.int .i64 ((rd_T49 l1 x36_1).f1))) (fun _ h_ => h_.1)))); rintro e w37 ⟨v265, v268, rfl, ho0, ho1, hb⟩; refine ⟨_, rfl, ?_⟩; have n0_ := Aside0.mk (Kd.V_elder' (by (with_reducible repeat (first | apply Kd.V_alloc | apply Kd.V_drewN | apply Kd.V_drew)); exact (Kd.V_mono (Kd.V_far (p := ⟨gb261, 1, none⟩) (Kd.V_far (p := ⟨gb261, 0, none⟩) (Kd.V_mono HO_259002.out (fun k_ hk => (⟨hk, hk.2⟩ : _ ∧ k_ ≠ gb261))) (fun _ hk => hk.2) (.int .i64 ((rd_T49 l1 x36_1).f0))) (fun _ hk => hk.2) (.int .i64 ((rd_T49 l1 x36_1).f1))) (fun _ h_ => h_.1))) (Kd.R_base ho1) hb); have n1_ := Aside0.mk (Kd.V_lower (Kd.V_mono (ok' := fun k_ => some k_ ≠ (v268 : Value).ownBlock ∧ k_ ≠ gb258 ∧ k_ ≠ gb261) ho0 (fun k_ hk_ => ⟨hk_.2, Or.elim hk_.1 (fun hs_ => hs_.1) (fun hn_ => (Kd.freshB (g := gb258) (o := .cells #[.int .i64 x259000_1, .int .i64 x259001_1, .slice Ao36 x259002_1.length co36] 24 (0, 0)) (by (with_reducible repeat (first | refine blk_drewN ?_ _ | refine blk_drew ?_ | refine blk_alloc ?_ _)); refine blk_far ?_ NB258_261.out _; (with_reducible repeat (first | refine blk_drewN ?_ _ | refine blk_drew ?_ | refine blk_alloc ?_ _)); refine blk_far ?_ NB258_261.out _; (with_reducible repeat (first | refine blk_drewN ?_ _ | refine blk_drew ?_ | refine blk_alloc ?_ _)); exact BK258.out) k_ hn_)), Or.elim hk_.1 (fun hs_ => hs_.2) (fun hn_ => (Kd.freshB (g := gb261) (o := .cells #[.int .i64 ((rd_T49 l1 x36_1).f0), .int .i64 ((rd_T49 l1 x36_1).f1)] 49 (0, 0)) (by (with_reducible repeat (first | refine blk_drewN ?_ _ | refine blk_drew ?_ | refine blk_alloc ?_ _)); refine blk_put (cs := #[.int .i64 ((rd_T49 l1 x36_1).f0), .int .i64 0]) ?_ 1 _ rfl; (with_reducible repeat (first | refine blk_drewN ?_ _ | refine blk_drew ?_ | refine blk_alloc ?_ _)); refine blk_put (cs := #[.int .i64 0, .int .i64 0]) ?_ 0 _ rfl; (with_reducible repeat (first | refine blk_drewN ?_ _ | refine blk_drew ?_ | refine blk_alloc ?_ _)); exact BK261.out) k_ hn_))⟩)) (below_size (zc2 HB GE258 GE261))); have n2_ := Aside0.mk (Kd.R_lower (Kd.R_mono (ok' := fun k_ => True) ho1 (fun _ hk_ => trivial)) (below_size (zc2 HB GE258 GE261))); have n3_ := Aside0.mk (blk_below (g := gb258) (o := .cells #[.int .i64 x259000_1, .int .i64 x259001_1, .slice Ao36 x259002_1.length co36] 24 (0, 0)) (by (with_reducible repeat (first | refine blk_drewN ?_ _ | refine blk_drew ?_ | refine blk_alloc ?_ _)); refine blk_far ?_ NB258_261.out _; (with_reducible repeat (first | refine blk_drewN ?_ _ | refine blk_drew ?_ | refine blk_alloc ?_ _)); refine blk_far ?_ NB258_261.out _; (with_reducible repeat (first | refine blk_drewN ?_ _ | refine blk_drew ?_ | refine blk_alloc ?_ _)); exact BK258.out) hb); have n4_ := Aside0.mk (blk_below (g := gb261) (o := .cells #[.int .i64 ((rd_T49 l1 x36_1).f0), .int .i64 ((rd_T49 l1 x36_1).f1)] 49 (0, 0)) (by (with_reducible repeat (first | refine blk_drewN ?_ _ | refine blk_drew ?_ | refine blk_alloc ?_ _)); refine blk_put (cs := #[.int .i64 ((rd_T49 l1 x36_1).f0), .int .i64 0]) ?_ 1 _ rfl; (with_reducible repeat (first | refine blk_drewN ?_ _ | refine blk_drew ?_ | refine blk_alloc ?_ _)); refine blk_put (cs := #[.int .i64 0, .int .i64 0]) ?_ 0 _ rfl; (with_reducible repeat (first | refine blk_drewN ?_ _ | refine blk_drew ?_ | refine blk_alloc ?_ _)); exact BK261.out) hb); have n5_ := Aside0.mk (below_step (zc2 HB GE258 GE261) hb); clear HO_259002; clear BK258; clear BK261; clear HB; have HO_259002 := n0_; have HO266 := n1_; have HO269 := n2_; have BK258 := n3_; have BK261 := n4_; have HB := n5_; clear n0_ n1_ n2_ n3_ n4_ n5_; (try clear hb); (try clear hb2); (try clear hk); (try clear hi); (try clear ho0); (try clear ho1)) | ((with_reducible refine gate_dst (N := 12) rfl ?_); refine box_event ?hg (N := 12) ?hd (cs := #[.int .i64 0, .int .i64 0, .slice none 0 0]) (t := 24) ?hr ?_; (case hd => rfl); (case hg => rfl); (case hr => first | (go_simp; done) | (go_simp; rfl)); intro gb271 hg w38 hbox hb; have n0_ := Aside0.mk (Kd.V_below (Kd.V_elderB (zV HO_259002) gb271 (Nat.le_of_eq hg.symm)) hb); have n1_ := Aside0.mk (Kd.V_below (Kd.V_elderB (zV HO266) gb271 (Nat.le_of_eq hg.symm)) hb); have n2_ := Aside0.mk (Kd.R_below (zR HO269) hb); have n3_ := Aside0.mk (blk_below (g := gb258) (o := .cells #[.int .i64 x259000_1, .int .i64 x259001_1, .slice Ao36 x259002_1.length co36] 24 (0, 0)) (zb BK258) hb); have n4_ := Aside0.mk (blk_below (g := gb261) (o := .cells #[.int .i64 ((rd_T49 l1 x36_1).f0), .int .i64 ((rd_T49 l1 x36_1).f1)] 49 (0, 0)) (zb BK261) hb); have n5_ := Aside0.mk (below_step (zc2 HB GE258 GE261) hb); have n6_ := Aside0.mk (hbox); have n7_ := Aside0.mk ((by rw [hg]; exact (below_size (zc2 HB GE258 GE261)) : w.heap.size ≤ gb271)); have n8_ := Aside0.mk ((by rw [hg]; exact (below_size (zc2 HB GE258 GE261)) : w.heap.size ≤ gb271)); have n9_ := Aside0.mk ((by rw [hg]; exact Nat.ne_of_lt (blk_lt (g := gb258) (o := .cells #[.int .i64 x259000_1, .int .i64 x259001_1, .slice Ao36 x259002_1.length co36] 24 (0, 0)) (zb BK258)) : gb258 ≠ gb271)); have n10_ := Aside0.mk ((by rw [hg]; exact Nat.ne_of_gt (blk_lt (g := gb258) (o := .cells #[.int .i64 x259000_1, .int .i64 x259001_1, .slice Ao36 x259002_1.length co36] 24 (0, 0)) (zb BK258)) : gb271 ≠ gb258)); have n11_ := Aside0.mk ((by rw [hg]; exact Nat.ne_of_lt (blk_lt (g := gb261) (o := .cells #[.int .i64 ((rd_T49 l1 x36_1).f0), .int .i64 ((rd_T49 l1 x36_1).f1)] 49 (0, 0)) (zb BK261)) : gb261 ≠ gb271)); have n12_ := Aside0.mk ((by rw [hg]; exact Nat.ne_of_gt (blk_lt (g := gb261) (o := .cells #[.int .i64 ((rd_T49 l1 x36_1).f0), .int .i64 ((rd_T49 l1 x36_1).f1)] 49 (0, 0)) (zb BK261)) : gb271 ≠ gb261)); clear HO_259002; clear HO266; clear HO269; clear BK258; clear BK261; clear HB; have HO_259002 := n0_; have HO266 := n1_; have HO269 := n2_; have BK258 := n3_; have BK261 := n4_; have HB := n5_; have BK271 := n6_; have GW271 := n7_; have GE271 := n8_; have NB258_271 := n9_; have NB271_258 := n10_; have NB261_271 := n11_; have NB271_261 := n12_; clear n0_ n1_ n2_ n3_ n4_ n5_ n6_ n7_ n8_ n9_ n10_ n11_ n12_; clear hb hbox hg; have hnb39 := NB271_258.out; have hnc39 := NB258_271.out; have hnb40 := NB271_261.out; have hnc40 := NB261_271.out; have hcz41_0 : w38.cell? ⟨gb271, 0, none⟩ = some (.int .i64 0) := (blk_cell BK271.out 0).trans rfl; have hcz41_1 : w38.cell? ⟨gb271, 1, none⟩ = some (.int .i64 0) := (blk_cell BK271.out 1).trans rfl; have hcz41_2 : w38.cell? ⟨gb271, 2, none⟩ = some (.slice none 0 0) := (blk_cell BK271.out 2).trans rfl; have hfz41_0 := blk_frozen BK271.out 0; have hfz41_1 := blk_frozen BK271.out 1; have hfz41_2 := blk_frozen BK271.out 2; obtain ⟨Ao42, co42, eo42⟩ := Kd.V_slice HO266.out; subst eo42; have hcz43_0 : w38.cell? ⟨gb258, 0, none⟩ = some (.int .i64 x259000_1) := (blk_cell BK258.out 0).trans rfl; have hcz43_1 : w38.cell? ⟨gb258, 1, none⟩ = some (.int .i64 x259001_1) := (blk_cell BK258.out 1).trans rfl; have hcz43_2 : w38.cell? ⟨gb258, 2, none⟩ = some (.slice Ao36 x259002_1.length co36) := (blk_cell BK258.out 2).trans rfl; have hfz43_0 := blk_frozen BK258.out 0; have hfz43_1 := blk_frozen BK258.out 1; have hfz43_2 := blk_frozen BK258.out 2))
          go_meet
          case rel => exact ⟨_, (x8_1), (t267), (t262), (t263), (t264), (.slice Ao42 t264.length co42), (by first | rfl | (simp; done) | (simp [*]; done)), H', ⟨by have := HK1.out; first | omega | exact Nat.le_refl _⟩, ⟨by (with_reducible repeat (first | apply Kd.R_alloc | apply Kd.R_drewN | apply Kd.R_drew)); exact Kd.R_mono (Kd.R_far (p := ⟨gb258, 2, none⟩) (Kd.R_far (p := ⟨gb258, 1, none⟩) (Kd.R_far (p := ⟨gb258, 0, none⟩) (Kd.R_far (p := ⟨gb271, 2, none⟩) (Kd.R_far (p := ⟨gb271, 1, none⟩) (Kd.R_far (p := ⟨gb271, 0, none⟩) (Kd.R_types (Kd.R_types HO269.out BK271.out (by decide)) BK258.out (by decide)) (fun _ hk => hk.1.2) (.int .i64 t262)) (fun _ hk => hk.1.2) (.int .i64 t263)) (fun _ hk => hk.1.2) (.slice Ao42 t264.length co42)) (fun _ hk => hk.2) (.int .i64 t262)) (fun _ hk => hk.2) (.int .i64 t263)) (fun _ hk => hk.2) (.slice Ao42 t264.length co42)) (fun _ hk => trivial)⟩, ⟨by (with_reducible repeat (first | apply Kd.V_alloc | apply Kd.V_drewN | apply Kd.V_drew)); exact Kd.V_mono (Kd.V_far (p := ⟨gb258, 2, none⟩) (Kd.V_far (p := ⟨gb258, 1, none⟩) (Kd.V_far (p := ⟨gb258, 0, none⟩) (Kd.V_far (p := ⟨gb271, 2, none⟩) (Kd.V_far (p := ⟨gb271, 1, none⟩) (Kd.V_far (p := ⟨gb271, 0, none⟩) (Kd.V_mono (Kd.V_mono HO266.out (fun k_ hk => (⟨hk, hk.2⟩ : _ ∧ k_ ≠ gb271))) (fun k_ hk => (⟨hk, hk.1.1.2.1⟩ : _ ∧ k_ ≠ gb258))) (fun _ hk => hk.1.2) (.int .i64 t262)) (fun _ hk => hk.1.2) (.int .i64 t263)) (fun _ hk => hk.1.2) (.slice Ao42 t264.length co42)) (fun _ hk => hk.2) (.int .i64 t262)) (fun _ hk => hk.2) (.int .i64 t263)) (fun _ hk => hk.2) (.slice Ao42 t264.length co42)) (fun _ hk => ⟨hk.1.1.1.1, ⟨hk.1.1.1.2.1, hk.1.1.1.2.2⟩⟩)⟩, ⟨by (with_reducible repeat (first | refine blk_drewN ?_ _ | refine blk_drew ?_ | refine blk_alloc ?_ _)); refine blk_put (cs := #[.int .i64 t262, .int .i64 t263, .slice Ao36 x259002_1.length co36]) ?_ 2 _ rfl; (with_reducible repeat (first | refine blk_drewN ?_ _ | refine blk_drew ?_ | refine blk_alloc ?_ _)); refine blk_put (cs := #[.int .i64 t262, .int .i64 x259001_1, .slice Ao36 x259002_1.length co36]) ?_ 1 _ rfl; (with_reducible repeat (first | refine blk_drewN ?_ _ | refine blk_drew ?_ | refine blk_alloc ?_ _)); refine blk_put (cs := #[.int .i64 x259000_1, .int .i64 x259001_1, .slice Ao36 x259002_1.length co36]) ?_ 0 _ rfl; (with_reducible repeat (first | refine blk_drewN ?_ _ | refine blk_drew ?_ | refine blk_alloc ?_ _)); refine blk_far ?_ NB258_271.out _; (with_reducible repeat (first | refine blk_drewN ?_ _ | refine blk_drew ?_ | refine blk_alloc ?_ _)); refine blk_far ?_ NB258_271.out _; (with_reducible repeat (first | refine blk_drewN ?_ _ | refine blk_drew ?_ | refine blk_alloc ?_ _)); refine blk_far ?_ NB258_271.out _; (with_reducible repeat (first | refine blk_drewN ?_ _ | refine blk_drew ?_ | refine blk_alloc ?_ _)); exact BK258.out⟩, ⟨by (with_reducible repeat (first | refine blk_drewN ?_ _ | refine blk_drew ?_ | refine blk_alloc ?_ _)); refine blk_far ?_ NB261_258.out _; (with_reducible repeat (first | refine blk_drewN ?_ _ | refine blk_drew ?_ | refine blk_alloc ?_ _)); refine blk_far ?_ NB261_258.out _; (with_reducible repeat (first | refine blk_drewN ?_ _ | refine blk_drew ?_ | refine blk_alloc ?_ _)); refine blk_far ?_ NB261_258.out _; (with_reducible repeat (first | refine blk_drewN ?_ _ | refine blk_drew ?_ | refine blk_alloc ?_ _)); refine blk_far ?_ NB261_271.out _; (with_reducible repeat (first | refine blk_drewN ?_ _ | refine blk_drew ?_ | refine blk_alloc ?_ _)); refine blk_far ?_ NB261_271.out _; (with_reducible repeat (first | refine blk_drewN ?_ _ | refine blk_drew ?_ | refine blk_alloc ?_ _)); refine blk_far ?_ NB261_271.out _; (with_reducible repeat (first | refine blk_drewN ?_ _ | refine blk_drew ?_ | refine blk_alloc ?_ _)); exact BK261.out⟩, ⟨by repeat (first | (with_reducible first | exact HB.out | apply below_alloc | apply pw_below_drewN | apply below_drew1 | refine below_set ?_ GE258.out | refine below_set ?_ GE261.out | refine below_set ?_ GE271.out) | exact HB.out)⟩⟩
        ·rw [if_neg c18] at H
         have c18b0 : (((rd_T49 l1 x36_1).f0) == 0) = false := beq_eq_false_iff_ne.mpr c18
         have c18b1 : (((rd_T49 l1 x36_1).f0) != 0) = true := bne_iff_ne.mpr c18
         (first | rw [c18b0] | (simp only [i64_w, i32_w]; rw [c18b0]) | skip)
         by_cases c44 : ((rd_T49 l1 x36_1).f1) = 0
         ·rw [if_pos c44] at H
          have c44b0 : (((rd_T49 l1 x36_1).f1) == 0) = true := beq_iff_eq.mpr c44
          have c44b1 : (((rd_T49 l1 x36_1).f1) != 0) = false := bne_eq_false_iff_eq.mpr c44
          clear c44
          replace H := Option.bind_eq_some_iff.mp H
          obtain ⟨⟨t272, t273, t274, t277, t280⟩, A450, H⟩ := H
          replace H : (handshakerlaw18_SemaCounts.j1 k1 (wrap64 (1 + (wrap64 (Int.tmod a0 100)))) t257 x8_1 t277 l1 (l1.length : Int) x36_1 t272 t273 t274) = some r := H
          have A45 := Aside0.mk A450
          clear A450
          have H' := Aside0.mk H
          clear H
          have hnb46 := NB261_258.out
          have hnc46 := NB258_261.out
          have hcz47_0 : w15.cell? ⟨gb261, 0, none⟩ = some (.int .i64 0) := (blk_cell BK261.out 0).trans rfl
          have hcz47_1 : w15.cell? ⟨gb261, 1, none⟩ = some (.int .i64 0) := (blk_cell BK261.out 1).trans rfl
          have hfz47_0 := blk_frozen BK261.out 0
          have hfz47_1 := blk_frozen BK261.out 1
          have hcz48_0 : w15.cell? ⟨gb258, 0, none⟩ = some (.int .i64 x259000_1) := (blk_cell BK258.out 0).trans rfl
          have hcz48_1 : w15.cell? ⟨gb258, 1, none⟩ = some (.int .i64 x259001_1) := (blk_cell BK258.out 1).trans rfl
          have hcz48_2 : w15.cell? ⟨gb258, 2, none⟩ = some (u259002) := (blk_cell BK258.out 2).trans rfl
          have hfz48_0 := blk_frozen BK258.out 0
          have hfz48_1 := blk_frozen BK258.out 1
          have hfz48_2 := blk_frozen BK258.out 2
          obtain ⟨Ao49, co49, eo49⟩ := Kd.V_slice HO_259002.out
          subst eo49
          go_wp2_with (first | ((with_reducible refine gate_callee (f := 15) rfl ?_); refine goesL_ (some 84) rfl rfl Try.func15 (by kernel_rfl) rfl #[.agg #[.int .i64 x259000_1, .int .i64 x259001_1, .slice Ao49 x259002_1.length co49], .int .i64 ((rd_T49 l1 x36_1).f0)] rfl zm ?_; (with_reducible refine (sema_Leave.calls k1 x259000_1 x259001_1 (fun k_ => (k_ ≠ gb258 ∧ k_ ≠ gb261)) _ _ x259002_1 ((rd_T49 l1 x36_1).f0) t272 t273 t274 t277 t280 _ ?side1 A45.out).mono ?_); (case side1 => exact (by (with_reducible repeat (first | apply Kd.V_alloc | apply Kd.V_drewN | apply Kd.V_drew)); exact (Kd.V_mono (Kd.V_far (p := ⟨gb261, 1, none⟩) (Kd.V_far (p := ⟨gb261, 0, none⟩) (Kd.V_mono HO_259002.out (fun k_ hk => (⟨hk, hk.2⟩ : _ ∧ k_ ≠ gb261))) (fun _ hk => hk.2) (.int .i64 ((rd_T49 l1 x36_1).f0))) (fun _ hk => hk.2) (.int .i64 ((rd_T49 l1 x36_1).f1))) (fun _ h_ => h_.1)))); rintro e w50 ⟨v275, v278, rfl, ho0, ho1, hb⟩; refine ⟨_, rfl, ?_⟩; have n0_ := Aside0.mk (Kd.V_elder' (by (with_reducible repeat (first | apply Kd.V_alloc | apply Kd.V_drewN | apply Kd.V_drew)); exact (Kd.V_mono (Kd.V_far (p := ⟨gb261, 1, none⟩) (Kd.V_far (p := ⟨gb261, 0, none⟩) (Kd.V_mono HO_259002.out (fun k_ hk => (⟨hk, hk.2⟩ : _ ∧ k_ ≠ gb261))) (fun _ hk => hk.2) (.int .i64 ((rd_T49 l1 x36_1).f0))) (fun _ hk => hk.2) (.int .i64 ((rd_T49 l1 x36_1).f1))) (fun _ h_ => h_.1))) (Kd.R_base ho1) hb); have n1_ := Aside0.mk (Kd.V_lower (Kd.V_mono (ok' := fun k_ => some k_ ≠ (v278 : Value).ownBlock ∧ k_ ≠ gb258 ∧ k_ ≠ gb261) ho0 (fun k_ hk_ => ⟨hk_.2, Or.elim hk_.1 (fun hs_ => hs_.1) (fun hn_ => (Kd.freshB (g := gb258) (o := .cells #[.int .i64 x259000_1, .int .i64 x259001_1, .slice Ao49 x259002_1.length co49] 24 (0, 0)) (by (with_reducible repeat (first | refine blk_drewN ?_ _ | refine blk_drew ?_ | refine blk_alloc ?_ _)); refine blk_far ?_ NB258_261.out _; (with_reducible repeat (first | refine blk_drewN ?_ _ | refine blk_drew ?_ | refine blk_alloc ?_ _)); refine blk_far ?_ NB258_261.out _; (with_reducible repeat (first | refine blk_drewN ?_ _ | refine blk_drew ?_ | refine blk_alloc ?_ _)); exact BK258.out) k_ hn_)), Or.elim hk_.1 (fun hs_ => hs_.2) (fun hn_ => (Kd.freshB (g := gb261) (o := .cells #[.int .i64 ((rd_T49 l1 x36_1).f0), .int .i64 ((rd_T49 l1 x36_1).f1)] 49 (0, 0)) (by (with_reducible repeat (first | refine blk_drewN ?_ _ | refine blk_drew ?_ | refine blk_alloc ?_ _)); refine blk_put (cs := #[.int .i64 ((rd_T49 l1 x36_1).f0), .int .i64 0]) ?_ 1 _ rfl; (with_reducible repeat (first | refine blk_drewN ?_ _ | refine blk_drew ?_ | refine blk_alloc ?_ _)); refine blk_put (cs := #[.int .i64 0, .int .i64 0]) ?_ 0 _ rfl; (with_reducible repeat (first | refine blk_drewN ?_ _ | refine blk_drew ?_ | refine blk_alloc ?_ _)); exact BK261.out) k_ hn_))⟩)) (below_size (zc2 HB GE258 GE261))); have n2_ := Aside0.mk (Kd.R_lower (Kd.R_mono (ok' := fun k_ => True) ho1 (fun _ hk_ => trivial)) (below_size (zc2 HB GE258 GE261))); have n3_ := Aside0.mk (blk_below (g := gb258) (o := .cells #[.int .i64 x259000_1, .int .i64 x259001_1, .slice Ao49 x259002_1.length co49] 24 (0, 0)) (by (with_reducible repeat (first | refine blk_drewN ?_ _ | refine blk_drew ?_ | refine blk_alloc ?_ _)); refine blk_far ?_ NB258_261.out _; (with_reducible repeat (first | refine blk_drewN ?_ _ | refine blk_drew ?_ | refine blk_alloc ?_ _)); refine blk_far ?_ NB258_261.out _; (with_reducible repeat (first | refine blk_drewN ?_ _ | refine blk_drew ?_ | refine blk_alloc ?_ _)); exact BK258.out) hb); have n4_ := Aside0.mk (blk_below (g := gb261) (o := .cells #[.int .i64 ((rd_T49 l1 x36_1).f0), .int .i64 ((rd_T49 l1 x36_1).f1)] 49 (0, 0)) (by (with_reducible repeat (first | refine blk_drewN ?_ _ | refine blk_drew ?_ | refine blk_alloc ?_ _)); refine blk_put (cs := #[.int .i64 ((rd_T49 l1 x36_1).f0), .int .i64 0]) ?_ 1 _ rfl; (with_reducible repeat (first | refine blk_drewN ?_ _ | refine blk_drew ?_ | refine blk_alloc ?_ _)); refine blk_put (cs := #[.int .i64 0, .int .i64 0]) ?_ 0 _ rfl; (with_reducible repeat (first | refine blk_drewN ?_ _ | refine blk_drew ?_ | refine blk_alloc ?_ _)); exact BK261.out) hb); have n5_ := Aside0.mk (below_step (zc2 HB GE258 GE261) hb); clear HO_259002; clear BK258; clear BK261; clear HB; have HO_259002 := n0_; have HO276 := n1_; have HO279 := n2_; have BK258 := n3_; have BK261 := n4_; have HB := n5_; clear n0_ n1_ n2_ n3_ n4_ n5_; (try clear hb); (try clear hb2); (try clear hk); (try clear hi); (try clear ho0); (try clear ho1); have hcz51_0 : w50.cell? ⟨gb258, 0, none⟩ = some (.int .i64 x259000_1) := (blk_cell BK258.out 0).trans rfl; have hcz51_1 : w50.cell? ⟨gb258, 1, none⟩ = some (.int .i64 x259001_1) := (blk_cell BK258.out 1).trans rfl; have hcz51_2 : w50.cell? ⟨gb258, 2, none⟩ = some (.slice Ao49 x259002_1.length co49) := (blk_cell BK258.out 2).trans rfl; have hfz51_0 := blk_frozen BK258.out 0; have hfz51_1 := blk_frozen BK258.out 1; have hfz51_2 := blk_frozen BK258.out 2; obtain ⟨Ao52, co52, eo52⟩ := Kd.V_slice HO276.out; subst eo52))
          go_meet
          case rel => exact ⟨_, (x8_1), (t277), (t272), (t273), (t274), (.slice Ao52 t274.length co52), (by first | rfl | (simp; done) | (simp [*]; done)), H', ⟨by have := HK1.out; first | omega | exact Nat.le_refl _⟩, ⟨by (with_reducible repeat (first | apply Kd.R_alloc | apply Kd.R_drewN | apply Kd.R_drew)); exact Kd.R_mono (Kd.R_far (p := ⟨gb258, 2, none⟩) (Kd.R_far (p := ⟨gb258, 1, none⟩) (Kd.R_far (p := ⟨gb258, 0, none⟩) (Kd.R_types HO279.out BK258.out (by decide)) (fun _ hk => hk.2) (.int .i64 t272)) (fun _ hk => hk.2) (.int .i64 t273)) (fun _ hk => hk.2) (.slice Ao52 t274.length co52)) (fun _ hk => trivial)⟩, ⟨by (with_reducible repeat (first | apply Kd.V_alloc | apply Kd.V_drewN | apply Kd.V_drew)); exact Kd.V_mono (Kd.V_far (p := ⟨gb258, 2, none⟩) (Kd.V_far (p := ⟨gb258, 1, none⟩) (Kd.V_far (p := ⟨gb258, 0, none⟩) (Kd.V_mono HO276.out (fun k_ hk => (⟨hk, hk.2.1⟩ : _ ∧ k_ ≠ gb258))) (fun _ hk => hk.2) (.int .i64 t272)) (fun _ hk => hk.2) (.int .i64 t273)) (fun _ hk => hk.2) (.slice Ao52 t274.length co52)) (fun _ hk => ⟨hk.1.1, ⟨hk.1.2.1, hk.1.2.2⟩⟩)⟩, ⟨by (with_reducible repeat (first | refine blk_drewN ?_ _ | refine blk_drew ?_ | refine blk_alloc ?_ _)); refine blk_put (cs := #[.int .i64 t272, .int .i64 t273, .slice Ao49 x259002_1.length co49]) ?_ 2 _ rfl; (with_reducible repeat (first | refine blk_drewN ?_ _ | refine blk_drew ?_ | refine blk_alloc ?_ _)); refine blk_put (cs := #[.int .i64 t272, .int .i64 x259001_1, .slice Ao49 x259002_1.length co49]) ?_ 1 _ rfl; (with_reducible repeat (first | refine blk_drewN ?_ _ | refine blk_drew ?_ | refine blk_alloc ?_ _)); refine blk_put (cs := #[.int .i64 x259000_1, .int .i64 x259001_1, .slice Ao49 x259002_1.length co49]) ?_ 0 _ rfl; (with_reducible repeat (first | refine blk_drewN ?_ _ | refine blk_drew ?_ | refine blk_alloc ?_ _)); exact BK258.out⟩, ⟨by (with_reducible repeat (first | refine blk_drewN ?_ _ | refine blk_drew ?_ | refine blk_alloc ?_ _)); refine blk_far ?_ NB261_258.out _; (with_reducible repeat (first | refine blk_drewN ?_ _ | refine blk_drew ?_ | refine blk_alloc ?_ _)); refine blk_far ?_ NB261_258.out _; (with_reducible repeat (first | refine blk_drewN ?_ _ | refine blk_drew ?_ | refine blk_alloc ?_ _)); refine blk_far ?_ NB261_258.out _; (with_reducible repeat (first | refine blk_drewN ?_ _ | refine blk_drew ?_ | refine blk_alloc ?_ _)); exact BK261.out⟩, ⟨by repeat (first | (with_reducible first | exact HB.out | apply below_alloc | apply pw_below_drewN | apply below_drew1 | refine below_set ?_ GE258.out | refine below_set ?_ GE261.out) | exact HB.out)⟩⟩
         ·rw [if_neg c44] at H
          have c44b0 : (((rd_T49 l1 x36_1).f1) == 0) = false := beq_eq_false_iff_ne.mpr c44
          have c44b1 : (((rd_T49 l1 x36_1).f1) != 0) = true := bne_iff_ne.mpr c44
          replace H := Option.bind_eq_some_iff.mp H
          obtain ⟨⟨t281, t282, t283, t286, t287⟩, A530, H⟩ := H
          replace H : (if t286 = true then (handshakerlaw18_SemaCounts.j1 k1 (wrap64 (1 + (wrap64 (Int.tmod a0 100)))) t257 (wrap64 (x8_1 + ((rd_T49 l1 x36_1).f1))) ([] : List (S50)) l1 (l1.length : Int) x36_1 t281 t282 t283) else (handshakerlaw18_SemaCounts.j1 k1 (wrap64 (1 + (wrap64 (Int.tmod a0 100)))) t257 x8_1 ([] : List (S50)) l1 (l1.length : Int) x36_1 t281 t282 t283)) = some r := H
          have A53 := Aside0.mk A530
          clear A530
          by_cases c54 : t286 = true
          ·subst c54
           have H1 : (handshakerlaw18_SemaCounts.j1 k1 (wrap64 (1 + (wrap64 (Int.tmod a0 100)))) t257 (wrap64 (x8_1 + ((rd_T49 l1 x36_1).f1))) ([] : List (S50)) l1 (l1.length : Int) x36_1 t281 t282 t283) = some r := by rw [if_pos rfl] at H; exact H
           clear H
           have H := H1
           clear H1
           have H' := Aside0.mk H
           clear H
           have hnb55 := NB261_258.out
           have hnc55 := NB258_261.out
           have hcz56_0 : w15.cell? ⟨gb261, 0, none⟩ = some (.int .i64 0) := (blk_cell BK261.out 0).trans rfl
           have hcz56_1 : w15.cell? ⟨gb261, 1, none⟩ = some (.int .i64 0) := (blk_cell BK261.out 1).trans rfl
           have hfz56_0 := blk_frozen BK261.out 0
           have hfz56_1 := blk_frozen BK261.out 1
           have hcz57_0 : w15.cell? ⟨gb258, 0, none⟩ = some (.int .i64 x259000_1) := (blk_cell BK258.out 0).trans rfl
           have hcz57_1 : w15.cell? ⟨gb258, 1, none⟩ = some (.int .i64 x259001_1) := (blk_cell BK258.out 1).trans rfl
           have hcz57_2 : w15.cell? ⟨gb258, 2, none⟩ = some (u259002) := (blk_cell BK258.out 2).trans rfl
           have hfz57_0 := blk_frozen BK258.out 0
           have hfz57_1 := blk_frozen BK258.out 1
           have hfz57_2 := blk_frozen BK258.out 2
           obtain ⟨Ao58, co58, eo58⟩ := Kd.V_slice HO_259002.out
           subst eo58
           go_wp2_with (first | ((with_reducible refine gate_callee (f := 11) rfl ?_); refine goesL_ (some 46) rfl rfl Try.func11 (by kernel_rfl) rfl #[.agg #[.int .i64 x259000_1, .int .i64 x259001_1, .slice Ao58 x259002_1.length co58], .int .i64 ((rd_T49 l1 x36_1).f0), .int .i64 ((rd_T49 l1 x36_1).f1)] rfl zm ?_; (with_reducible refine (sema_Take.calls k1 x259000_1 x259001_1 (fun k_ => (k_ ≠ gb258 ∧ k_ ≠ gb261)) _ _ x259002_1 ((rd_T49 l1 x36_1).f0) ((rd_T49 l1 x36_1).f1) t281 t282 t283 true t287 _ ?side1 A53.out).mono ?_); (case side1 => exact (by (with_reducible repeat (first | apply Kd.V_alloc | apply Kd.V_drewN | apply Kd.V_drew)); exact (Kd.V_mono (Kd.V_far (p := ⟨gb261, 1, none⟩) (Kd.V_far (p := ⟨gb261, 0, none⟩) (Kd.V_mono HO_259002.out (fun k_ hk => (⟨hk, hk.2⟩ : _ ∧ k_ ≠ gb261))) (fun _ hk => hk.2) (.int .i64 ((rd_T49 l1 x36_1).f0))) (fun _ hk => hk.2) (.int .i64 ((rd_T49 l1 x36_1).f1))) (fun _ h_ => h_.1)))); rintro e w59 ⟨v284, rfl, ho0, hb⟩; refine ⟨_, rfl, ?_⟩; have n0_ := Aside0.mk (Kd.V_below (by (with_reducible repeat (first | apply Kd.V_alloc | apply Kd.V_drewN | apply Kd.V_drew)); exact (Kd.V_mono (Kd.V_far (p := ⟨gb261, 1, none⟩) (Kd.V_far (p := ⟨gb261, 0, none⟩) (Kd.V_mono HO_259002.out (fun k_ hk => (⟨hk, hk.2⟩ : _ ∧ k_ ≠ gb261))) (fun _ hk => hk.2) (.int .i64 ((rd_T49 l1 x36_1).f0))) (fun _ hk => hk.2) (.int .i64 ((rd_T49 l1 x36_1).f1))) (fun _ h_ => h_.1))) hb); have n1_ := Aside0.mk (Kd.V_lower (Kd.V_mono (ok' := fun k_ => k_ ≠ gb258 ∧ k_ ≠ gb261) ho0 (fun k_ hk_ => ⟨Or.elim hk_ (fun hs_ => hs_.1) (fun hn_ => (Kd.freshB (g := gb258) (o := .cells #[.int .i64 x259000_1, .int .i64 x259001_1, .slice Ao58 x259002_1.length co58] 24 (0, 0)) (by (with_reducible repeat (first | refine blk_drewN ?_ _ | refine blk_drew ?_ | refine blk_alloc ?_ _)); refine blk_far ?_ NB258_261.out _; (with_reducible repeat (first | refine blk_drewN ?_ _ | refine blk_drew ?_ | refine blk_alloc ?_ _)); refine blk_far ?_ NB258_261.out _; (with_reducible repeat (first | refine blk_drewN ?_ _ | refine blk_drew ?_ | refine blk_alloc ?_ _)); exact BK258.out) k_ hn_)), Or.elim hk_ (fun hs_ => hs_.2) (fun hn_ => (Kd.freshB (g := gb261) (o := .cells #[.int .i64 ((rd_T49 l1 x36_1).f0), .int .i64 ((rd_T49 l1 x36_1).f1)] 49 (0, 0)) (by (with_reducible repeat (first | refine blk_drewN ?_ _ | refine blk_drew ?_ | refine blk_alloc ?_ _)); refine blk_put (cs := #[.int .i64 ((rd_T49 l1 x36_1).f0), .int .i64 0]) ?_ 1 _ rfl; (with_reducible repeat (first | refine blk_drewN ?_ _ | refine blk_drew ?_ | refine blk_alloc ?_ _)); refine blk_put (cs := #[.int .i64 0, .int .i64 0]) ?_ 0 _ rfl; (with_reducible repeat (first | refine blk_drewN ?_ _ | refine blk_drew ?_ | refine blk_alloc ?_ _)); exact BK261.out) k_ hn_))⟩)) (below_size (zc2 HB GE258 GE261))); have n2_ := Aside0.mk (blk_below (g := gb258) (o := .cells #[.int .i64 x259000_1, .int .i64 x259001_1, .slice Ao58 x259002_1.length co58] 24 (0, 0)) (by (with_reducible repeat (first | refine blk_drewN ?_ _ | refine blk_drew ?_ | refine blk_alloc ?_ _)); refine blk_far ?_ NB258_261.out _; (with_reducible repeat (first | refine blk_drewN ?_ _ | refine blk_drew ?_ | refine blk_alloc ?_ _)); refine blk_far ?_ NB258_261.out _; (with_reducible repeat (first | refine blk_drewN ?_ _ | refine blk_drew ?_ | refine blk_alloc ?_ _)); exact BK258.out) hb); have n3_ := Aside0.mk (blk_below (g := gb261) (o := .cells #[.int .i64 ((rd_T49 l1 x36_1).f0), .int .i64 ((rd_T49 l1 x36_1).f1)] 49 (0, 0)) (by (with_reducible repeat (first | refine blk_drewN ?_ _ | refine blk_drew ?_ | refine blk_alloc ?_ _)); refine blk_put (cs := #[.int .i64 ((rd_T49 l1 x36_1).f0), .int .i64 0]) ?_ 1 _ rfl; (with_reducible repeat (first | refine blk_drewN ?_ _ | refine blk_drew ?_ | refine blk_alloc ?_ _)); refine blk_put (cs := #[.int .i64 0, .int .i64 0]) ?_ 0 _ rfl; (with_reducible repeat (first | refine blk_drewN ?_ _ | refine blk_drew ?_ | refine blk_alloc ?_ _)); exact BK261.out) hb); have n4_ := Aside0.mk (below_step (zc2 HB GE258 GE261) hb); clear HO_259002; clear BK258; clear BK261; clear HB; have HO_259002 := n0_; have HO285 := n1_; have BK258 := n2_; have BK261 := n3_; have HB := n4_; clear n0_ n1_ n2_ n3_ n4_; (try clear hb); (try clear hb2); (try clear hk); (try clear hi); (try clear ho0)) | ((with_reducible refine gate_dst (N := 15) rfl ?_); refine box_event ?hg (N := 15) ?hd (cs := #[.int .i64 0, .int .i64 0, .slice none 0 0]) (t := 24) ?hr ?_; (case hd => rfl); (case hg => rfl); (case hr => first | (go_simp; done) | (go_simp; rfl)); intro gb288 hg w60 hbox hb; have n0_ := Aside0.mk (Kd.V_below (Kd.V_elderB (zV HO_259002) gb288 (Nat.le_of_eq hg.symm)) hb); have n1_ := Aside0.mk (Kd.V_below (Kd.V_elderB (zV HO285) gb288 (Nat.le_of_eq hg.symm)) hb); have n2_ := Aside0.mk (blk_below (g := gb258) (o := .cells #[.int .i64 x259000_1, .int .i64 x259001_1, .slice Ao58 x259002_1.length co58] 24 (0, 0)) (zb BK258) hb); have n3_ := Aside0.mk (blk_below (g := gb261) (o := .cells #[.int .i64 ((rd_T49 l1 x36_1).f0), .int .i64 ((rd_T49 l1 x36_1).f1)] 49 (0, 0)) (zb BK261) hb); have n4_ := Aside0.mk (below_step (zc2 HB GE258 GE261) hb); have n5_ := Aside0.mk (hbox); have n6_ := Aside0.mk ((by rw [hg]; exact (below_size (zc2 HB GE258 GE261)) : w.heap.size ≤ gb288)); have n7_ := Aside0.mk ((by rw [hg]; exact (below_size (zc2 HB GE258 GE261)) : w.heap.size ≤ gb288)); have n8_ := Aside0.mk ((by rw [hg]; exact Nat.ne_of_lt (blk_lt (g := gb258) (o := .cells #[.int .i64 x259000_1, .int .i64 x259001_1, .slice Ao58 x259002_1.length co58] 24 (0, 0)) (zb BK258)) : gb258 ≠ gb288)); have n9_ := Aside0.mk ((by rw [hg]; exact Nat.ne_of_gt (blk_lt (g := gb258) (o := .cells #[.int .i64 x259000_1, .int .i64 x259001_1, .slice Ao58 x259002_1.length co58] 24 (0, 0)) (zb BK258)) : gb288 ≠ gb258)); have n10_ := Aside0.mk ((by rw [hg]; exact Nat.ne_of_lt (blk_lt (g := gb261) (o := .cells #[.int .i64 ((rd_T49 l1 x36_1).f0), .int .i64 ((rd_T49 l1 x36_1).f1)] 49 (0, 0)) (zb BK261)) : gb261 ≠ gb288)); have n11_ := Aside0.mk ((by rw [hg]; exact Nat.ne_of_gt (blk_lt (g := gb261) (o := .cells #[.int .i64 ((rd_T49 l1 x36_1).f0), .int .i64 ((rd_T49 l1 x36_1).f1)] 49 (0, 0)) (zb BK261)) : gb288 ≠ gb261)); clear HO_259002; clear HO285; clear BK258; clear BK261; clear HB; have HO_259002 := n0_; have HO285 := n1_; have BK258 := n2_; have BK261 := n3_; have HB := n4_; have BK288 := n5_; have GW288 := n6_; have GE288 := n7_; have NB258_288 := n8_; have NB288_258 := n9_; have NB261_288 := n10_; have NB288_261 := n11_; clear n0_ n1_ n2_ n3_ n4_ n5_ n6_ n7_ n8_ n9_ n10_ n11_; clear hb hbox hg; have hnb61 := NB288_258.out; have hnc61 := NB258_288.out; have hnb62 := NB288_261.out; have hnc62 := NB261_288.out; have hcz63_0 : w60.cell? ⟨gb288, 0, none⟩ = some (.int .i64 0) := (blk_cell BK288.out 0).trans rfl; have hcz63_1 : w60.cell? ⟨gb288, 1, none⟩ = some (.int .i64 0) := (blk_cell BK288.out 1).trans rfl; have hcz63_2 : w60.cell? ⟨gb288, 2, none⟩ = some (.slice none 0 0) := (blk_cell BK288.out 2).trans rfl; have hfz63_0 := blk_frozen BK288.out 0; have hfz63_1 := blk_frozen BK288.out 1; have hfz63_2 := blk_frozen BK288.out 2; obtain ⟨Ao64, co64, eo64⟩ := Kd.V_slice HO285.out; subst eo64; have hcz65_0 : w60.cell? ⟨gb261, 0, none⟩ = some (.int .i64 ((rd_T49 l1 x36_1).f0)) := (blk_cell BK261.out 0).trans rfl; have hcz65_1 : w60.cell? ⟨gb261, 1, none⟩ = some (.int .i64 ((rd_T49 l1 x36_1).f1)) := (blk_cell BK261.out 1).trans rfl; have hfz65_0 := blk_frozen BK261.out 0; have hfz65_1 := blk_frozen BK261.out 1; have hcz66_0 : w60.cell? ⟨gb258, 0, none⟩ = some (.int .i64 x259000_1) := (blk_cell BK258.out 0).trans rfl; have hcz66_1 : w60.cell? ⟨gb258, 1, none⟩ = some (.int .i64 x259001_1) := (blk_cell BK258.out 1).trans rfl; have hcz66_2 : w60.cell? ⟨gb258, 2, none⟩ = some (.slice Ao58 x259002_1.length co58) := (blk_cell BK258.out 2).trans rfl; have hfz66_0 := blk_frozen BK258.out 0; have hfz66_1 := blk_frozen BK258.out 1; have hfz66_2 := blk_frozen BK258.out 2))
           go_meet
           case rel => exact ⟨_, (wrap64 (x8_1 + ((rd_T49 l1 x36_1).f1))), (([] : List (S50))), (t281), (t282), (t283), (.slice Ao64 t283.length co64), (by first | rfl | (simp; done) | (simp [*]; done)), H', ⟨by have := HK1.out; first | omega | exact Nat.le_refl _⟩, ⟨by first | exact Kd.R_nil _ _ _ _ _ | exact Kd.N_nil _ _ _ _ _ | exact Kd.V_nil _ _ _ _ _ | exact Kd.Q_nil _ _ _ _ _ | exact Kd.S_nil _ _ _ _ _⟩, ⟨by (with_reducible repeat (first | apply Kd.V_alloc | apply Kd.V_drewN | apply Kd.V_drew)); exact Kd.V_mono (Kd.V_far (p := ⟨gb258, 2, none⟩) (Kd.V_far (p := ⟨gb258, 1, none⟩) (Kd.V_far (p := ⟨gb258, 0, none⟩) (Kd.V_far (p := ⟨gb288, 2, none⟩) (Kd.V_far (p := ⟨gb288, 1, none⟩) (Kd.V_far (p := ⟨gb288, 0, none⟩) (Kd.V_mono (Kd.V_mono HO285.out (fun k_ hk => (⟨hk, hk.2⟩ : _ ∧ k_ ≠ gb288))) (fun k_ hk => (⟨hk, hk.1.1.1⟩ : _ ∧ k_ ≠ gb258))) (fun _ hk => hk.1.2) (.int .i64 t281)) (fun _ hk => hk.1.2) (.int .i64 t282)) (fun _ hk => hk.1.2) (.slice Ao64 t283.length co64)) (fun _ hk => hk.2) (.int .i64 t281)) (fun _ hk => hk.2) (.int .i64 t282)) (fun _ hk => hk.2) (.slice Ao64 t283.length co64)) (fun _ hk => ⟨(by simp [Value.ownBlock]), ⟨hk.1.1.1.1, hk.1.1.1.2⟩⟩)⟩, ⟨by (with_reducible repeat (first | refine blk_drewN ?_ _ | refine blk_drew ?_ | refine blk_alloc ?_ _)); refine blk_put (cs := #[.int .i64 t281, .int .i64 t282, .slice Ao58 x259002_1.length co58]) ?_ 2 _ rfl; (with_reducible repeat (first | refine blk_drewN ?_ _ | refine blk_drew ?_ | refine blk_alloc ?_ _)); refine blk_put (cs := #[.int .i64 t281, .int .i64 x259001_1, .slice Ao58 x259002_1.length co58]) ?_ 1 _ rfl; (with_reducible repeat (first | refine blk_drewN ?_ _ | refine blk_drew ?_ | refine blk_alloc ?_ _)); refine blk_put (cs := #[.int .i64 x259000_1, .int .i64 x259001_1, .slice Ao58 x259002_1.length co58]) ?_ 0 _ rfl; (with_reducible repeat (first | refine blk_drewN ?_ _ | refine blk_drew ?_ | refine blk_alloc ?_ _)); refine blk_far ?_ NB258_288.out _; (with_reducible repeat (first | refine blk_drewN ?_ _ | refine blk_drew ?_ | refine blk_alloc ?_ _)); refine blk_far ?_ NB258_288.out _; (with_reducible repeat (first | refine blk_drewN ?_ _ | refine blk_drew ?_ | refine blk_alloc ?_ _)); refine blk_far ?_ NB258_288.out _; (with_reducible repeat (first | refine blk_drewN ?_ _ | refine blk_drew ?_ | refine blk_alloc ?_ _)); exact BK258.out⟩, ⟨by (with_reducible repeat (first | refine blk_drewN ?_ _ | refine blk_drew ?_ | refine blk_alloc ?_ _)); refine blk_far ?_ NB261_258.out _; (with_reducible repeat (first | refine blk_drewN ?_ _ | refine blk_drew ?_ | refine blk_alloc ?_ _)); refine blk_far ?_ NB261_258.out _; (with_reducible repeat (first | refine blk_drewN ?_ _ | refine blk_drew ?_ | refine blk_alloc ?_ _)); refine blk_far ?_ NB261_258.out _; (with_reducible repeat (first | refine blk_drewN ?_ _ | refine blk_drew ?_ | refine blk_alloc ?_ _)); refine blk_far ?_ NB261_288.out _; (with_reducible repeat (first | refine blk_drewN ?_ _ | refine blk_drew ?_ | refine blk_alloc ?_ _)); refine blk_far ?_ NB261_288.out _; (with_reducible repeat (first | refine blk_drewN ?_ _ | refine blk_drew ?_ | refine blk_alloc ?_ _)); refine blk_far ?_ NB261_288.out _; (with_reducible repeat (first | refine blk_drewN ?_ _ | refine blk_drew ?_ | refine blk_alloc ?_ _)); exact BK261.out⟩, ⟨by repeat (first | (with_reducible first | exact HB.out | apply below_alloc | apply pw_below_drewN | apply below_drew1 | refine below_set ?_ GE258.out | refine below_set ?_ GE261.out | refine below_set ?_ GE288.out) | exact HB.out)⟩⟩
          ·replace c54 := Bool.eq_false_iff.mpr c54
           subst c54
           have H1 : (handshakerlaw18_SemaCounts.j1 k1 (wrap64 (1 + (wrap64 (Int.tmod a0 100)))) t257 x8_1 ([] : List (S50)) l1 (l1.length : Int) x36_1 t281 t282 t283) = some r := by rw [if_neg (show ¬ (false = true) by decide)] at H; exact H
           clear H
           have H := H1
           clear H1
           have H' := Aside0.mk H
           clear H
           have hnb67 := NB261_258.out
           have hnc67 := NB258_261.out
           have hcz68_0 : w15.cell? ⟨gb261, 0, none⟩ = some (.int .i64 0) := (blk_cell BK261.out 0).trans rfl
           have hcz68_1 : w15.cell? ⟨gb261, 1, none⟩ = some (.int .i64 0) := (blk_cell BK261.out 1).trans rfl
           have hfz68_0 := blk_frozen BK261.out 0
           have hfz68_1 := blk_frozen BK261.out 1
           have hcz69_0 : w15.cell? ⟨gb258, 0, none⟩ = some (.int .i64 x259000_1) := (blk_cell BK258.out 0).trans rfl
           have hcz69_1 : w15.cell? ⟨gb258, 1, none⟩ = some (.int .i64 x259001_1) := (blk_cell BK258.out 1).trans rfl
           have hcz69_2 : w15.cell? ⟨gb258, 2, none⟩ = some (u259002) := (blk_cell BK258.out 2).trans rfl
           have hfz69_0 := blk_frozen BK258.out 0
           have hfz69_1 := blk_frozen BK258.out 1
           have hfz69_2 := blk_frozen BK258.out 2
           obtain ⟨Ao70, co70, eo70⟩ := Kd.V_slice HO_259002.out
           subst eo70
           go_wp2_with (first | ((with_reducible refine gate_callee (f := 11) rfl ?_); refine goesL_ (some 46) rfl rfl Try.func11 (by kernel_rfl) rfl #[.agg #[.int .i64 x259000_1, .int .i64 x259001_1, .slice Ao70 x259002_1.length co70], .int .i64 ((rd_T49 l1 x36_1).f0), .int .i64 ((rd_T49 l1 x36_1).f1)] rfl zm ?_; (with_reducible refine (sema_Take.calls k1 x259000_1 x259001_1 (fun k_ => (k_ ≠ gb258 ∧ k_ ≠ gb261)) _ _ x259002_1 ((rd_T49 l1 x36_1).f0) ((rd_T49 l1 x36_1).f1) t281 t282 t283 false t287 _ ?side1 A53.out).mono ?_); (case side1 => exact (by (with_reducible repeat (first | apply Kd.V_alloc | apply Kd.V_drewN | apply Kd.V_drew)); exact (Kd.V_mono (Kd.V_far (p := ⟨gb261, 1, none⟩) (Kd.V_far (p := ⟨gb261, 0, none⟩) (Kd.V_mono HO_259002.out (fun k_ hk => (⟨hk, hk.2⟩ : _ ∧ k_ ≠ gb261))) (fun _ hk => hk.2) (.int .i64 ((rd_T49 l1 x36_1).f0))) (fun _ hk => hk.2) (.int .i64 ((rd_T49 l1 x36_1).f1))) (fun _ h_ => h_.1)))); rintro e w71 ⟨v284, rfl, ho0, hb⟩; refine ⟨_, rfl, ?_⟩; have n0_ := Aside0.mk (Kd.V_below (by (with_reducible repeat (first | apply Kd.V_alloc | apply Kd.V_drewN | apply Kd.V_drew)); exact (Kd.V_mono (Kd.V_far (p := ⟨gb261, 1, none⟩) (Kd.V_far (p := ⟨gb261, 0, none⟩) (Kd.V_mono HO_259002.out (fun k_ hk => (⟨hk, hk.2⟩ : _ ∧ k_ ≠ gb261))) (fun _ hk => hk.2) (.int .i64 ((rd_T49 l1 x36_1).f0))) (fun _ hk => hk.2) (.int .i64 ((rd_T49 l1 x36_1).f1))) (fun _ h_ => h_.1))) hb); have n1_ := Aside0.mk (Kd.V_lower (Kd.V_mono (ok' := fun k_ => k_ ≠ gb258 ∧ k_ ≠ gb261) ho0 (fun k_ hk_ => ⟨Or.elim hk_ (fun hs_ => hs_.1) (fun hn_ => (Kd.freshB (g := gb258) (o := .cells #[.int .i64 x259000_1, .int .i64 x259001_1, .slice Ao70 x259002_1.length co70] 24 (0, 0)) (by (with_reducible repeat (first | refine blk_drewN ?_ _ | refine blk_drew ?_ | refine blk_alloc ?_ _)); refine blk_far ?_ NB258_261.out _; (with_reducible repeat (first | refine blk_drewN ?_ _ | refine blk_drew ?_ | refine blk_alloc ?_ _)); refine blk_far ?_ NB258_261.out _; (with_reducible repeat (first | refine blk_drewN ?_ _ | refine blk_drew ?_ | refine blk_alloc ?_ _)); exact BK258.out) k_ hn_)), Or.elim hk_ (fun hs_ => hs_.2) (fun hn_ => (Kd.freshB (g := gb261) (o := .cells #[.int .i64 ((rd_T49 l1 x36_1).f0), .int .i64 ((rd_T49 l1 x36_1).f1)] 49 (0, 0)) (by (with_reducible repeat (first | refine blk_drewN ?_ _ | refine blk_drew ?_ | refine blk_alloc ?_ _)); refine blk_put (cs := #[.int .i64 ((rd_T49 l1 x36_1).f0), .int .i64 0]) ?_ 1 _ rfl; (with_reducible repeat (first | refine blk_drewN ?_ _ | refine blk_drew ?_ | refine blk_alloc ?_ _)); refine blk_put (cs := #[.int .i64 0, .int .i64 0]) ?_ 0 _ rfl; (with_reducible repeat (first | refine blk_drewN ?_ _ | refine blk_drew ?_ | refine blk_alloc ?_ _)); exact BK261.out) k_ hn_))⟩)) (below_size (zc2 HB GE258 GE261))); have n2_ := Aside0.mk (blk_below (g := gb258) (o := .cells #[.int .i64 x259000_1, .int .i64 x259001_1, .slice Ao70 x259002_1.length co70] 24 (0, 0)) (by (with_reducible repeat (first | refine blk_drewN ?_ _ | refine blk_drew ?_ | refine blk_alloc ?_ _)); refine blk_far ?_ NB258_261.out _; (with_reducible repeat (first | refine blk_drewN ?_ _ | refine blk_drew ?_ | refine blk_alloc ?_ _)); refine blk_far ?_ NB258_261.out _; (with_reducible repeat (first | refine blk_drewN ?_ _ | refine blk_drew ?_ | refine blk_alloc ?_ _)); exact BK258.out) hb); have n3_ := Aside0.mk (blk_below (g := gb261) (o := .cells #[.int .i64 ((rd_T49 l1 x36_1).f0), .int .i64 ((rd_T49 l1 x36_1).f1)] 49 (0, 0)) (by (with_reducible repeat (first | refine blk_drewN ?_ _ | refine blk_drew ?_ | refine blk_alloc ?_ _)); refine blk_put (cs := #[.int .i64 ((rd_T49 l1 x36_1).f0), .int .i64 0]) ?_ 1 _ rfl; (with_reducible repeat (first | refine blk_drewN ?_ _ | refine blk_drew ?_ | refine blk_alloc ?_ _)); refine blk_put (cs := #[.int .i64 0, .int .i64 0]) ?_ 0 _ rfl; (with_reducible repeat (first | refine blk_drewN ?_ _ | refine blk_drew ?_ | refine blk_alloc ?_ _)); exact BK261.out) hb); have n4_ := Aside0.mk (below_step (zc2 HB GE258 GE261) hb); clear HO_259002; clear BK258; clear BK261; clear HB; have HO_259002 := n0_; have HO285 := n1_; have BK258 := n2_; have BK261 := n3_; have HB := n4_; clear n0_ n1_ n2_ n3_ n4_; (try clear hb); (try clear hb2); (try clear hk); (try clear hi); (try clear ho0)) | ((with_reducible refine gate_dst (N := 15) rfl ?_); refine box_event ?hg (N := 15) ?hd (cs := #[.int .i64 0, .int .i64 0, .slice none 0 0]) (t := 24) ?hr ?_; (case hd => rfl); (case hg => rfl); (case hr => first | (go_simp; done) | (go_simp; rfl)); intro gb288 hg w72 hbox hb; have n0_ := Aside0.mk (Kd.V_below (Kd.V_elderB (zV HO_259002) gb288 (Nat.le_of_eq hg.symm)) hb); have n1_ := Aside0.mk (Kd.V_below (Kd.V_elderB (zV HO285) gb288 (Nat.le_of_eq hg.symm)) hb); have n2_ := Aside0.mk (blk_below (g := gb258) (o := .cells #[.int .i64 x259000_1, .int .i64 x259001_1, .slice Ao70 x259002_1.length co70] 24 (0, 0)) (zb BK258) hb); have n3_ := Aside0.mk (blk_below (g := gb261) (o := .cells #[.int .i64 ((rd_T49 l1 x36_1).f0), .int .i64 ((rd_T49 l1 x36_1).f1)] 49 (0, 0)) (zb BK261) hb); have n4_ := Aside0.mk (below_step (zc2 HB GE258 GE261) hb); have n5_ := Aside0.mk (hbox); have n6_ := Aside0.mk ((by rw [hg]; exact (below_size (zc2 HB GE258 GE261)) : w.heap.size ≤ gb288)); have n7_ := Aside0.mk ((by rw [hg]; exact (below_size (zc2 HB GE258 GE261)) : w.heap.size ≤ gb288)); have n8_ := Aside0.mk ((by rw [hg]; exact Nat.ne_of_lt (blk_lt (g := gb258) (o := .cells #[.int .i64 x259000_1, .int .i64 x259001_1, .slice Ao70 x259002_1.length co70] 24 (0, 0)) (zb BK258)) : gb258 ≠ gb288)); have n9_ := Aside0.mk ((by rw [hg]; exact Nat.ne_of_gt (blk_lt (g := gb258) (o := .cells #[.int .i64 x259000_1, .int .i64 x259001_1, .slice Ao70 x259002_1.length co70] 24 (0, 0)) (zb BK258)) : gb288 ≠ gb258)); have n10_ := Aside0.mk ((by rw [hg]; exact Nat.ne_of_lt (blk_lt (g := gb261) (o := .cells #[.int .i64 ((rd_T49 l1 x36_1).f0), .int .i64 ((rd_T49 l1 x36_1).f1)] 49 (0, 0)) (zb BK261)) : gb261 ≠ gb288)); have n11_ := Aside0.mk ((by rw [hg]; exact Nat.ne_of_gt (blk_lt (g := gb261) (o := .cells #[.int .i64 ((rd_T49 l1 x36_1).f0), .int .i64 ((rd_T49 l1 x36_1).f1)] 49 (0, 0)) (zb BK261)) : gb288 ≠ gb261)); clear HO_259002; clear HO285; clear BK258; clear BK261; clear HB; have HO_259002 := n0_; have HO285 := n1_; have BK258 := n2_; have BK261 := n3_; have HB := n4_; have BK288 := n5_; have GW288 := n6_; have GE288 := n7_; have NB258_288 := n8_; have NB288_258 := n9_; have NB261_288 := n10_; have NB288_261 := n11_; clear n0_ n1_ n2_ n3_ n4_ n5_ n6_ n7_ n8_ n9_ n10_ n11_; clear hb hbox hg; have hnb73 := NB288_258.out; have hnc73 := NB258_288.out; have hnb74 := NB288_261.out; have hnc74 := NB261_288.out; have hcz75_0 : w72.cell? ⟨gb288, 0, none⟩ = some (.int .i64 0) := (blk_cell BK288.out 0).trans rfl; have hcz75_1 : w72.cell? ⟨gb288, 1, none⟩ = some (.int .i64 0) := (blk_cell BK288.out 1).trans rfl; have hcz75_2 : w72.cell? ⟨gb288, 2, none⟩ = some (.slice none 0 0) := (blk_cell BK288.out 2).trans rfl; have hfz75_0 := blk_frozen BK288.out 0; have hfz75_1 := blk_frozen BK288.out 1; have hfz75_2 := blk_frozen BK288.out 2; obtain ⟨Ao76, co76, eo76⟩ := Kd.V_slice HO285.out; subst eo76; have hcz77_0 : w72.cell? ⟨gb258, 0, none⟩ = some (.int .i64 x259000_1) := (blk_cell BK258.out 0).trans rfl; have hcz77_1 : w72.cell? ⟨gb258, 1, none⟩ = some (.int .i64 x259001_1) := (blk_cell BK258.out 1).trans rfl; have hcz77_2 : w72.cell? ⟨gb258, 2, none⟩ = some (.slice Ao70 x259002_1.length co70) := (blk_cell BK258.out 2).trans rfl; have hfz77_0 := blk_frozen BK258.out 0; have hfz77_1 := blk_frozen BK258.out 1; have hfz77_2 := blk_frozen BK258.out 2))
           go_meet
           case rel => exact ⟨_, (x8_1), (([] : List (S50))), (t281), (t282), (t283), (.slice Ao76 t283.length co76), (by first | rfl | (simp; done) | (simp [*]; done)), H', ⟨by have := HK1.out; first | omega | exact Nat.le_refl _⟩, ⟨by first | exact Kd.R_nil _ _ _ _ _ | exact Kd.N_nil _ _ _ _ _ | exact Kd.V_nil _ _ _ _ _ | exact Kd.Q_nil _ _ _ _ _ | exact Kd.S_nil _ _ _ _ _⟩, ⟨by (with_reducible repeat (first | apply Kd.V_alloc | apply Kd.V_drewN | apply Kd.V_drew)); exact Kd.V_mono (Kd.V_far (p := ⟨gb258, 2, none⟩) (Kd.V_far (p := ⟨gb258, 1, none⟩) (Kd.V_far (p := ⟨gb258, 0, none⟩) (Kd.V_far (p := ⟨gb288, 2, none⟩) (Kd.V_far (p := ⟨gb288, 1, none⟩) (Kd.V_far (p := ⟨gb288, 0, none⟩) (Kd.V_mono (Kd.V_mono HO285.out (fun k_ hk => (⟨hk, hk.2⟩ : _ ∧ k_ ≠ gb288))) (fun k_ hk => (⟨hk, hk.1.1.1⟩ : _ ∧ k_ ≠ gb258))) (fun _ hk => hk.1.2) (.int .i64 t281)) (fun _ hk => hk.1.2) (.int .i64 t282)) (fun _ hk => hk.1.2) (.slice Ao76 t283.length co76)) (fun _ hk => hk.2) (.int .i64 t281)) (fun _ hk => hk.2) (.int .i64 t282)) (fun _ hk => hk.2) (.slice Ao76 t283.length co76)) (fun _ hk => ⟨(by simp [Value.ownBlock]), ⟨hk.1.1.1.1, hk.1.1.1.2⟩⟩)⟩, ⟨by (with_reducible repeat (first | refine blk_drewN ?_ _ | refine blk_drew ?_ | refine blk_alloc ?_ _)); refine blk_put (cs := #[.int .i64 t281, .int .i64 t282, .slice Ao70 x259002_1.length co70]) ?_ 2 _ rfl; (with_reducible repeat (first | refine blk_drewN ?_ _ | refine blk_drew ?_ | refine blk_alloc ?_ _)); refine blk_put (cs := #[.int .i64 t281, .int .i64 x259001_1, .slice Ao70 x259002_1.length co70]) ?_ 1 _ rfl; (with_reducible repeat (first | refine blk_drewN ?_ _ | refine blk_drew ?_ | refine blk_alloc ?_ _)); refine blk_put (cs := #[.int .i64 x259000_1, .int .i64 x259001_1, .slice Ao70 x259002_1.length co70]) ?_ 0 _ rfl; (with_reducible repeat (first | refine blk_drewN ?_ _ | refine blk_drew ?_ | refine blk_alloc ?_ _)); refine blk_far ?_ NB258_288.out _; (with_reducible repeat (first | refine blk_drewN ?_ _ | refine blk_drew ?_ | refine blk_alloc ?_ _)); refine blk_far ?_ NB258_288.out _; (with_reducible repeat (first | refine blk_drewN ?_ _ | refine blk_drew ?_ | refine blk_alloc ?_ _)); refine blk_far ?_ NB258_288.out _; (with_reducible repeat (first | refine blk_drewN ?_ _ | refine blk_drew ?_ | refine blk_alloc ?_ _)); exact BK258.out⟩, ⟨by (with_reducible repeat (first | refine blk_drewN ?_ _ | refine blk_drew ?_ | refine blk_alloc ?_ _)); refine blk_far ?_ NB261_258.out _; (with_reducible repeat (first | refine blk_drewN ?_ _ | refine blk_drew ?_ | refine blk_alloc ?_ _)); refine blk_far ?_ NB261_258.out _; (with_reducible repeat (first | refine blk_drewN ?_ _ | refine blk_drew ?_ | refine blk_alloc ?_ _)); refine blk_far ?_ NB261_258.out _; (with_reducible repeat (first | refine blk_drewN ?_ _ | refine blk_drew ?_ | refine blk_alloc ?_ _)); refine blk_far ?_ NB261_288.out _; (with_reducible repeat (first | refine blk_drewN ?_ _ | refine blk_drew ?_ | refine blk_alloc ?_ _)); refine blk_far ?_ NB261_288.out _; (with_reducible repeat (first | refine blk_drewN ?_ _ | refine blk_drew ?_ | refine blk_alloc ?_ _)); refine blk_far ?_ NB261_288.out _; (with_reducible repeat (first | refine blk_drewN ?_ _ | refine blk_drew ?_ | refine blk_alloc ?_ _)); exact BK261.out⟩, ⟨by repeat (first | (with_reducible first | exact HB.out | apply below_alloc | apply pw_below_drewN | apply below_drew1 | refine below_set ?_ GE258.out | refine below_set ?_ GE261.out | refine below_set ?_ GE288.out) | exact HB.out)⟩⟩
       case rest =>
        clear HC14
        try clear c1
        try clear c2
        try clear p2
        try clear q2
        try clear hx2
        try clear c3
        try clear c3b0
        try clear c3b1
        try clear c4
        try clear c5
        try clear c6
        try clear p6
        try clear c7
        try clear c9
        try clear c11
        try clear c11b0
        try clear c12
        try clear c12b0
        try clear c13
        try clear c13b0
        try clear c15
        try clear c16
        try clear c17
        try clear c18
        try clear c18b0
        try clear c18b1
        try clear c20
        try clear c20b0
        try clear c20b1
        try clear c21
        try clear p26
        try clear q26
        try clear hx26
        try clear c27
        try clear c28
        try clear c33
        try clear c39
        try clear c40
        try clear c44
        try clear c44b0
        try clear c44b1
        try clear c46
        try clear c54
        try clear c55
        try clear c61
        try clear c62
        try clear p64
        try clear c67
        try clear c73
        try clear c74
        try clear hcz17_0
        try clear hcz17_1
        try clear hcz22_0
        try clear hcz22_1
        try clear hcz23_0
        try clear hcz23_1
        try clear hcz23_2
        try clear hcz29_0
        try clear hcz29_1
        try clear hcz29_2
        try clear hcz31_0
        try clear hcz31_1
        try clear hcz32_0
        try clear hcz32_1
        try clear hcz32_2
        try clear hcz34_0
        try clear hcz34_1
        try clear hcz35_0
        try clear hcz35_1
        try clear hcz35_2
        try clear hcz41_0
        try clear hcz41_1
        try clear hcz41_2
        try clear hcz43_0
        try clear hcz43_1
        try clear hcz43_2
        try clear hcz47_0
        try clear hcz47_1
        try clear hcz48_0
        try clear hcz48_1
        try clear hcz48_2
        try clear hcz51_0
        try clear hcz51_1
        try clear hcz51_2
        try clear hcz56_0
        try clear hcz56_1
        try clear hcz57_0
        try clear hcz57_1
        try clear hcz57_2
        try clear hcz63_0
        try clear hcz63_1
        try clear hcz63_2
        try clear hcz65_0
        try clear hcz65_1
        try clear hcz66_0
        try clear hcz66_1
        try clear hcz66_2
        try clear hcz68_0
        try clear hcz68_1
        try clear hcz69_0
        try clear hcz69_1
        try clear hcz69_2
        try clear hcz75_0
        try clear hcz75_1
        try clear hcz75_2
        try clear hcz77_0
        try clear hcz77_1
        try clear hcz77_2
        try clear hcz9_0
        try clear hcz9_1
        try clear hcz9_2
        try clear hfz17_0
        try clear hfz17_1
        try clear hfz22_0
        try clear hfz22_1
        try clear hfz23_0
        try clear hfz23_1
        try clear hfz23_2
        try clear hfz29_0
        try clear hfz29_1
        try clear hfz29_2
        try clear hfz31_0
        try clear hfz31_1
        try clear hfz32_0
        try clear hfz32_1
        try clear hfz32_2
        try clear hfz34_0
        try clear hfz34_1
        try clear hfz35_0
        try clear hfz35_1
        try clear hfz35_2
        try clear hfz41_0
        try clear hfz41_1
        try clear hfz41_2
        try clear hfz43_0
        try clear hfz43_1
        try clear hfz43_2
        try clear hfz47_0
        try clear hfz47_1
        try clear hfz48_0
        try clear hfz48_1
        try clear hfz48_2
        try clear hfz51_0
        try clear hfz51_1
        try clear hfz51_2
        try clear hfz56_0
        try clear hfz56_1
        try clear hfz57_0
        try clear hfz57_1
        try clear hfz57_2
        try clear hfz63_0
        try clear hfz63_1
        try clear hfz63_2
        try clear hfz65_0
        try clear hfz65_1
        try clear hfz66_0
        try clear hfz66_1
        try clear hfz66_2
        try clear hfz68_0
        try clear hfz68_1
        try clear hfz69_0
        try clear hfz69_1
        try clear hfz69_2
        try clear hfz75_0
        try clear hfz75_1
        try clear hfz75_2
        try clear hfz77_0
        try clear hfz77_1
        try clear hfz77_2
        try clear hfz9_0
        try clear hfz9_1
        try clear hfz9_2
        try clear hx260_0
        try clear hx260_1
        try clear p2
        try clear p260
        try clear p6
        try clear q260
        obtain ⟨kq, x8_13, x11_13, x259000_13, x259001_13, x259002_13, u259002, rfl, HA, HJ13, HO_11, HO_259002, BK258, BK261, HB⟩ := hcut
        cases kq with
        | zero => exact absurd HA.out (by simp [handshakerlaw18_SemaCounts.j1])
        | succ kj13 =>
         have H := HA.out
         clear HA
         simp only [handshakerlaw18_SemaCounts.j1] at H
         have H' := Aside0.mk H
         clear H
         obtain ⟨Ao78, co78, eo78⟩ := Kd.R_slice HO_11.out
         subst eo78
         go_wp2
         go_loopg [8, 90] kj13 (fun kq v8 v90 w' => ∃ (x8_3 : Int) (x90_3 : Int), v8 = .int .i64 x8_3 ∧ v90 = .int .i64 x90_3 ∧ Aside0 (handshakerlaw18_SemaCounts.l1 kq (wrap64 (1 + (wrap64 (Int.tmod a0 100)))) t257 x8_3 l1 (l1.length : Int) x36_1 x11_13 (x11_13.length : Int) x90_3 x259000_13 x259001_13 x259002_13 = some r) ∧ Aside0 (kq ≤ kj13) ∧ Aside0 (Kd.R k50 50 w' w.heap.size (fun _ => True) (.slice Ao78 x11_13.length co78) x11_13) ∧ Aside0 (Kd.V k50 50 w' w.heap.size (fun k_ => some k_ ≠ ((.slice Ao78 x11_13.length co78) : Value).ownBlock ∧ k_ ≠ gb258 ∧ k_ ≠ gb261) u259002 x259002_13) ∧ Aside0 (w'.heap[gb258]? = some (.cells #[.int .i64 x259000_13, .int .i64 x259001_13, u259002] 24 (0, 0))) ∧ Aside0 (w'.heap[gb261]? = some (.cells #[.int .i64 ((rd_T49 l1 x36_1).f0), .int .i64 ((rd_T49 l1 x36_1).f1)] 49 (0, 0))) ∧ Aside0 (Below w.heap.size w w'))
         case atStart => exact ⟨(x8_13), (0), (by first | rfl | (simp; done) | (simp [*]; done)), (by first | rfl | (simp; done) | (simp [*]; done)), H', ⟨Nat.le_refl _⟩, ⟨by (with_reducible repeat (first | apply Kd.R_alloc | apply Kd.R_drewN | apply Kd.R_drew)); exact HO_11.out⟩, ⟨by (with_reducible repeat (first | apply Kd.V_alloc | apply Kd.V_drewN | apply Kd.V_drew)); exact HO_259002.out⟩, ⟨by (with_reducible repeat (first | refine blk_drewN ?_ _ | refine blk_drew ?_ | refine blk_alloc ?_ _)); exact BK258.out⟩, ⟨by (with_reducible repeat (first | refine blk_drewN ?_ _ | refine blk_drew ?_ | refine blk_alloc ?_ _)); exact BK261.out⟩, ⟨by repeat (first | (with_reducible first | exact HB.out | apply below_alloc | apply pw_below_drewN | apply below_drew1 | refine below_set ?_ GE258.out | refine below_set ?_ GE261.out) | exact HB.out)⟩⟩
         case round =>
          clear H'
          try clear c1
          try clear c2
          try clear p2
          try clear q2
          try clear hx2
          try clear c3
          try clear c3b0
          try clear c3b1
          try clear c4
          try clear c5
          try clear c6
          try clear p6
          try clear c7
          try clear c9
          try clear c11
          try clear c11b0
          try clear c12
          try clear c12b0
          try clear c13
          try clear c13b0
          try clear c15
          try clear c16
          try clear c17
          try clear c18
          try clear c18b0
          try clear c18b1
          try clear c20
          try clear c20b0
          try clear c20b1
          try clear c21
          try clear p26
          try clear q26
          try clear hx26
          try clear c27
          try clear c28
          try clear c33
          try clear c39
          try clear c40
          try clear c44
          try clear c44b0
          try clear c44b1
          try clear c46
          try clear c54
          try clear c55
          try clear c61
          try clear c62
          try clear p64
          try clear c67
          try clear c73
          try clear c74
          try clear hcz17_0
          try clear hcz17_1
          try clear hcz22_0
          try clear hcz22_1
          try clear hcz23_0
          try clear hcz23_1
          try clear hcz23_2
          try clear hcz29_0
          try clear hcz29_1
          try clear hcz29_2
          try clear hcz31_0
          try clear hcz31_1
          try clear hcz32_0
          try clear hcz32_1
          try clear hcz32_2
          try clear hcz34_0
          try clear hcz34_1
          try clear hcz35_0
          try clear hcz35_1
          try clear hcz35_2
          try clear hcz41_0
          try clear hcz41_1
          try clear hcz41_2
          try clear hcz43_0
          try clear hcz43_1
          try clear hcz43_2
          try clear hcz47_0
          try clear hcz47_1
          try clear hcz48_0
          try clear hcz48_1
          try clear hcz48_2
          try clear hcz51_0
          try clear hcz51_1
          try clear hcz51_2
          try clear hcz56_0
          try clear hcz56_1
          try clear hcz57_0
          try clear hcz57_1
          try clear hcz57_2
          try clear hcz63_0
          try clear hcz63_1
          try clear hcz63_2
          try clear hcz65_0
          try clear hcz65_1
          try clear hcz66_0
          try clear hcz66_1
          try clear hcz66_2
          try clear hcz68_0
          try clear hcz68_1
          try clear hcz69_0
          try clear hcz69_1
          try clear hcz69_2
          try clear hcz75_0
          try clear hcz75_1
          try clear hcz75_2
          try clear hcz77_0
          try clear hcz77_1
          try clear hcz77_2
          try clear hcz9_0
          try clear hcz9_1
          try clear hcz9_2
          try clear hfz17_0
          try clear hfz17_1
          try clear hfz22_0
          try clear hfz22_1
          try clear hfz23_0
          try clear hfz23_1
          try clear hfz23_2
          try clear hfz29_0
          try clear hfz29_1
          try clear hfz29_2
          try clear hfz31_0
          try clear hfz31_1
          try clear hfz32_0
          try clear hfz32_1
          try clear hfz32_2
          try clear hfz34_0
          try clear hfz34_1
          try clear hfz35_0
          try clear hfz35_1
          try clear hfz35_2
          try clear hfz41_0
          try clear hfz41_1
          try clear hfz41_2
          try clear hfz43_0
          try clear hfz43_1
          try clear hfz43_2
          try clear hfz47_0
          try clear hfz47_1
          try clear hfz48_0
          try clear hfz48_1
          try clear hfz48_2
          try clear hfz51_0
          try clear hfz51_1
          try clear hfz51_2
          try clear hfz56_0
          try clear hfz56_1
          try clear hfz57_0
          try clear hfz57_1
          try clear hfz57_2
          try clear hfz63_0
          try clear hfz63_1
          try clear hfz63_2
          try clear hfz65_0
          try clear hfz65_1
          try clear hfz66_0
          try clear hfz66_1
          try clear hfz66_2
          try clear hfz68_0
          try clear hfz68_1
          try clear hfz69_0
          try clear hfz69_1
          try clear hfz69_2
          try clear hfz75_0
          try clear hfz75_1
          try clear hfz75_2
          try clear hfz77_0
          try clear hfz77_1
          try clear hfz77_2
          try clear hfz9_0
          try clear hfz9_1
          try clear hfz9_2
          try clear hx260_0
          try clear hx260_1
          try clear p2
          try clear p26
          try clear p260
          try clear p6
          try clear p64
          try clear q2
          try clear q26
          try clear q260
          obtain ⟨x8_3, x90_3, rfl, rfl, HA, HK3, HO_88, HO_259002, BK258, BK261, HB⟩ := hrel
          cases gk with
          | zero => exact absurd HA.out (by simp [handshakerlaw18_SemaCounts.l1])
          | succ k3 =>
           have H := HA.out
           clear HA
           simp only [handshakerlaw18_SemaCounts.l1] at H
           by_cases c79 : x90_3 < (x11_13.length : Int)
           ·rw [if_pos c79] at H
            have c79b0 : decide (x90_3 < (x11_13.length : Int)) = true := decide_eq_true c79
            clear c79
            by_cases c80 : 0 ≤ x90_3
            ·rw [if_pos c80] at H
             have c80b0 : decide (0 ≤ x90_3) = true := decide_eq_true c80
             clear c80
             by_cases c81 : x90_3 < (x11_13.length : Int)
             ·rw [if_pos c81] at H
              have c81b0 : decide (x90_3 < (x11_13.length : Int)) = true := decide_eq_true c81
              clear c81
              have H' := Aside0.mk H
              clear H
              have p289 : 0 ≤ (x90_3 : Int) := of_decide_eq_true (by first | (with_reducible assumption) | assumption)
              have q289 : x90_3 < (x11_13.length : Int) := of_decide_eq_true (by first | (with_reducible assumption) | assumption)
              obtain ⟨ad289, e289, hx289_0, hx289_1⟩ := at_T50 (Kd.R_reads' HO_88.out).2.2 x90_3 p289 q289
              cases e289
              replace p289 := eq_true p289
              replace q289 := eq_true q289
              go_wp2_with (first | ((with_reducible refine gate_dst (N := 19) rfl ?_); refine box_event ?hg (N := 19) ?hd (cs := #[.int .i64 0, .int .i64 0]) (t := 50) ?hr ?_; (case hd => rfl); (case hg => rfl); (case hr => first | (go_simp; done) | (go_simp; rfl)); intro gb290 hg w82 hbox hb; have n0_ := Aside0.mk (Kd.R_below (Kd.R_elderB (zR HO_88) gb290 (Nat.le_of_eq hg.symm)) hb); have n1_ := Aside0.mk (Kd.V_below (Kd.V_elderB (zV HO_259002) gb290 (Nat.le_of_eq hg.symm)) hb); have n2_ := Aside0.mk (blk_below (g := gb258) (o := .cells #[.int .i64 x259000_13, .int .i64 x259001_13, u259002] 24 (0, 0)) (zb BK258) hb); have n3_ := Aside0.mk (blk_below (g := gb261) (o := .cells #[.int .i64 ((rd_T49 l1 x36_1).f0), .int .i64 ((rd_T49 l1 x36_1).f1)] 49 (0, 0)) (zb BK261) hb); have n4_ := Aside0.mk (below_step (zc2 HB GE258 GE261) hb); have n5_ := Aside0.mk (hbox); have n6_ := Aside0.mk ((by rw [hg]; exact (below_size (zc2 HB GE258 GE261)) : w.heap.size ≤ gb290)); have n7_ := Aside0.mk ((by rw [hg]; exact (below_size (zc2 HB GE258 GE261)) : w.heap.size ≤ gb290)); have n8_ := Aside0.mk ((by rw [hg]; exact Nat.ne_of_lt (blk_lt (g := gb258) (o := .cells #[.int .i64 x259000_13, .int .i64 x259001_13, u259002] 24 (0, 0)) (zb BK258)) : gb258 ≠ gb290)); have n9_ := Aside0.mk ((by rw [hg]; exact Nat.ne_of_gt (blk_lt (g := gb258) (o := .cells #[.int .i64 x259000_13, .int .i64 x259001_13, u259002] 24 (0, 0)) (zb BK258)) : gb290 ≠ gb258)); have n10_ := Aside0.mk ((by rw [hg]; exact Nat.ne_of_lt (blk_lt (g := gb261) (o := .cells #[.int .i64 ((rd_T49 l1 x36_1).f0), .int .i64 ((rd_T49 l1 x36_1).f1)] 49 (0, 0)) (zb BK261)) : gb261 ≠ gb290)); have n11_ := Aside0.mk ((by rw [hg]; exact Nat.ne_of_gt (blk_lt (g := gb261) (o := .cells #[.int .i64 ((rd_T49 l1 x36_1).f0), .int .i64 ((rd_T49 l1 x36_1).f1)] 49 (0, 0)) (zb BK261)) : gb290 ≠ gb261)); clear HO_88; clear HO_259002; clear BK258; clear BK261; clear HB; have HO_88 := n0_; have HO_259002 := n1_; have BK258 := n2_; have BK261 := n3_; have HB := n4_; have BK290 := n5_; have GW290 := n6_; have GE290 := n7_; have NB258_290 := n8_; have NB290_258 := n9_; have NB261_290 := n10_; have NB290_261 := n11_; clear n0_ n1_ n2_ n3_ n4_ n5_ n6_ n7_ n8_ n9_ n10_ n11_; clear hb hbox hg; have hnb83 := NB290_258.out; have hnc83 := NB258_290.out; have hnb84 := NB290_261.out; have hnc84 := NB261_290.out; have hcz85_0 : w82.cell? ⟨gb290, 0, none⟩ = some (.int .i64 0) := (blk_cell BK290.out 0).trans rfl; have hcz85_1 : w82.cell? ⟨gb290, 1, none⟩ = some (.int .i64 0) := (blk_cell BK290.out 1).trans rfl; have hfz85_0 := blk_frozen BK290.out 0; have hfz85_1 := blk_frozen BK290.out 1))
              go_roundg k3
              case measure => have := HK1.out; have := HJ13.out; have := HK3.out; omega
              case rel => exact ⟨(wrap64 (x8_3 + ((rd_T50 x11_13 x90_3).f1))), (wrap64 (x90_3 + 1)), (by first | rfl | (simp; done) | (simp [*]; done)), (by first | rfl | (simp; done) | (simp [*]; done)), H', ⟨by have := HK1.out; have := HJ13.out; have := HK3.out; omega⟩, ⟨by (with_reducible repeat (first | apply Kd.R_alloc | apply Kd.R_drewN | apply Kd.R_drew)); exact Kd.R_mono (Kd.R_far (p := ⟨gb290, 1, none⟩) (Kd.R_far (p := ⟨gb290, 0, none⟩) (Kd.R_mono HO_88.out (fun k_ hk => (⟨hk, hk.2⟩ : _ ∧ k_ ≠ gb290))) (fun _ hk => hk.2) (.int .i64 ((rd_T50 x11_13 x90_3).f0))) (fun _ hk => hk.2) (.int .i64 ((rd_T50 x11_13 x90_3).f1))) (fun _ hk => trivial)⟩, ⟨by (with_reducible repeat (first | apply Kd.V_alloc | apply Kd.V_drewN | apply Kd.V_drew)); exact Kd.V_mono (Kd.V_far (p := ⟨gb290, 1, none⟩) (Kd.V_far (p := ⟨gb290, 0, none⟩) (Kd.V_mono HO_259002.out (fun k_ hk => (⟨hk, hk.2⟩ : _ ∧ k_ ≠ gb290))) (fun _ hk => hk.2) (.int .i64 ((rd_T50 x11_13 x90_3).f0))) (fun _ hk => hk.2) (.int .i64 ((rd_T50 x11_13 x90_3).f1))) (fun _ hk => ⟨hk.1.1.1, ⟨hk.1.1.2.1, hk.1.1.2.2⟩⟩)⟩, ⟨by (with_reducible repeat (first | refine blk_drewN ?_ _ | refine blk_drew ?_ | refine blk_alloc ?_ _)); refine blk_far ?_ NB258_290.out _; (with_reducible repeat (first | refine blk_drewN ?_ _ | refine blk_drew ?_ | refine blk_alloc ?_ _)); refine blk_far ?_ NB258_290.out _; (with_reducible repeat (first | refine blk_drewN ?_ _ | refine blk_drew ?_ | refine blk_alloc ?_ _)); exact BK258.out⟩, ⟨by (with_reducible repeat (first | refine blk_drewN ?_ _ | refine blk_drew ?_ | refine blk_alloc ?_ _)); refine blk_far ?_ NB261_290.out _; (with_reducible repeat (first | refine blk_drewN ?_ _ | refine blk_drew ?_ | refine blk_alloc ?_ _)); refine blk_far ?_ NB261_290.out _; (with_reducible repeat (first | refine blk_drewN ?_ _ | refine blk_drew ?_ | refine blk_alloc ?_ _)); exact BK261.out⟩, ⟨by repeat (first | (with_reducible first | exact HB.out | apply below_alloc | apply pw_below_drewN | apply below_drew1 | refine below_set ?_ GE258.out | refine below_set ?_ GE261.out | refine below_set ?_ GE290.out) | exact HB.out)⟩⟩
             ·rw [if_neg c81] at H
              exact absurd H (by simp)
            ·rw [if_neg c80] at H
             exact absurd H (by simp)
           ·rw [if_neg c79] at H
            have c79b0 : decide (x90_3 < (x11_13.length : Int)) = false := decide_eq_false c79
            clear c79
            replace H := Option.bind_eq_some_iff.mp H
            obtain ⟨t291, A860, H⟩ := H
            replace H : (if t291 = true then (if (wrap64 (x259001_13 + x8_3)) = (wrap64 (1 + (wrap64 (Int.tmod a0 100)))) then (if x259000_13 = (wrap64 (1 + (wrap64 (Int.tmod a0 100)))) then (handshakerlaw18_SemaCounts.l0 k3 (wrap64 (1 + (wrap64 (Int.tmod a0 100)))) t257 x8_3 l1 (l1.length : Int) (wrap64 (x36_1 + 1)) x259000_13 x259001_13 x259002_13) else (none)) else (none)) else (none)) = some r := H
            have A86 := Aside0.mk A860
            clear A860
            by_cases c87 : t291 = true
            ·subst c87
             have H1 : (if (wrap64 (x259001_13 + x8_3)) = (wrap64 (1 + (wrap64 (Int.tmod a0 100)))) then (if x259000_13 = (wrap64 (1 + (wrap64 (Int.tmod a0 100)))) then (handshakerlaw18_SemaCounts.l0 k3 (wrap64 (1 + (wrap64 (Int.tmod a0 100)))) t257 x8_3 l1 (l1.length : Int) (wrap64 (x36_1 + 1)) x259000_13 x259001_13 x259002_13) else (none)) else (none)) = some r := by rw [if_pos rfl] at H; exact H
             clear H
             have H := H1
             clear H1
             by_cases c88 : (wrap64 (x259001_13 + x8_3)) = (wrap64 (1 + (wrap64 (Int.tmod a0 100))))
             ·rw [if_pos c88] at H
              have c88b0 : ((wrap64 (x259001_13 + x8_3)) == (wrap64 (1 + (wrap64 (Int.tmod a0 100))))) = true := beq_iff_eq.mpr c88
              have c88b1 : ((wrap64 (x259001_13 + x8_3)) != (wrap64 (1 + (wrap64 (Int.tmod a0 100))))) = false := bne_eq_false_iff_eq.mpr c88
              clear c88
              by_cases c89 : x259000_13 = (wrap64 (1 + (wrap64 (Int.tmod a0 100))))
              ·rw [if_pos c89] at H
               have c89b0 : (x259000_13 == (wrap64 (1 + (wrap64 (Int.tmod a0 100))))) = true := beq_iff_eq.mpr c89
               have c89b1 : (x259000_13 != (wrap64 (1 + (wrap64 (Int.tmod a0 100))))) = false := bne_eq_false_iff_eq.mpr c89
               clear c89
               have H' := Aside0.mk H
               clear H
               have hnb90 := NB258_261.out
               have hnc90 := NB261_258.out
               have hcz91_0 : wr.cell? ⟨gb258, 0, none⟩ = some (.int .i64 x259000_13) := (blk_cell BK258.out 0).trans rfl
               have hcz91_1 : wr.cell? ⟨gb258, 1, none⟩ = some (.int .i64 x259001_13) := (blk_cell BK258.out 1).trans rfl
               have hcz91_2 : wr.cell? ⟨gb258, 2, none⟩ = some (u259002) := (blk_cell BK258.out 2).trans rfl
               have hfz91_0 := blk_frozen BK258.out 0
               have hfz91_1 := blk_frozen BK258.out 1
               have hfz91_2 := blk_frozen BK258.out 2
               obtain ⟨Ao92, co92, eo92⟩ := Kd.V_slice HO_259002.out
               subst eo92
               go_wp2_with (first | ((with_reducible refine gate_callee (f := 19) rfl ?_); refine goesL_ (some 100) rfl rfl Try.func19 (by kernel_rfl) rfl #[.agg #[.int .i64 x259000_13, .int .i64 x259001_13, .slice Ao92 x259002_13.length co92]] rfl zm ?_; (with_reducible refine (sema_Right.calls k3 x259000_13 x259001_13 _ _ x259002_13 true _ ?side1 ?side2 A86.out).mono ?_); (case side1 => repeat (first | exact (Kd.V_reads' HO_259002.out).2.2 | (with_reducible refine Kd.C_alloc ?_ _) | (with_reducible refine Kd.C_drewN ?_ _) | (with_reducible refine Kd.C_drew ?_))); (case side2 => exact (Kd.V_reads' HO_259002.out).2.1); rintro e w93 ⟨rfl, hb⟩; refine ⟨_, rfl, ?_⟩; have n0_ := Aside0.mk (Kd.R_below (zR HO_88) hb); have n1_ := Aside0.mk (Kd.V_below (zV HO_259002) hb); have n2_ := Aside0.mk (blk_below (g := gb258) (o := .cells #[.int .i64 x259000_13, .int .i64 x259001_13, .slice Ao92 x259002_13.length co92] 24 (0, 0)) (zb BK258) hb); have n3_ := Aside0.mk (blk_below (g := gb261) (o := .cells #[.int .i64 ((rd_T49 l1 x36_1).f0), .int .i64 ((rd_T49 l1 x36_1).f1)] 49 (0, 0)) (zb BK261) hb); have n4_ := Aside0.mk (below_step (zc2 HB GE258 GE261) hb); clear HO_88; clear HO_259002; clear BK258; clear BK261; clear HB; have HO_88 := n0_; have HO_259002 := n1_; have BK258 := n2_; have BK261 := n3_; have HB := n4_; clear n0_ n1_ n2_ n3_ n4_; (try clear hb); (try clear hb2); (try clear hk); (try clear hi); have hcz94_0 : w93.cell? ⟨gb258, 0, none⟩ = some (.int .i64 x259000_13) := (blk_cell BK258.out 0).trans rfl; have hcz94_1 : w93.cell? ⟨gb258, 1, none⟩ = some (.int .i64 x259001_13) := (blk_cell BK258.out 1).trans rfl; have hcz94_2 : w93.cell? ⟨gb258, 2, none⟩ = some (.slice Ao92 x259002_13.length co92) := (blk_cell BK258.out 2).trans rfl; have hfz94_0 := blk_frozen BK258.out 0; have hfz94_1 := blk_frozen BK258.out 1; have hfz94_2 := blk_frozen BK258.out 2))
               go_roundg k3
               case measure => have := HK1.out; have := HJ13.out; have := HK3.out; omega
               case rel => exact ⟨(x8_3), (wrap64 (x36_1 + 1)), (x259000_13), (x259001_13), (x259002_13), (.slice Ao92 x259002_13.length co92), (by first | rfl | (simp; done) | (simp [*]; done)), (by first | rfl | (simp; done) | (simp [*]; done)), H', ⟨by have := HK1.out; have := HJ13.out; have := HK3.out; omega⟩, ⟨by (with_reducible repeat (first | apply Kd.V_alloc | apply Kd.V_drewN | apply Kd.V_drew)); exact Kd.V_mono HO_259002.out (fun _ hk => hk.2.1)⟩, ⟨by (with_reducible repeat (first | refine blk_drewN ?_ _ | refine blk_drew ?_ | refine blk_alloc ?_ _)); exact BK258.out⟩, ⟨by repeat (first | (with_reducible first | exact HB.out | apply below_alloc | apply pw_below_drewN | apply below_drew1 | refine below_set ?_ GE258.out | refine below_set ?_ GE261.out) | exact HB.out)⟩⟩
              ·rw [if_neg c89] at H
               exact absurd H (by simp)
             ·rw [if_neg c88] at H
              exact absurd H (by simp)
            ·replace c87 := Bool.eq_false_iff.mpr c87
             subst c87
             have H1 : (none) = some r := by rw [if_neg (show ¬ (false = true) by decide)] at H; exact H
             clear H
             have H := H1
             clear H1
             exact absurd H (by simp)
      ·rw [if_neg c13] at H
       exact absurd H (by simp)
     ·rw [if_neg c12] at H
      exact absurd H (by simp)
    ·rw [if_neg c11] at H
     have c11b0 : decide (x36_1 < (l1.length : Int)) = false := decide_eq_false c11
     clear c11
     by_cases c95 : t257 = 0
     ·rw [if_pos c95] at H
      have c95b0 : (t257 == 0) = true := beq_iff_eq.mpr c95
      have c95b1 : (t257 != 0) = false := bne_eq_false_iff_eq.mpr c95
      clear c95
      replace H := Option.bind_eq_some_iff.mp H
      obtain ⟨t259, A960, H⟩ := H
      replace H : (some t259) = some r := H
      have A96 := Aside0.mk A960
      clear A960
      obtain rfl := Option.some.inj H
      go_wp2_with (first | (go_at_call 9; (with_reducible refine (handshakerlaw18_awake.calls k1  t259 _ A96.out).mono ?_); rintro e w97 ⟨rfl, hb⟩; have n0_ := Aside0.mk (Kd.V_below (zV HO_259002) hb); have n1_ := Aside0.mk (blk_below (g := gb258) (o := .cells #[.int .i64 x259000_1, .int .i64 x259001_1, u259002] 24 (0, 0)) (zb BK258) hb); have n2_ := Aside0.mk (below_step (zc1 HB GE258) hb); clear HO_259002; clear BK258; clear HB; have HO_259002 := n0_; have BK258 := n1_; have HB := n2_; clear n0_ n1_ n2_; (try clear hb); (try clear hb2); (try clear hk); (try clear hi)))
      go_ret
      exact ⟨by first | rfl | (simp [errW_none, errW_some] <;> rfl) | (simp [*, errW_none, errW_some] <;> rfl), by repeat (first | (with_reducible first | exact HB.out | apply below_alloc | apply pw_below_drewN | apply below_drew1 | refine below_set ?_ GE258.out) | exact HB.out)⟩
     ·rw [if_neg c95] at H
      exact absurd H (by simp)

end Go.Proofs.Ythbcajkphkdnmaa.PSemaCounts
