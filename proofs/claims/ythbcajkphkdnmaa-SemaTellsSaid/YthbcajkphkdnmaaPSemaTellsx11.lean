/- Lean functions that say what functions of the given program compute, and proofs by walking the code that each call does just that; no condition but those that each statement names. -/
import Derived.Test.YthbcajkphkdnmaaPSemaTellsx0
import Derived.Test.YthbcajkphkdnmaaPSemaTellsx9
import Derived.Test.YthbcajkphkdnmaaPSemaTellsx10
namespace Go.Proofs.Ythbcajkphkdnmaa.PSemaTells
open Go.RowKit Go.Proofs.YthbcajkphkdnmaaW.PrintWords Go.Proofs.YthbcajkphkdnmaaW.PrintLast Go.Proofs.YthbcajkphkdnmaaW.PrintMore
attribute [local go_sem] max2_int min2_int max_two min_two max_three min_three max_four min_four   -- for this text's walks alone
set_option linter.unusedVariables false
set_option linter.unusedSimpArgs false

/-! ### handshakerref18_Take: function 12 -/
def handshakerref18_Take.j0 : Nat → Int → Int → Bool → Int → Int → List (S61) → Option (Int × Int × (List (S61)) × Bool × Int)
 | 0, _, _, _, _, _, _ => none
 | k + 1, x1, x2, x31, x269000, x269001, x269002 => if x31 = true then (some (x269000, x269001, x269002, false, 1)) else ((handshakerref18_find.f k x269002 x1).bind fun t272 => (if t272 ≥ 0 then (some (x269000, x269001, x269002, false, 9)) else (if (x269002.length : Int) = 0 then (if (wrap64 (x269001 - x2)) ≥ 0 then (some (x269000, wrap64 (x269001 - x2), ([] : List (S61)), true, 0)) else (if ([] : List (S61)).length + x269002.length < 8796093022208 then ((some (([] : List (S61)) ++ x269002 : List (S61))).bind fun y273 => (if y273.length < 8796093022208 then (some (x269000, x269001, (y273 ++ [(⟨x1, x2⟩ : S61)]), false, 0)) else (none))) else (none))) else (if ([] : List (S61)).length + x269002.length < 8796093022208 then ((some (([] : List (S61)) ++ x269002 : List (S61))).bind fun y279 => (if y279.length < 8796093022208 then (some (x269000, x269001, (y279 ++ [(⟨x1, x2⟩ : S61)]), false, 0)) else (none))) else (none)))))
def handshakerref18_Take.f (k : Nat) (a0_0 : Int) (a0_1 : Int) (l0_2 : List (S61)) (a1 : Int) (a2 : Int) : Option (Int × Int × (List (S61)) × Bool × Int) := (handshakerref18_Right.f k a0_0 a0_1 l0_2).bind fun t270 => ((handshakerref03_Who.f a1).bind fun t271 => (if t270 = true then (if t271 = true then (if a2 < 1 then (handshakerref18_Take.j0 k a1 a2 true a0_0 a0_1 l0_2) else (handshakerref18_Take.j0 k a1 a2 (decide (a2 > a0_0)) a0_0 a0_1 l0_2)) else (handshakerref18_Take.j0 k a1 a2 true a0_0 a0_1 l0_2)) else (handshakerref18_Take.j0 k a1 a2 true a0_0 a0_1 l0_2)))
theorem handshakerref18_Take.mono_l : ∀ k, (∀ y0 y1 y2 y3 y4 y5, LeO (handshakerref18_Take.j0 k y0 y1 y2 y3 y4 y5) (handshakerref18_Take.j0 (k + 1) y0 y1 y2 y3 y4 y5))
 | 0 => fun _ _ _ _ _ _ r h => by simp [handshakerref18_Take.j0] at h
 | k + 1 => by
  have ih0 := handshakerref18_Take.mono_l k
  ·intro y0 y1 y2 y3 y4 y5
   unfold handshakerref18_Take.j0
   repeat' first
   | (with_reducible exact ih0 _ _ _ _ _ _)
   | (with_reducible exact handshakerref18_Right.mono _ _ _ _)
   | (with_reducible exact handshakerref18_find.mono _ _ _)
   | (with_reducible exact LeO.refl _)
   | (with_reducible exact LeO.none _)
   | (with_reducible refine LeO.ite ?_ ?_)
   | (with_reducible refine LeO.bind ?_ (fun _ => ?_))
   | exact ih0 _ _ _ _ _ _
   | exact handshakerref18_Right.mono _ _ _ _
   | exact handshakerref18_find.mono _ _ _
   | exact LeO.none _
   | refine LeO.ite ?_ ?_
   | refine LeO.bind ?_ (fun _ => ?_)
theorem handshakerref18_Take.mono : ∀ a0 a1 a2 a3 a4 k, LeO (handshakerref18_Take.f k a0 a1 a2 a3 a4) (handshakerref18_Take.f (k + 1) a0 a1 a2 a3 a4) := by
 intro a0 a1 a2 a3 a4 k
 have ih0 := handshakerref18_Take.mono_l k
 unfold handshakerref18_Take.f
 repeat' first
   | (with_reducible exact ih0 _ _ _ _ _ _)
   | (with_reducible exact handshakerref18_Right.mono _ _ _ _)
   | (with_reducible exact handshakerref18_find.mono _ _ _)
   | (with_reducible exact LeO.refl _)
   | (with_reducible exact LeO.none _)
   | (with_reducible refine LeO.ite ?_ ?_)
   | (with_reducible refine LeO.bind ?_ (fun _ => ?_))
   | exact ih0 _ _ _ _ _ _
   | exact handshakerref18_Right.mono _ _ _ _
   | exact handshakerref18_find.mono _ _ _
   | exact LeO.none _
   | refine LeO.ite ?_ ?_
   | refine LeO.bind ?_ (fun _ => ?_)
def handshakerref18_Take.T10 : Bool × List (List Nat × List Nat) := (true, [([], []), ([0], [0]), ([], []), ([2], [2]), ([], []), ([], []), ([], []), ([5, 6], [5, 6]), ([7], [7]), ([4, 8], [4, 8]), ([1, 3, 9], [1, 3, 9]), ([10, 9, 0, 1, 2, 3, 4, 5, 6, 7, 8, 9, 10], [10]), ([11, 0, 1, 2, 3, 4, 5, 6, 7, 8, 9, 10, 11], []), ([12, 0, 1, 2, 3, 4, 5, 6, 7, 8, 9, 10, 11, 12], [])])
def handshakerref18_Take.B10 : List Nat := [0, 1, 0, 4, 0, 0, 0, 96, 224, 496, 1023, 2047, 4095, 8191]
theorem handshakerref18_Take.tab10 : rtab .any (opsOf Try.f12 10) = handshakerref18_Take.T10 := by kernel_rfl
theorem handshakerref18_Take.bits10 : waitsOk handshakerref18_Take.T10.2 handshakerref18_Take.B10 = true := by kernel_rfl
set_option maxHeartbeats 8000000 in
set_option maxRecDepth 100000 in
theorem handshakerref18_Take.calls (k : Nat) (a0_0 : Int) (a0_1 : Int) (P0_2_ : Nat → Prop) (A0_2 : Option Addr) (c0_2 : Nat) (l0_2 : List (S61)) (a1 : Int) (a2 : Int) (r1 : Int) (r2 : Int) (r3 : List (S61)) (r4 : Bool) (r5 : Int) (w : World) (hs0_2 : Kd.V k61 61 w w.heap.size (fun k_ => P0_2_ k_) (.slice A0_2 l0_2.length c0_2) l0_2) (h : handshakerref18_Take.f k a0_0 a0_1 l0_2 a1 a2 = some (r1, r2, r3, r4, r5)) :
  Calls Try.prog 12 #[.agg #[.int .i64 a0_0, .int .i64 a0_1, .slice A0_2 l0_2.length c0_2], .int .i64 a1, .int .i64 a2] w fun e w' => ∃ v2_ : Value, e = .returned (.tuple #[.agg #[.int .i64 r1, .int .i64 r2, v2_], .bool r4, .int .i64 r5]) ∧ Kd.V k61 61 w' w.heap.size (fun k_ => (P0_2_ k_ ∨ w.heap.size ≤ k_)) v2_ r3 ∧ Below w.heap.size w w' := by
 have hu28 := Try.underlying28
 have hu61 := Try.underlying61
 have HO0_2 := am (show Kd.V k61 61 w w.heap.size (fun k_ => (P0_2_ k_ ∨ w.heap.size ≤ k_)) (.slice A0_2 l0_2.length c0_2) l0_2 from Kd.V_mono hs0_2 (fun k_ hk => .inl hk))
 have HB := am (Below.refl w.heap.size w)
 have H : ((handshakerref18_Right.f k a0_0 a0_1 l0_2).bind fun t270 => ((handshakerref03_Who.f a1).bind fun t271 => (if t270 = true then (if t271 = true then (if a2 < 1 then (handshakerref18_Take.j0 k a1 a2 true a0_0 a0_1 l0_2) else (handshakerref18_Take.j0 k a1 a2 (decide (a2 > a0_0)) a0_0 a0_1 l0_2)) else (handshakerref18_Take.j0 k a1 a2 true a0_0 a0_1 l0_2)) else (handshakerref18_Take.j0 k a1 a2 true a0_0 a0_1 l0_2)))) = some (r1, r2, r3, r4, r5) := h
 clear h
 replace H := Option.bind_eq_some_iff.mp H
 obtain ⟨t270, A40, H⟩ := H
 try dsimp only at H
 have A4 := am A40
 clear A40
 replace H := Option.bind_eq_some_iff.mp H
 obtain ⟨t271, A50, H⟩ := H
 try dsimp only at H
 have A5 := am A50
 clear A50
 have HC6 := am H
 clear H
 go_enter Try.func12, Try.ntmps12
 go_upto_region 2 with (first | ((with_reducible refine gate_dst (N := 3) rfl ?_); refine box_event ?hg (N := 3) ?hd (cs := #[.int .i64 a0_0, .int .i64 a0_1, .slice A0_2 l0_2.length c0_2]) (t := 28) ?hr ?_; (case hd => rfl); (case hg => rfl); (case hr => first | (go_simp; done) | (go_simp; rfl)); intro gb268 hg w7 hbox hb; replace HO0_2 := zVe HO0_2 hg hb; have BK268 := am (hbox); have GW268 := zsz hg (zc0 HB); have GE268 := zsz hg (zc0 HB); replace HB := am (below_step (zc0 HB) hb); clear hb hbox hg) | ((with_reducible refine gate_dst (N := 6) rfl ?_); refine box_event ?hg (N := 6) ?hd (cs := #[.int .i64 0, .int .i64 0, .slice none 0 0]) (t := 28) ?hr ?_; (case hd => rfl); (case hg => rfl); (case hr => first | (go_simp; done) | (go_simp; rfl)); intro gb269 hg w8 hbox hb; replace HO0_2 := zVe HO0_2 hg hb; have BK269 := am (hbox); have GW269 := zsz hg (zc1 HB GE268); have GE269 := zsz hg (zc1 HB GE268); replace HB := am (below_step (zc1 HB GE268) hb); have NB268_269 := znt BK268 hg; have NB269_268 := zng BK268 hg; replace BK268 := zbb BK268 hb; clear hb hbox hg; have hnb9 := NB268_269.out; have hnc9 := NB269_268.out; have hcz10_0 : w8.cell? ⟨gb268, 0, none⟩ = some (.int .i64 a0_0) := (blk_cell BK268.out 0).trans rfl; have hcz10_1 : w8.cell? ⟨gb268, 1, none⟩ = some (.int .i64 a0_1) := (blk_cell BK268.out 1).trans rfl; have hcz10_2 : w8.cell? ⟨gb268, 2, none⟩ = some (.slice A0_2 l0_2.length c0_2) := (blk_cell BK268.out 2).trans rfl; have hfz10_0 := blk_frozen BK268.out 0; have hfz10_1 := blk_frozen BK268.out 1; have hfz10_2 := blk_frozen BK268.out 2) | ((with_reducible refine gate_callee (f := 18) rfl ?_); refine goesL_ (some 13) rfl rfl Try.func18 (by kernel_rfl) rfl #[.agg #[.int .i64 a0_0, .int .i64 a0_1, .slice A0_2 l0_2.length c0_2]] rfl zm ?_; (with_reducible refine (handshakerref18_Right.calls k a0_0 a0_1 _ _ l0_2 t270 _ ?side1 ?side2 A4.out).mono ?_); (case side1 => repeat (first | exact (Kd.V_reads' HO0_2.out).2.2 | (with_reducible refine Kd.C_alloc ?_ _) | (with_reducible refine Kd.C_drewN ?_ _) | (with_reducible refine Kd.C_drew ?_))); (case side2 => exact (Kd.V_reads' HO0_2.out).2.1); rintro e w11 ⟨rfl, hb⟩; refine ⟨_, rfl, ?_⟩; replace HO0_2 := zVb HO0_2 hb; replace BK268 := zbb BK268 hb; replace BK269 := zbb BK269 hb; replace HB := am (below_step (zc2 HB GE268 GE269) hb); (try clear hb); (try clear hb2); (try clear hk); (try clear hi)) | ((with_reducible refine gate_callee (f := 27) rfl ?_); refine goesL_ (some 15) rfl rfl Try.func27 (by kernel_rfl) rfl #[.int .i64 a1] rfl zm ?_; (with_reducible refine (handshakerref03_Who.calls a1 t271 _ A5.out).mono ?_); rintro e w' ⟨rfl, ⟨nd, rfl⟩⟩; refine ⟨_, rfl, ?_⟩))
 (try simp only [Act.put, List.setIfInBounds_toArray, List.set_cons_zero, List.set_cons_succ])
 go_cut [31] (fun v31 wc => ∃ (kq : Nat) (x31_5 : Bool), v31 = .bool x31_5 ∧ Aside0 (handshakerref18_Take.j0 kq a1 a2 x31_5 a0_0 a0_1 l0_2 = some (r1, r2, r3, r4, r5)) ∧ Aside0 (kq ≤ k) ∧ Aside0 (Kd.V k61 61 wc w.heap.size (fun k_ => (P0_2_ k_ ∨ w.heap.size ≤ k_) ∧ k_ ≠ gb268 ∧ k_ ≠ gb269) (.slice A0_2 l0_2.length c0_2) l0_2) ∧ Aside0 (wc.heap[gb268]? = some (.cells #[.int .i64 a0_0, .int .i64 a0_1, (.slice A0_2 l0_2.length c0_2)] 28 (0, 0))) ∧ Aside0 (wc.heap[gb269]? = some (.cells #[.int .i64 0, .int .i64 0, (.slice none 0 0)] 28 (0, 0))) ∧ Aside0 (Below w.heap.size w wc))
 case first =>
  have H := HC6.out
  clear HC6
  by_cases c12 : t270 = true
  ·subst c12
   have H1 : (if t271 = true then (if a2 < 1 then (handshakerref18_Take.j0 k a1 a2 true a0_0 a0_1 l0_2) else (handshakerref18_Take.j0 k a1 a2 (decide (a2 > a0_0)) a0_0 a0_1 l0_2)) else (handshakerref18_Take.j0 k a1 a2 true a0_0 a0_1 l0_2)) = some (r1, r2, r3, r4, r5) := by rw [if_pos rfl] at H; exact H
   clear H
   have H := H1
   clear H1
   by_cases c13 : t271 = true
   ·subst c13
    have H1 : (if a2 < 1 then (handshakerref18_Take.j0 k a1 a2 true a0_0 a0_1 l0_2) else (handshakerref18_Take.j0 k a1 a2 (decide (a2 > a0_0)) a0_0 a0_1 l0_2)) = some (r1, r2, r3, r4, r5) := by rw [if_pos rfl] at H; exact H
    clear H
    have H := H1
    clear H1
    by_cases c14 : a2 < 1
    ·rw [if_pos c14] at H
     have c14b0 : decide (a2 < 1) = true := decide_eq_true c14
     clear c14
     (first | rw [c14b0] | (simp only [i64_w, i32_w]; rw [c14b0]) | skip)
     have H' := am H
     clear H
     go_wp2
     go_meet
     case rel => exact ⟨_, (true), (by first | rfl | (simp; done) | (simp [*]; done)), H', ⟨by first | omega | exact Nat.le_refl _⟩, ⟨by (with_reducible repeat (first | apply Kd.V_alloc | apply Kd.V_drewN | apply Kd.V_drew)); exact Kd.V_mono HO0_2.out (fun _ hk => ⟨hk.1.1, ⟨hk.1.2, hk.2⟩⟩)⟩, ⟨by (with_reducible repeat (first | refine blk_drewN ?_ _ | refine blk_drew ?_ | refine blk_alloc ?_ _)); exact BK268.out⟩, ⟨by (with_reducible repeat (first | refine blk_drewN ?_ _ | refine blk_drew ?_ | refine blk_alloc ?_ _)); exact BK269.out⟩, ⟨by repeat (first | (with_reducible first | exact HB.out | apply below_alloc | apply pw_below_drewN | apply below_drew1 | refine below_set ?_ GE268.out | refine below_set ?_ GE269.out) | exact HB.out)⟩⟩
    ·rw [if_neg c14] at H
     have c14b0 : decide (a2 < 1) = false := decide_eq_false c14
     clear c14
     (first | rw [c14b0] | (simp only [i64_w, i32_w]; rw [c14b0]) | skip)
     have H' := am H
     clear H
     have hnb15 := NB268_269.out
     have hnc15 := NB269_268.out
     have hcz16_0 : w11.cell? ⟨gb268, 0, none⟩ = some (.int .i64 a0_0) := (blk_cell BK268.out 0).trans rfl
     have hcz16_1 : w11.cell? ⟨gb268, 1, none⟩ = some (.int .i64 a0_1) := (blk_cell BK268.out 1).trans rfl
     have hcz16_2 : w11.cell? ⟨gb268, 2, none⟩ = some (.slice A0_2 l0_2.length c0_2) := (blk_cell BK268.out 2).trans rfl
     have hfz16_0 := blk_frozen BK268.out 0
     have hfz16_1 := blk_frozen BK268.out 1
     have hfz16_2 := blk_frozen BK268.out 2
     go_wp2
     go_meet
     case rel => exact ⟨_, (decide (a2 > a0_0)), (by first | rfl | (simp; done) | (simp [*]; done)), H', ⟨by first | omega | exact Nat.le_refl _⟩, ⟨by (with_reducible repeat (first | apply Kd.V_alloc | apply Kd.V_drewN | apply Kd.V_drew)); exact Kd.V_mono HO0_2.out (fun _ hk => ⟨hk.1.1, ⟨hk.1.2, hk.2⟩⟩)⟩, ⟨by (with_reducible repeat (first | refine blk_drewN ?_ _ | refine blk_drew ?_ | refine blk_alloc ?_ _)); exact BK268.out⟩, ⟨by (with_reducible repeat (first | refine blk_drewN ?_ _ | refine blk_drew ?_ | refine blk_alloc ?_ _)); exact BK269.out⟩, ⟨by repeat (first | (with_reducible first | exact HB.out | apply below_alloc | apply pw_below_drewN | apply below_drew1 | refine below_set ?_ GE268.out | refine below_set ?_ GE269.out) | exact HB.out)⟩⟩
   ·replace c13 := Bool.eq_false_iff.mpr c13
    subst c13
    have H1 : (handshakerref18_Take.j0 k a1 a2 true a0_0 a0_1 l0_2) = some (r1, r2, r3, r4, r5) := by rw [if_neg (show ¬ (false = true) by decide)] at H; exact H
    clear H
    have H := H1
    clear H1
    have H' := am H
    clear H
    go_wp2
    go_meet
    case rel => exact ⟨_, (true), (by first | rfl | (simp; done) | (simp [*]; done)), H', ⟨by first | omega | exact Nat.le_refl _⟩, ⟨by (with_reducible repeat (first | apply Kd.V_alloc | apply Kd.V_drewN | apply Kd.V_drew)); exact Kd.V_mono HO0_2.out (fun _ hk => ⟨hk.1.1, ⟨hk.1.2, hk.2⟩⟩)⟩, ⟨by (with_reducible repeat (first | refine blk_drewN ?_ _ | refine blk_drew ?_ | refine blk_alloc ?_ _)); exact BK268.out⟩, ⟨by (with_reducible repeat (first | refine blk_drewN ?_ _ | refine blk_drew ?_ | refine blk_alloc ?_ _)); exact BK269.out⟩, ⟨by repeat (first | (with_reducible first | exact HB.out | apply below_alloc | apply pw_below_drewN | apply below_drew1 | refine below_set ?_ GE268.out | refine below_set ?_ GE269.out) | exact HB.out)⟩⟩
  ·replace c12 := Bool.eq_false_iff.mpr c12
   subst c12
   have H1 : (handshakerref18_Take.j0 k a1 a2 true a0_0 a0_1 l0_2) = some (r1, r2, r3, r4, r5) := by rw [if_neg (show ¬ (false = true) by decide)] at H; exact H
   clear H
   have H := H1
   clear H1
   have H' := am H
   clear H
   go_wp2
   go_meet
   case rel => exact ⟨_, (true), (by first | rfl | (simp; done) | (simp [*]; done)), H', ⟨by first | omega | exact Nat.le_refl _⟩, ⟨by (with_reducible repeat (first | apply Kd.V_alloc | apply Kd.V_drewN | apply Kd.V_drew)); exact Kd.V_mono HO0_2.out (fun _ hk => ⟨hk.1.1, ⟨hk.1.2, hk.2⟩⟩)⟩, ⟨by (with_reducible repeat (first | refine blk_drewN ?_ _ | refine blk_drew ?_ | refine blk_alloc ?_ _)); exact BK268.out⟩, ⟨by (with_reducible repeat (first | refine blk_drewN ?_ _ | refine blk_drew ?_ | refine blk_alloc ?_ _)); exact BK269.out⟩, ⟨by repeat (first | (with_reducible first | exact HB.out | apply below_alloc | apply pw_below_drewN | apply below_drew1 | refine below_set ?_ GE268.out | refine below_set ?_ GE269.out) | exact HB.out)⟩⟩
 case rest =>
  clear HC6
  try clear c1
  try clear c2
  try clear p2
  try clear c9
  try clear c12
  try clear c13
  try clear c14
  try clear c14b0
  try clear c15
  try clear hcz10_0
  try clear hcz10_1
  try clear hcz10_2
  try clear hcz16_0
  try clear hcz16_1
  try clear hcz16_2
  try clear hfz10_0
  try clear hfz10_1
  try clear hfz10_2
  try clear hfz16_0
  try clear hfz16_1
  try clear hfz16_2
  obtain ⟨kq, x31_5, rfl, HA, HJ5, HO_269002, BK268, BK269, HB⟩ := hcut
  cases kq with
  | zero => exact absurd HA.out (by simp [handshakerref18_Take.j0])
  | succ kj5 =>
   have H := HA.out
   clear HA
   simp only [handshakerref18_Take.j0] at H
   by_cases c17 : x31_5 = true
   ·subst c17
    have H1 : (some (a0_0, a0_1, l0_2, false, 1)) = some (r1, r2, r3, r4, r5) := by rw [if_pos rfl] at H; exact H
    clear H
    have H := H1
    clear H1
    simp only [Option.some.injEq, Prod.mk.injEq] at H
    obtain ⟨rfl, rfl, rfl, rfl, rfl⟩ := H
    have hnb18 := NB268_269.out
    have hnc18 := NB269_268.out
    have hcz19_0 : wc.cell? ⟨gb268, 0, none⟩ = some (.int .i64 a0_0) := (blk_cell BK268.out 0).trans rfl
    have hcz19_1 : wc.cell? ⟨gb268, 1, none⟩ = some (.int .i64 a0_1) := (blk_cell BK268.out 1).trans rfl
    have hcz19_2 : wc.cell? ⟨gb268, 2, none⟩ = some (.slice A0_2 l0_2.length c0_2) := (blk_cell BK268.out 2).trans rfl
    have hfz19_0 := blk_frozen BK268.out 0
    have hfz19_1 := blk_frozen BK268.out 1
    have hfz19_2 := blk_frozen BK268.out 2
    have hcz20_0 : wc.cell? ⟨gb269, 0, none⟩ = some (.int .i64 0) := (blk_cell BK269.out 0).trans rfl
    have hcz20_1 : wc.cell? ⟨gb269, 1, none⟩ = some (.int .i64 0) := (blk_cell BK269.out 1).trans rfl
    have hcz20_2 : wc.cell? ⟨gb269, 2, none⟩ = some (.slice none 0 0) := (blk_cell BK269.out 2).trans rfl
    have hfz20_0 := blk_frozen BK269.out 0
    have hfz20_1 := blk_frozen BK269.out 1
    have hfz20_2 := blk_frozen BK269.out 2
    go_wp2
    refine bodyPost_ret (results_ctt rfl _ _ gb269 28 #[.int .i64 a0_0, .int .i64 a0_1, .slice A0_2 l0_2.length c0_2] (0, 0) _ rfl (by (with_reducible repeat (first | refine blk_drewN ?_ _ | refine blk_drew ?_ | refine blk_alloc ?_ _)); refine blk_put (cs := #[.int .i64 a0_0, .int .i64 a0_1, .slice none 0 0]) ?_ 2 _ rfl; (with_reducible repeat (first | refine blk_drewN ?_ _ | refine blk_drew ?_ | refine blk_alloc ?_ _)); refine blk_put (cs := #[.int .i64 a0_0, .int .i64 0, .slice none 0 0]) ?_ 1 _ rfl; (with_reducible repeat (first | refine blk_drewN ?_ _ | refine blk_drew ?_ | refine blk_alloc ?_ _)); refine blk_put (cs := #[.int .i64 0, .int .i64 0, .slice none 0 0]) ?_ 0 _ rfl; (with_reducible repeat (first | refine blk_drewN ?_ _ | refine blk_drew ?_ | refine blk_alloc ?_ _)); exact BK269.out) Try.underlying28 rfl (by kernel_rfl)) rfl ?_
    exact ⟨_, by first | rfl | (simp [errW_none, errW_some] <;> rfl) | (simp [*, errW_none, errW_some] <;> rfl), by (with_reducible repeat (first | apply Kd.V_alloc | apply Kd.V_drewN | apply Kd.V_drew)); exact Kd.V_mono (Kd.V_far (p := ⟨gb269, 2, none⟩) (Kd.V_far (p := ⟨gb269, 1, none⟩) (Kd.V_far (p := ⟨gb269, 0, none⟩) (Kd.V_mono HO_269002.out (fun k_ hk => (⟨hk, hk.2.2⟩ : _ ∧ k_ ≠ gb269))) (fun _ hk => hk.2) (.int .i64 a0_0)) (fun _ hk => hk.2) (.int .i64 a0_1)) (fun _ hk => hk.2) (.slice A0_2 l0_2.length c0_2)) (fun _ hk => hk.1.1), by repeat (first | (with_reducible first | exact HB.out | apply below_alloc | apply pw_below_drewN | apply below_drew1 | refine below_set ?_ GE268.out | refine below_set ?_ GE269.out) | exact HB.out)⟩
   ·replace c17 := Bool.eq_false_iff.mpr c17
    subst c17
    have H1 : ((handshakerref18_find.f kj5 l0_2 a1).bind fun t272 => (if t272 ≥ 0 then (some (a0_0, a0_1, l0_2, false, 9)) else (if (l0_2.length : Int) = 0 then (if (wrap64 (a0_1 - a2)) ≥ 0 then (some (a0_0, wrap64 (a0_1 - a2), ([] : List (S61)), true, 0)) else (if ([] : List (S61)).length + l0_2.length < 8796093022208 then ((some (([] : List (S61)) ++ l0_2 : List (S61))).bind fun y273 => (if y273.length < 8796093022208 then (some (a0_0, a0_1, (y273 ++ [(⟨a1, a2⟩ : S61)]), false, 0)) else (none))) else (none))) else (if ([] : List (S61)).length + l0_2.length < 8796093022208 then ((some (([] : List (S61)) ++ l0_2 : List (S61))).bind fun y279 => (if y279.length < 8796093022208 then (some (a0_0, a0_1, (y279 ++ [(⟨a1, a2⟩ : S61)]), false, 0)) else (none))) else (none))))) = some (r1, r2, r3, r4, r5) := by rw [if_neg (show ¬ (false = true) by decide)] at H; exact H
    clear H
    have H := H1
    clear H1
    replace H := Option.bind_eq_some_iff.mp H
    obtain ⟨t272, A210, H⟩ := H
    try dsimp only at H
    have A21 := am A210
    clear A210
    by_cases c22 : t272 ≥ 0
    ·rw [if_pos c22] at H
     have c22b0 : decide (0 ≤ t272) = true := decide_eq_true c22
     clear c22
     simp only [Option.some.injEq, Prod.mk.injEq] at H
     obtain ⟨rfl, rfl, rfl, rfl, rfl⟩ := H
     have hnb23 := NB268_269.out
     have hnc23 := NB269_268.out
     have hcz24_0 : wc.cell? ⟨gb268, 0, none⟩ = some (.int .i64 a0_0) := (blk_cell BK268.out 0).trans rfl
     have hcz24_1 : wc.cell? ⟨gb268, 1, none⟩ = some (.int .i64 a0_1) := (blk_cell BK268.out 1).trans rfl
     have hcz24_2 : wc.cell? ⟨gb268, 2, none⟩ = some (.slice A0_2 l0_2.length c0_2) := (blk_cell BK268.out 2).trans rfl
     have hfz24_0 := blk_frozen BK268.out 0
     have hfz24_1 := blk_frozen BK268.out 1
     have hfz24_2 := blk_frozen BK268.out 2
     go_wp2_with (first | ((with_reducible refine gate_callee (f := 28) rfl ?_); refine goesL_ (some 36) rfl rfl Try.func28 (by kernel_rfl) rfl #[.slice A0_2 l0_2.length c0_2, .int .i64 a1] rfl zm ?_; (with_reducible refine (handshakerref18_find.calls kj5 _ _ l0_2 a1 t272 _ ?side1 ?side2 A21.out).mono ?_); (case side1 => repeat (first | exact (Kd.V_reads' HO_269002.out).2.2 | (with_reducible refine Kd.C_alloc ?_ _) | (with_reducible refine Kd.C_drewN ?_ _) | (with_reducible refine Kd.C_drew ?_))); (case side2 => exact (Kd.V_reads' HO_269002.out).2.1); rintro e w' ⟨rfl, ⟨nd, rfl⟩⟩; refine ⟨_, rfl, ?_⟩; (try (rw [drewN_self wc]; generalize hq_ : World.drewN wc _ = wc; have n0_ : Aside0 (Kd.V k61 61 wc w.heap.size (fun k_ => (P0_2_ k_ ∨ w.heap.size ≤ k_) ∧ k_ ≠ gb268 ∧ k_ ≠ gb269) (.slice A0_2 l0_2.length c0_2) l0_2) := ⟨by rw [← hq_]; exact (zV HO_269002)⟩; have n1_ : Aside0 (wc.heap[gb268]? = some (.cells #[.int .i64 a0_0, .int .i64 a0_1, .slice A0_2 l0_2.length c0_2] 28 (0, 0))) := ⟨by rw [← hq_]; exact (zb BK268)⟩; have n2_ : Aside0 (wc.heap[gb269]? = some (.cells #[.int .i64 0, .int .i64 0, .slice none 0 0] 28 (0, 0))) := ⟨by rw [← hq_]; exact (zb BK269)⟩; have n3_ : Aside0 (Below w.heap.size w wc) := ⟨by rw [← hq_]; exact (zc2 HB GE268 GE269)⟩; clear HO_269002 BK268 BK269 HB hq_; have HO_269002 := n0_; have BK268 := n1_; have BK269 := n2_; have HB := n3_; clear n0_ n1_ n2_ n3_)); have hcz25_0 : wc.cell? ⟨gb268, 0, none⟩ = some (.int .i64 a0_0) := (blk_cell BK268.out 0).trans rfl; have hcz25_1 : wc.cell? ⟨gb268, 1, none⟩ = some (.int .i64 a0_1) := (blk_cell BK268.out 1).trans rfl; have hcz25_2 : wc.cell? ⟨gb268, 2, none⟩ = some (.slice A0_2 l0_2.length c0_2) := (blk_cell BK268.out 2).trans rfl; have hfz25_0 := blk_frozen BK268.out 0; have hfz25_1 := blk_frozen BK268.out 1; have hfz25_2 := blk_frozen BK268.out 2; have hcz26_0 : wc.cell? ⟨gb269, 0, none⟩ = some (.int .i64 0) := (blk_cell BK269.out 0).trans rfl; have hcz26_1 : wc.cell? ⟨gb269, 1, none⟩ = some (.int .i64 0) := (blk_cell BK269.out 1).trans rfl; have hcz26_2 : wc.cell? ⟨gb269, 2, none⟩ = some (.slice none 0 0) := (blk_cell BK269.out 2).trans rfl; have hfz26_0 := blk_frozen BK269.out 0; have hfz26_1 := blk_frozen BK269.out 1; have hfz26_2 := blk_frozen BK269.out 2))
     refine bodyPost_ret (results_ctt rfl _ _ gb269 28 #[.int .i64 a0_0, .int .i64 a0_1, .slice A0_2 l0_2.length c0_2] (0, 0) _ rfl (by (with_reducible repeat (first | refine blk_drewN ?_ _ | refine blk_drew ?_ | refine blk_alloc ?_ _)); refine blk_put (cs := #[.int .i64 a0_0, .int .i64 a0_1, .slice none 0 0]) ?_ 2 _ rfl; (with_reducible repeat (first | refine blk_drewN ?_ _ | refine blk_drew ?_ | refine blk_alloc ?_ _)); refine blk_put (cs := #[.int .i64 a0_0, .int .i64 0, .slice none 0 0]) ?_ 1 _ rfl; (with_reducible repeat (first | refine blk_drewN ?_ _ | refine blk_drew ?_ | refine blk_alloc ?_ _)); refine blk_put (cs := #[.int .i64 0, .int .i64 0, .slice none 0 0]) ?_ 0 _ rfl; (with_reducible repeat (first | refine blk_drewN ?_ _ | refine blk_drew ?_ | refine blk_alloc ?_ _)); exact BK269.out) Try.underlying28 rfl (by kernel_rfl)) rfl ?_
     exact ⟨_, by first | rfl | (simp [errW_none, errW_some] <;> rfl) | (simp [*, errW_none, errW_some] <;> rfl), by (with_reducible repeat (first | apply Kd.V_alloc | apply Kd.V_drewN | apply Kd.V_drew)); exact Kd.V_mono (Kd.V_far (p := ⟨gb269, 2, none⟩) (Kd.V_far (p := ⟨gb269, 1, none⟩) (Kd.V_far (p := ⟨gb269, 0, none⟩) (Kd.V_mono HO_269002.out (fun k_ hk => (⟨hk, hk.2.2⟩ : _ ∧ k_ ≠ gb269))) (fun _ hk => hk.2) (.int .i64 a0_0)) (fun _ hk => hk.2) (.int .i64 a0_1)) (fun _ hk => hk.2) (.slice A0_2 l0_2.length c0_2)) (fun _ hk => hk.1.1), by repeat (first | (with_reducible first | exact HB.out | apply below_alloc | apply pw_below_drewN | apply below_drew1 | refine below_set ?_ GE268.out | refine below_set ?_ GE269.out) | exact HB.out)⟩
    ·rw [if_neg c22] at H
     have c22b0 : decide (0 ≤ t272) = false := decide_eq_false c22
     clear c22
     by_cases c27 : (l0_2.length : Int) = 0
     ·rw [if_pos c27] at H
      have c27b0 : ((l0_2.length : Int) == 0) = true := beq_iff_eq.mpr c27
      have c27b1 : ((l0_2.length : Int) != 0) = false := bne_eq_false_iff_eq.mpr c27
      clear c27
      by_cases c28 : (wrap64 (a0_1 - a2)) ≥ 0
      ·rw [if_pos c28] at H
       have c28b0 : decide (0 ≤ (wrap64 (a0_1 - a2))) = true := decide_eq_true c28
       clear c28
       simp only [Option.some.injEq, Prod.mk.injEq] at H
       obtain ⟨rfl, rfl, rfl, rfl, rfl⟩ := H
       have hnb29 := NB268_269.out
       have hnc29 := NB269_268.out
       have hcz30_0 : wc.cell? ⟨gb268, 0, none⟩ = some (.int .i64 a0_0) := (blk_cell BK268.out 0).trans rfl
       have hcz30_1 : wc.cell? ⟨gb268, 1, none⟩ = some (.int .i64 a0_1) := (blk_cell BK268.out 1).trans rfl
       have hcz30_2 : wc.cell? ⟨gb268, 2, none⟩ = some (.slice A0_2 l0_2.length c0_2) := (blk_cell BK268.out 2).trans rfl
       have hfz30_0 := blk_frozen BK268.out 0
       have hfz30_1 := blk_frozen BK268.out 1
       have hfz30_2 := blk_frozen BK268.out 2
       go_wp2_with (first | ((with_reducible refine gate_callee (f := 28) rfl ?_); refine goesL_ (some 36) rfl rfl Try.func28 (by kernel_rfl) rfl #[.slice A0_2 l0_2.length c0_2, .int .i64 a1] rfl zm ?_; (with_reducible refine (handshakerref18_find.calls kj5 _ _ l0_2 a1 t272 _ ?side1 ?side2 A21.out).mono ?_); (case side1 => repeat (first | exact (Kd.V_reads' HO_269002.out).2.2 | (with_reducible refine Kd.C_alloc ?_ _) | (with_reducible refine Kd.C_drewN ?_ _) | (with_reducible refine Kd.C_drew ?_))); (case side2 => exact (Kd.V_reads' HO_269002.out).2.1); rintro e w' ⟨rfl, ⟨nd, rfl⟩⟩; refine ⟨_, rfl, ?_⟩; (try (rw [drewN_self wc]; generalize hq_ : World.drewN wc _ = wc; have n0_ : Aside0 (Kd.V k61 61 wc w.heap.size (fun k_ => (P0_2_ k_ ∨ w.heap.size ≤ k_) ∧ k_ ≠ gb268 ∧ k_ ≠ gb269) (.slice A0_2 l0_2.length c0_2) l0_2) := ⟨by rw [← hq_]; exact (zV HO_269002)⟩; have n1_ : Aside0 (wc.heap[gb268]? = some (.cells #[.int .i64 a0_0, .int .i64 a0_1, .slice A0_2 l0_2.length c0_2] 28 (0, 0))) := ⟨by rw [← hq_]; exact (zb BK268)⟩; have n2_ : Aside0 (wc.heap[gb269]? = some (.cells #[.int .i64 0, .int .i64 0, .slice none 0 0] 28 (0, 0))) := ⟨by rw [← hq_]; exact (zb BK269)⟩; have n3_ : Aside0 (Below w.heap.size w wc) := ⟨by rw [← hq_]; exact (zc2 HB GE268 GE269)⟩; clear HO_269002 BK268 BK269 HB hq_; have HO_269002 := n0_; have BK268 := n1_; have BK269 := n2_; have HB := n3_; clear n0_ n1_ n2_ n3_)); have hcz31_0 : wc.cell? ⟨gb268, 0, none⟩ = some (.int .i64 a0_0) := (blk_cell BK268.out 0).trans rfl; have hcz31_1 : wc.cell? ⟨gb268, 1, none⟩ = some (.int .i64 a0_1) := (blk_cell BK268.out 1).trans rfl; have hcz31_2 : wc.cell? ⟨gb268, 2, none⟩ = some (.slice A0_2 l0_2.length c0_2) := (blk_cell BK268.out 2).trans rfl; have hfz31_0 := blk_frozen BK268.out 0; have hfz31_1 := blk_frozen BK268.out 1; have hfz31_2 := blk_frozen BK268.out 2; have hcz32_0 : wc.cell? ⟨gb269, 0, none⟩ = some (.int .i64 0) := (blk_cell BK269.out 0).trans rfl; have hcz32_1 : wc.cell? ⟨gb269, 1, none⟩ = some (.int .i64 0) := (blk_cell BK269.out 1).trans rfl; have hcz32_2 : wc.cell? ⟨gb269, 2, none⟩ = some (.slice none 0 0) := (blk_cell BK269.out 2).trans rfl; have hfz32_0 := blk_frozen BK269.out 0; have hfz32_1 := blk_frozen BK269.out 1; have hfz32_2 := blk_frozen BK269.out 2))
       refine bodyPost_ret (results_ctt rfl _ _ gb269 28 #[.int .i64 a0_0, .int .i64 (wrap64 (a0_1 - a2)), .slice none 0 0] (0, 0) _ rfl (by (with_reducible repeat (first | refine blk_drewN ?_ _ | refine blk_drew ?_ | refine blk_alloc ?_ _)); refine blk_put (cs := #[.int .i64 a0_0, .int .i64 (wrap64 (a0_1 - a2)), .slice none 0 0]) ?_ 2 _ rfl; (with_reducible repeat (first | refine blk_drewN ?_ _ | refine blk_drew ?_ | refine blk_alloc ?_ _)); refine blk_put (cs := #[.int .i64 a0_0, .int .i64 0, .slice none 0 0]) ?_ 1 _ rfl; (with_reducible repeat (first | refine blk_drewN ?_ _ | refine blk_drew ?_ | refine blk_alloc ?_ _)); refine blk_put (cs := #[.int .i64 0, .int .i64 0, .slice none 0 0]) ?_ 0 _ rfl; (with_reducible repeat (first | refine blk_drewN ?_ _ | refine blk_drew ?_ | refine blk_alloc ?_ _)); exact BK269.out) Try.underlying28 rfl (by kernel_rfl)) rfl ?_
       exact ⟨_, by first | rfl | (simp [errW_none, errW_some] <;> rfl) | (simp [*, errW_none, errW_some] <;> rfl), by first | exact Kd.R_nil _ _ _ _ _ | exact Kd.N_nil _ _ _ _ _ | exact Kd.V_nil _ _ _ _ _ | exact Kd.Q_nil _ _ _ _ _ | exact Kd.S_nil _ _ _ _ _, by repeat (first | (with_reducible first | exact HB.out | apply below_alloc | apply pw_below_drewN | apply below_drew1 | refine below_set ?_ GE268.out | refine below_set ?_ GE269.out) | exact HB.out)⟩
      ·rw [if_neg c28] at H
       have c28b0 : decide (0 ≤ (wrap64 (a0_1 - a2))) = false := decide_eq_false c28
       clear c28
       by_cases c33 : ([] : List (S61)).length + l0_2.length < 8796093022208
       ·rw [if_pos c33] at H
        have LMc33 := am c33
        clear c33
        obtain ⟨y273, hy273⟩ : ∃ y_ : List (S61), y_ = (([] : List (S61)) ++ l0_2) := ⟨_, rfl⟩
        replace H : (if y273.length < 8796093022208 then (some (a0_0, a0_1, (y273 ++ [(⟨a1, a2⟩ : S61)]), false, 0)) else (none)) = some (r1, r2, r3, r4, r5) := by first | (rw [hy273]; with_reducible exact H) | (have H2_ := (Option.bind_some _ _).symm.trans H; rw [hy273]; with_reducible exact H2_) | (have H2_ := (Option.bind_some _ _).symm.trans H; with_reducible exact H2_) | with_reducible exact H | (rw [hy273]; exact H) | exact H
        have Ny273 := am hy273
        clear hy273
        by_cases c34 : y273.length < 8796093022208
        ·rw [if_pos c34] at H
         have LMc34 := am c34
         clear c34
         obtain ⟨y276, hy276⟩ : ∃ y_ : List (S61), y_ = (y273 ++ [(⟨a1, a2⟩ : S61)]) := ⟨_, rfl⟩
         replace H : (some (a0_0, a0_1, y276, false, 0)) = some (r1, r2, r3, r4, r5) := by first | (rw [hy276]; with_reducible exact H) | (have H2_ := (Option.bind_some _ _).symm.trans H; rw [hy276]; with_reducible exact H2_) | (have H2_ := (Option.bind_some _ _).symm.trans H; with_reducible exact H2_) | with_reducible exact H | (rw [hy276]; exact H) | exact H
         have Ny276 := am hy276
         clear hy276
         simp only [Option.some.injEq, Prod.mk.injEq] at H
         obtain ⟨rfl, rfl, rfl, rfl, rfl⟩ := H
         have hnb35 := NB268_269.out
         have hnc35 := NB269_268.out
         have hcz36_0 : wc.cell? ⟨gb268, 0, none⟩ = some (.int .i64 a0_0) := (blk_cell BK268.out 0).trans rfl
         have hcz36_1 : wc.cell? ⟨gb268, 1, none⟩ = some (.int .i64 a0_1) := (blk_cell BK268.out 1).trans rfl
         have hcz36_2 : wc.cell? ⟨gb268, 2, none⟩ = some (.slice A0_2 l0_2.length c0_2) := (blk_cell BK268.out 2).trans rfl
         have hfz36_0 := blk_frozen BK268.out 0
         have hfz36_1 := blk_frozen BK268.out 1
         have hfz36_2 := blk_frozen BK268.out 2
         try go_wp2_with (first | ((with_reducible refine gate_callee (f := 28) rfl ?_); refine goesL_ (some 36) rfl rfl Try.func28 (by kernel_rfl) rfl #[.slice A0_2 l0_2.length c0_2, .int .i64 a1] rfl zm ?_; (with_reducible refine (handshakerref18_find.calls kj5 _ _ l0_2 a1 t272 _ ?side1 ?side2 A21.out).mono ?_); (case side1 => repeat (first | exact (Kd.V_reads' HO_269002.out).2.2 | (with_reducible refine Kd.C_alloc ?_ _) | (with_reducible refine Kd.C_drewN ?_ _) | (with_reducible refine Kd.C_drew ?_))); (case side2 => exact (Kd.V_reads' HO_269002.out).2.1); rintro e w' ⟨rfl, ⟨nd, rfl⟩⟩; refine ⟨_, rfl, ?_⟩; (try (rw [drewN_self wc]; generalize hq_ : World.drewN wc _ = wc; have n0_ : Aside0 (Kd.V k61 61 wc w.heap.size (fun k_ => (P0_2_ k_ ∨ w.heap.size ≤ k_) ∧ k_ ≠ gb268 ∧ k_ ≠ gb269) (.slice A0_2 l0_2.length c0_2) l0_2) := ⟨by rw [← hq_]; exact (zV HO_269002)⟩; have n1_ : Aside0 (wc.heap[gb268]? = some (.cells #[.int .i64 a0_0, .int .i64 a0_1, .slice A0_2 l0_2.length c0_2] 28 (0, 0))) := ⟨by rw [← hq_]; exact (zb BK268)⟩; have n2_ : Aside0 (wc.heap[gb269]? = some (.cells #[.int .i64 0, .int .i64 0, .slice none 0 0] 28 (0, 0))) := ⟨by rw [← hq_]; exact (zb BK269)⟩; have n3_ : Aside0 (Below w.heap.size w wc) := ⟨by rw [← hq_]; exact (zc2 HB GE268 GE269)⟩; clear HO_269002 BK268 BK269 HB hq_; have HO_269002 := n0_; have BK268 := n1_; have BK269 := n2_; have HB := n3_; clear n0_ n1_ n2_ n3_)); have hcz37_0 : wc.cell? ⟨gb268, 0, none⟩ = some (.int .i64 a0_0) := (blk_cell BK268.out 0).trans rfl; have hcz37_1 : wc.cell? ⟨gb268, 1, none⟩ = some (.int .i64 a0_1) := (blk_cell BK268.out 1).trans rfl; have hcz37_2 : wc.cell? ⟨gb268, 2, none⟩ = some (.slice A0_2 l0_2.length c0_2) := (blk_cell BK268.out 2).trans rfl; have hfz37_0 := blk_frozen BK268.out 0; have hfz37_1 := blk_frozen BK268.out 1; have hfz37_2 := blk_frozen BK268.out 2) | ((with_reducible refine gate_builtin (b := .append) (xs := #[.tmp 57, .tmp 59]) rfl ?_); at_builtin; refine Kd.R_append_rows k61 (w0 := w) w.heap.size rfl (.tmp 57) (.tmp 59) 26 61 (.agg #[(.int .i64 0), (.int .i64 0)]) 16 rfl Try.underlying26 info61 rfl (by decide) (by omega) (.slice none 0 0) ([] : List (S61)) l0_2 _ _ _ (fun k_ => (w.heap.size ≤ k_)) (fun _ => False) rfl rfl ?aO ?aR (fun _ _ h => h) (fun _ h => h.elim) ?aF ?aB ?aS ?aL ?_; (case aR => repeat (first | exact (Kd.V_reads' HO_269002.out).2.2 | (with_reducible refine Kd.C_alloc ?_ _) | (with_reducible refine Kd.C_drewN ?_ _) | (with_reducible refine Kd.C_drew ?_))); (case aB => exact (zc2 HB GE268 GE269)); (case aF => exact (fun k_ hk => (Nat.le_trans (below_size (zc2 HB GE268 GE269)) hk))); (case aO => exact ((Kd.R_nil _ _ _ _ (fun k_ => (w.heap.size ≤ k_))))); (case aS => exact (below_size (zc2 HB GE268 GE269))); (case aL => have := LMc33.out; omega); intro v274 w38 ho hb hg hat; rw [← Ny273.out] at ho; replace HO_269002 := am (Kd.V_afterv (Kd.V_apart_nil (zV HO_269002)) hg hat); replace BK268 := am (blk_grown (g := gb268) (o := .cells #[.int .i64 a0_0, .int .i64 a0_1, .slice A0_2 l0_2.length c0_2] 28 (0, 0)) (zb BK268) hg (by simp [Value.ownBlock])); replace BK269 := am (blk_grown (g := gb269) (o := .cells #[.int .i64 0, .int .i64 0, .slice none 0 0] 28 (0, 0)) (zb BK269) hg (by simp [Value.ownBlock])); replace HB := am (hb); have HO275 := am (ho); clear ho hb hg hat))
         replace HO_269002 := am (Kd.V_drew HO_269002.out)
         replace HO275 := am (Kd.R_drew HO275.out)
         replace BK268 := am (blk_drew BK268.out)
         replace BK269 := am (blk_drew BK269.out)
         replace HB := am (below_drew1 HB.out)
         refine start_ (n := 14) (S := fun w' => w'.cell? ⟨gb268, 0, none⟩ = some (.int .i64 a0_0) ∧ w'.cell? ⟨gb268, 1, none⟩ = some (.int .i64 a0_1) ∧ w'.cell? ⟨gb268, 2, none⟩ = some (.slice A0_2 l0_2.length c0_2)) (ds := []) #[false, false, false, false, false, false, false, false, false, false, false, false, false, false] (by kernel_rfl) rfl rfl ⟨(blk_cell BK268.out 0).trans rfl, (blk_cell BK268.out 1).trans rfl, (blk_cell BK268.out 2).trans rfl⟩ (fun hHeld => ?_); refine with_tabW handshakerref18_Take.tab10 handshakerref18_Take.bits10 (fun HT_ HW_ => ?_)
         generalize w38.drew = w39 at HO_269002 HO275 BK268 BK269 HB hHeld ⊢
         refine pure_ (i := 0) (N := some 61) (v := ?_) (a' := ?_) #[true, false, false, false, false, false, false, false, false, false, false, false, false, false] rfl rfl (any_of HT_.out (by kernel_rfl)) (fun _ _ _ h => h) (Or.inl ⟨by rfl, ?_⟩) ?_ ?_
         rotate_left
         ·intro w'
          go_simp
          with_reducible rfl
         rotate_left
         ·simp only [Act.put, List.setIfInBounds_toArray, List.set_cons_zero, List.set_cons_succ, i64_w, i32_w]
          rfl
         refine pure_ (i := 2) (N := some 63) (v := ?_) (a' := ?_) #[true, false, true, false, false, false, false, false, false, false, false, false, false, false] rfl rfl (any_of HT_.out (by kernel_rfl)) (fun _ _ _ h => h) (Or.inl ⟨by rfl, ?_⟩) ?_ ?_
         rotate_left
         ·intro w'
          go_simp
          with_reducible rfl
         rotate_left
         ·simp only [Act.put, List.setIfInBounds_toArray, List.set_cons_zero, List.set_cons_succ, i64_w, i32_w]
          rfl
         refine pure_ (i := 4) (N := some 65) (v := ?_) (a' := ?_) #[true, false, true, false, true, false, false, false, false, false, false, false, false, false] rfl rfl (any_of HT_.out (by kernel_rfl)) (fun _ _ _ h => h) (Or.inl ⟨by rfl, ?_⟩) ?_ ?_
         rotate_left
         ·intro w'
          go_simp
          with_reducible rfl
         rotate_left
         ·simp only [Act.put, List.setIfInBounds_toArray, List.set_cons_zero, List.set_cons_succ, i64_w, i32_w]
          rfl
         refine pure_ (i := 5) (N := some 66) (v := ?_) (a' := ?_) #[true, false, true, false, true, true, false, false, false, false, false, false, false, false] rfl rfl (any_of HT_.out (by kernel_rfl)) (fun _ _ _ h => h) (Or.inl ⟨by rfl, ?_⟩) ?_ ?_
         rotate_left
         ·intro w'
          go_simp
          with_reducible rfl
         rotate_left
         ·simp only [Act.put, List.setIfInBounds_toArray, List.set_cons_zero, List.set_cons_succ, i64_w, i32_w]
          rfl
         refine pure_ (i := 6) (N := some 67) (v := ?_) (a' := ?_) #[true, false, true, false, true, true, true, false, false, false, false, false, false, false] rfl rfl (any_of HT_.out (by kernel_rfl)) (fun _ _ _ h => h) (Or.inl ⟨by rfl, ?_⟩) ?_ ?_
         rotate_left
         ·intro w'
          go_simp
          with_reducible rfl
         rotate_left
         ·simp only [Act.put, List.setIfInBounds_toArray, List.set_cons_zero, List.set_cons_succ, i64_w, i32_w]
          rfl
         refine pure_ (i := 7) (N := some 68) (v := ?_) (a' := ?_) #[true, false, true, false, true, true, true, true, false, false, false, false, false, false] rfl rfl (any_of HT_.out (by kernel_rfl)) (fun _ _ _ h => h) (Or.inl ⟨by rfl, ?_⟩) ?_ ?_
         rotate_left
         ·intro w'
          go_simp
          with_reducible rfl
         rotate_left
         ·simp only [Act.put, List.setIfInBounds_toArray, List.set_cons_zero, List.set_cons_succ, i64_w, i32_w]
          rfl
         refine take_ (i := 1) (N := some 62) (v := ?_) (a' := ?_) #[true, true, true, false, true, true, true, true, false, false, false, false, false, false] rfl rfl (take_ofW HT_.out HW_.out (by kernel_rfl)) (fun _ _ _ h => h) (Or.inl ⟨by rfl, ?_⟩) hHeld ?_ ?_
         rotate_left
         ·rintro w' ⟨s0, s1, s2⟩
          go_simp
          with_reducible rfl
         rotate_left
         ·simp only [Act.put, List.setIfInBounds_toArray, List.set_cons_zero, List.set_cons_succ, i64_w, i32_w]
          rfl
         refine take_ (i := 3) (N := some 64) (v := ?_) (a' := ?_) #[true, true, true, true, true, true, true, true, false, false, false, false, false, false] rfl rfl (take_ofW HT_.out HW_.out (by kernel_rfl)) (fun _ _ _ h => h) (Or.inl ⟨by rfl, ?_⟩) hHeld ?_ ?_
         rotate_left
         ·rintro w' ⟨s0, s1, s2⟩
          go_simp
          with_reducible rfl
         rotate_left
         ·simp only [Act.put, List.setIfInBounds_toArray, List.set_cons_zero, List.set_cons_succ, i64_w, i32_w]
          rfl
         refine one_ (i := 8) (N := some 69) #[true, true, true, true, true, true, true, true, true, false, false, false, false, false] rfl rfl (one_of HT_.out (by kernel_rfl)) (by decide) (fun K hK => ?_)
         refine value_ (w1 := ?_) (v := ?_) (by rfl) rfl ?_ ?_
         rotate_left 2
         ·go_simp
          constructor
          ·rfl
          ·rfl
         refine hK.out _ _ ⟨(blk_cell (blk_alloc BK268.out _) 0).trans rfl, (blk_cell (blk_alloc BK268.out _) 1).trans rfl, (blk_cell (blk_alloc BK268.out _) 2).trans rfl⟩ (fun hHeld => ?_)
         clear hK K
         refine norm_ (a' := ?_) ?_ ?_
         rotate_left
         ·show Act.put _ (some 69) _ = _
          simp only [Act.put, List.setIfInBounds_toArray, List.set_cons_zero, List.set_cons_succ, i64_w, i32_w]
          rfl
         refine one_ (i := 9) (N := some 70) #[true, true, true, true, true, true, true, true, true, true, false, false, false, false] rfl rfl (one_of HT_.out (by kernel_rfl)) (by decide) (fun K hK => ?_)
         refine Kd.R_append_step k61 (w0 := w) w.heap.size (by rfl) (.tmp 65) (.tmp 69) 26 61 (.agg #[(.int .i64 0), (.int .i64 0)]) 16 rfl Try.underlying26 info61 rfl (by decide) (by omega) v274 y273 (⟨a1, a2⟩ : S61) [.int .i64 a1, .int .i64 a2] (fun k_ => (w.heap.size ≤ k_)) (fun _ => False) rfl rfl ?aP (fun _ hk => hk.elim) ?aF ?aO ?aB ?aS ?aL ?_
         (case aP => exact k61_mkM _ _ _ (⟨a1, a2⟩ : S61))
         (case aB => exact (zc2 HB GE268 GE269))
         (case aF => exact (fun k_ hk => (Nat.le_trans (below_size (zc2 HB GE268 GE269)) hk)))
         (case aO => exact (zR HO275))
         (case aS => exact (below_size (zc2 HB GE268 GE269)))
         (case aL => have := LMc34.out; omega)
         intro v277 w40 ho hb hg hat
         rw [← Ny276.out] at ho
         replace HO_269002 := am (Kd.V_afterv (ok := (fun k_ => (P0_2_ k_ ∨ w.heap.size ≤ k_) ∧ k_ ≠ gb268 ∧ k_ ≠ gb269)) (zV HO_269002) hg hat)
         replace BK268 := am (blk_grown (g := gb268) (o := .cells #[.int .i64 a0_0, .int .i64 a0_1, .slice A0_2 l0_2.length c0_2] 28 (0, 0)) (zb BK268) hg (Kd.R_ne HO275.out BK268.out (by decide)))
         replace BK269 := am (blk_grown (g := gb269) (o := .cells #[.int .i64 0, .int .i64 0, .slice none 0 0] 28 (0, 0)) (zb BK269) hg (Kd.R_ne HO275.out BK269.out (by decide)))
         replace HB := am (hb)
         have HO278 := am (ho)
         clear HO275
         clear ho hb hg hat
         obtain ⟨Ao41, co41, eo41⟩ := Kd.R_slice HO278.out
         (first | subst eo41 | (injection eo41 with f1_ f2_ f3_; have f4_ := f1_.symm; have f5_ := f3_.symm; clear f1_ f2_ f3_; subst f4_; subst f5_))
         refine hK.out _ _ ⟨(blk_cell BK268.out 0).trans rfl, (blk_cell BK268.out 1).trans rfl, (blk_cell BK268.out 2).trans rfl⟩ (fun hHeld => ?_)
         clear hK K
         refine norm_ (a' := ?_) ?_ ?_
         rotate_left
         ·show Act.put _ (some 70) _ = _
          simp only [Act.put, List.setIfInBounds_toArray, List.set_cons_zero, List.set_cons_succ, i64_w, i32_w]
          rfl
         refine pure_ (i := 10) (N := some 71) (v := ?_) (a' := ?_) #[true, true, true, true, true, true, true, true, true, true, true, false, false, false] rfl rfl (any_of HT_.out (by kernel_rfl)) (fun _ _ _ h => h) (Or.inl ⟨by rfl, ?_⟩) ?_ ?_
         rotate_left
         ·intro w'
          go_simp
          with_reducible rfl
         rotate_left
         ·simp only [Act.put, List.setIfInBounds_toArray, List.set_cons_zero, List.set_cons_succ, i64_w, i32_w]
          rfl
         refine one_ (i := 11) (N := none) #[true, true, true, true, true, true, true, true, true, true, true, true, false, false] rfl rfl (one_of HT_.out (by kernel_rfl)) (by decide) (fun K hK => ?_)
         have hs42 : w40.cell? ⟨gb269, 0, none⟩ = some (.int .i64 0) := (blk_cell BK269.out 0).trans rfl
         have hfs42 := blk_frozen BK269.out 0
         have hns42_0 := NB268_269.out
         have hms42_0 := NB269_268.out
         have hs43 : w40.cell? ⟨gb269, 1, none⟩ = some (.int .i64 0) := (blk_cell BK269.out 1).trans rfl
         have hfs43 := blk_frozen BK269.out 1
         have hns43_0 := NB268_269.out
         have hms43_0 := NB269_268.out
         have hs44 : w40.cell? ⟨gb269, 2, none⟩ = some (.slice none 0 0) := (blk_cell BK269.out 2).trans rfl
         have hfs44 := blk_frozen BK269.out 2
         have hns44_0 := NB268_269.out
         have hms44_0 := NB269_268.out
         refine skip_ (w1 := ?_) (by rfl) rfl ?_ ?_
         rotate_left
         ·go_simp
          rfl
         refine hK.out _ _ ⟨((cell_far (p := ⟨gb269, _, none⟩) NB268_269.out _).trans (((cell_far (p := ⟨gb269, _, none⟩) NB268_269.out _).trans (((cell_far (p := ⟨gb269, _, none⟩) NB268_269.out _).trans (hHeld.1)))))), ((cell_far (p := ⟨gb269, _, none⟩) NB268_269.out _).trans (((cell_far (p := ⟨gb269, _, none⟩) NB268_269.out _).trans (((cell_far (p := ⟨gb269, _, none⟩) NB268_269.out _).trans (hHeld.2.1)))))), ((cell_far (p := ⟨gb269, _, none⟩) NB268_269.out _).trans (((cell_far (p := ⟨gb269, _, none⟩) NB268_269.out _).trans (((cell_far (p := ⟨gb269, _, none⟩) NB268_269.out _).trans (hHeld.2.2))))))⟩ (fun hHeld => ?_)
         clear hK K
         refine pure_ (i := 12) (N := some 7) (v := ?_) (a' := ?_) #[true, true, true, true, true, true, true, true, true, true, true, true, true, false] rfl rfl (any_of HT_.out (by kernel_rfl)) (fun _ _ _ h => h) (Or.inl ⟨by rfl, ?_⟩) ?_ ?_
         rotate_left
         ·intro w'
          go_simp
          with_reducible rfl
         rotate_left
         ·simp only [Act.put, List.setIfInBounds_toArray, List.set_cons_zero, List.set_cons_succ, i64_w, i32_w]
          rfl
         refine pure_ (i := 13) (N := some 8) (v := ?_) (a' := ?_) #[true, true, true, true, true, true, true, true, true, true, true, true, true, true] rfl rfl (any_of HT_.out (by kernel_rfl)) (fun _ _ _ h => h) (Or.inl ⟨by rfl, ?_⟩) ?_ ?_
         rotate_left
         ·intro w'
          go_simp
          with_reducible rfl
         rotate_left
         ·simp only [Act.put, List.setIfInBounds_toArray, List.set_cons_zero, List.set_cons_succ, i64_w, i32_w]
          rfl
         refine done_ (done_of HT_.out (by kernel_rfl)) ?_
         try go_wp2
         refine bodyPost_ret (results_ctt rfl _ _ gb269 28 #[.int .i64 a0_0, .int .i64 a0_1, .slice Ao41 y276.length co41] (0, 0) _ rfl (by (with_reducible repeat (first | refine blk_drewN ?_ _ | refine blk_drew ?_ | refine blk_alloc ?_ _)); refine blk_put (cs := #[.int .i64 a0_0, .int .i64 a0_1, .slice none 0 0]) ?_ 2 _ rfl; (with_reducible repeat (first | refine blk_drewN ?_ _ | refine blk_drew ?_ | refine blk_alloc ?_ _)); refine blk_put (cs := #[.int .i64 a0_0, .int .i64 0, .slice none 0 0]) ?_ 1 _ rfl; (with_reducible repeat (first | refine blk_drewN ?_ _ | refine blk_drew ?_ | refine blk_alloc ?_ _)); refine blk_put (cs := #[.int .i64 0, .int .i64 0, .slice none 0 0]) ?_ 0 _ rfl; (with_reducible repeat (first | refine blk_drewN ?_ _ | refine blk_drew ?_ | refine blk_alloc ?_ _)); exact BK269.out) Try.underlying28 rfl (by kernel_rfl)) rfl ?_
         exact ⟨_, by first | rfl | (simp [errW_none, errW_some] <;> rfl) | (simp [*, errW_none, errW_some] <;> rfl), Kd.V_mono (Kd.R_V (Kd.R_mono (ok' := fun k_ => (w.heap.size ≤ k_)) (by (with_reducible repeat (first | apply Kd.R_alloc | apply Kd.R_drewN | apply Kd.R_drew)); exact Kd.R_mono (Kd.R_far (p := ⟨gb269, 2, none⟩) (Kd.R_far (p := ⟨gb269, 1, none⟩) (Kd.R_far (p := ⟨gb269, 0, none⟩) (Kd.R_types HO278.out BK269.out (by decide)) (fun _ hk => hk.2) (.int .i64 a0_0)) (fun _ hk => hk.2) (.int .i64 a0_1)) (fun _ hk => hk.2) (.slice Ao41 y276.length co41)) (fun _ hk => hk.1)) (fun _ h_ => h_))) (fun k_ hk => by first | exact ⟨(.inr (hk.1)), hk.2⟩ | exact (.inr (hk))), by repeat (first | (with_reducible first | exact HB.out | apply below_alloc | apply pw_below_drewN | apply below_drew1 | refine below_set ?_ GE268.out | refine below_set ?_ GE269.out) | exact HB.out)⟩
        ·rw [if_neg c34] at H
         exact absurd H (by simp)
       ·rw [if_neg c33] at H
        exact absurd H (by simp)
     ·rw [if_neg c27] at H
      have c27b0 : ((l0_2.length : Int) == 0) = false := beq_eq_false_iff_ne.mpr c27
      have c27b1 : ((l0_2.length : Int) != 0) = true := bne_iff_ne.mpr c27
      have c27b2 : ¬ (l0_2 = []) := fun h_ => c27 (by rw [h_]; rfl)
      by_cases c45 : ([] : List (S61)).length + l0_2.length < 8796093022208
      ·rw [if_pos c45] at H
       have LMc45 := am c45
       clear c45
       obtain ⟨y279, hy279⟩ : ∃ y_ : List (S61), y_ = (([] : List (S61)) ++ l0_2) := ⟨_, rfl⟩
       replace H : (if y279.length < 8796093022208 then (some (a0_0, a0_1, (y279 ++ [(⟨a1, a2⟩ : S61)]), false, 0)) else (none)) = some (r1, r2, r3, r4, r5) := by first | (rw [hy279]; with_reducible exact H) | (have H2_ := (Option.bind_some _ _).symm.trans H; rw [hy279]; with_reducible exact H2_) | (have H2_ := (Option.bind_some _ _).symm.trans H; with_reducible exact H2_) | with_reducible exact H | (rw [hy279]; exact H) | exact H
       have Ny279 := am hy279
       clear hy279
       by_cases c46 : y279.length < 8796093022208
       ·rw [if_pos c46] at H
        have LMc46 := am c46
        clear c46
        obtain ⟨y282, hy282⟩ : ∃ y_ : List (S61), y_ = (y279 ++ [(⟨a1, a2⟩ : S61)]) := ⟨_, rfl⟩
        replace H : (some (a0_0, a0_1, y282, false, 0)) = some (r1, r2, r3, r4, r5) := by first | (rw [hy282]; with_reducible exact H) | (have H2_ := (Option.bind_some _ _).symm.trans H; rw [hy282]; with_reducible exact H2_) | (have H2_ := (Option.bind_some _ _).symm.trans H; with_reducible exact H2_) | with_reducible exact H | (rw [hy282]; exact H) | exact H
        have Ny282 := am hy282
        clear hy282
        simp only [Option.some.injEq, Prod.mk.injEq] at H
        obtain ⟨rfl, rfl, rfl, rfl, rfl⟩ := H
        have hnb47 := NB268_269.out
        have hnc47 := NB269_268.out
        have hcz48_0 : wc.cell? ⟨gb268, 0, none⟩ = some (.int .i64 a0_0) := (blk_cell BK268.out 0).trans rfl
        have hcz48_1 : wc.cell? ⟨gb268, 1, none⟩ = some (.int .i64 a0_1) := (blk_cell BK268.out 1).trans rfl
        have hcz48_2 : wc.cell? ⟨gb268, 2, none⟩ = some (.slice A0_2 l0_2.length c0_2) := (blk_cell BK268.out 2).trans rfl
        have hfz48_0 := blk_frozen BK268.out 0
        have hfz48_1 := blk_frozen BK268.out 1
        have hfz48_2 := blk_frozen BK268.out 2
        try go_wp2_with (first | ((with_reducible refine gate_callee (f := 28) rfl ?_); refine goesL_ (some 36) rfl rfl Try.func28 (by kernel_rfl) rfl #[.slice A0_2 l0_2.length c0_2, .int .i64 a1] rfl zm ?_; (with_reducible refine (handshakerref18_find.calls kj5 _ _ l0_2 a1 t272 _ ?side1 ?side2 A21.out).mono ?_); (case side1 => repeat (first | exact (Kd.V_reads' HO_269002.out).2.2 | (with_reducible refine Kd.C_alloc ?_ _) | (with_reducible refine Kd.C_drewN ?_ _) | (with_reducible refine Kd.C_drew ?_))); (case side2 => exact (Kd.V_reads' HO_269002.out).2.1); rintro e w' ⟨rfl, ⟨nd, rfl⟩⟩; refine ⟨_, rfl, ?_⟩; (try (rw [drewN_self wc]; generalize hq_ : World.drewN wc _ = wc; have n0_ : Aside0 (Kd.V k61 61 wc w.heap.size (fun k_ => (P0_2_ k_ ∨ w.heap.size ≤ k_) ∧ k_ ≠ gb268 ∧ k_ ≠ gb269) (.slice A0_2 l0_2.length c0_2) l0_2) := ⟨by rw [← hq_]; exact (zV HO_269002)⟩; have n1_ : Aside0 (wc.heap[gb268]? = some (.cells #[.int .i64 a0_0, .int .i64 a0_1, .slice A0_2 l0_2.length c0_2] 28 (0, 0))) := ⟨by rw [← hq_]; exact (zb BK268)⟩; have n2_ : Aside0 (wc.heap[gb269]? = some (.cells #[.int .i64 0, .int .i64 0, .slice none 0 0] 28 (0, 0))) := ⟨by rw [← hq_]; exact (zb BK269)⟩; have n3_ : Aside0 (Below w.heap.size w wc) := ⟨by rw [← hq_]; exact (zc2 HB GE268 GE269)⟩; clear HO_269002 BK268 BK269 HB hq_; have HO_269002 := n0_; have BK268 := n1_; have BK269 := n2_; have HB := n3_; clear n0_ n1_ n2_ n3_)); have hcz49_0 : wc.cell? ⟨gb268, 0, none⟩ = some (.int .i64 a0_0) := (blk_cell BK268.out 0).trans rfl; have hcz49_1 : wc.cell? ⟨gb268, 1, none⟩ = some (.int .i64 a0_1) := (blk_cell BK268.out 1).trans rfl; have hcz49_2 : wc.cell? ⟨gb268, 2, none⟩ = some (.slice A0_2 l0_2.length c0_2) := (blk_cell BK268.out 2).trans rfl; have hfz49_0 := blk_frozen BK268.out 0; have hfz49_1 := blk_frozen BK268.out 1; have hfz49_2 := blk_frozen BK268.out 2) | ((with_reducible refine gate_builtin (b := .append) (xs := #[.tmp 57, .tmp 59]) rfl ?_); at_builtin; refine Kd.R_append_rows k61 (w0 := w) w.heap.size rfl (.tmp 57) (.tmp 59) 26 61 (.agg #[(.int .i64 0), (.int .i64 0)]) 16 rfl Try.underlying26 info61 rfl (by decide) (by omega) (.slice none 0 0) ([] : List (S61)) l0_2 _ _ _ (fun k_ => (w.heap.size ≤ k_)) (fun _ => False) rfl rfl ?aO ?aR (fun _ _ h => h) (fun _ h => h.elim) ?aF ?aB ?aS ?aL ?_; (case aR => repeat (first | exact (Kd.V_reads' HO_269002.out).2.2 | (with_reducible refine Kd.C_alloc ?_ _) | (with_reducible refine Kd.C_drewN ?_ _) | (with_reducible refine Kd.C_drew ?_))); (case aB => exact (zc2 HB GE268 GE269)); (case aF => exact (fun k_ hk => (Nat.le_trans (below_size (zc2 HB GE268 GE269)) hk))); (case aO => exact ((Kd.R_nil _ _ _ _ (fun k_ => (w.heap.size ≤ k_))))); (case aS => exact (below_size (zc2 HB GE268 GE269))); (case aL => have := LMc45.out; omega); intro v280 w50 ho hb hg hat; rw [← Ny279.out] at ho; replace HO_269002 := am (Kd.V_afterv (Kd.V_apart_nil (zV HO_269002)) hg hat); replace BK268 := am (blk_grown (g := gb268) (o := .cells #[.int .i64 a0_0, .int .i64 a0_1, .slice A0_2 l0_2.length c0_2] 28 (0, 0)) (zb BK268) hg (by simp [Value.ownBlock])); replace BK269 := am (blk_grown (g := gb269) (o := .cells #[.int .i64 0, .int .i64 0, .slice none 0 0] 28 (0, 0)) (zb BK269) hg (by simp [Value.ownBlock])); replace HB := am (hb); have HO281 := am (ho); clear ho hb hg hat))
        replace HO_269002 := am (Kd.V_drew HO_269002.out)
        replace HO281 := am (Kd.R_drew HO281.out)
        replace BK268 := am (blk_drew BK268.out)
        replace BK269 := am (blk_drew BK269.out)
        replace HB := am (below_drew1 HB.out)
        refine start_ (n := 14) (S := fun w' => w'.cell? ⟨gb268, 0, none⟩ = some (.int .i64 a0_0) ∧ w'.cell? ⟨gb268, 1, none⟩ = some (.int .i64 a0_1) ∧ w'.cell? ⟨gb268, 2, none⟩ = some (.slice A0_2 l0_2.length c0_2)) (ds := []) #[false, false, false, false, false, false, false, false, false, false, false, false, false, false] (by kernel_rfl) rfl rfl ⟨(blk_cell BK268.out 0).trans rfl, (blk_cell BK268.out 1).trans rfl, (blk_cell BK268.out 2).trans rfl⟩ (fun hHeld => ?_); refine with_tabW handshakerref18_Take.tab10 handshakerref18_Take.bits10 (fun HT_ HW_ => ?_)
        generalize w50.drew = w51 at HO_269002 HO281 BK268 BK269 HB hHeld ⊢
        refine pure_ (i := 0) (N := some 61) (v := ?_) (a' := ?_) #[true, false, false, false, false, false, false, false, false, false, false, false, false, false] rfl rfl (any_of HT_.out (by kernel_rfl)) (fun _ _ _ h => h) (Or.inl ⟨by rfl, ?_⟩) ?_ ?_
        rotate_left
        ·intro w'
         go_simp
         with_reducible rfl
        rotate_left
        ·simp only [Act.put, List.setIfInBounds_toArray, List.set_cons_zero, List.set_cons_succ, i64_w, i32_w]
         rfl
        refine pure_ (i := 2) (N := some 63) (v := ?_) (a' := ?_) #[true, false, true, false, false, false, false, false, false, false, false, false, false, false] rfl rfl (any_of HT_.out (by kernel_rfl)) (fun _ _ _ h => h) (Or.inl ⟨by rfl, ?_⟩) ?_ ?_
        rotate_left
        ·intro w'
         go_simp
         with_reducible rfl
        rotate_left
        ·simp only [Act.put, List.setIfInBounds_toArray, List.set_cons_zero, List.set_cons_succ, i64_w, i32_w]
         rfl
        refine pure_ (i := 4) (N := some 65) (v := ?_) (a' := ?_) #[true, false, true, false, true, false, false, false, false, false, false, false, false, false] rfl rfl (any_of HT_.out (by kernel_rfl)) (fun _ _ _ h => h) (Or.inl ⟨by rfl, ?_⟩) ?_ ?_
        rotate_left
        ·intro w'
         go_simp
         with_reducible rfl
        rotate_left
        ·simp only [Act.put, List.setIfInBounds_toArray, List.set_cons_zero, List.set_cons_succ, i64_w, i32_w]
         rfl
        refine pure_ (i := 5) (N := some 66) (v := ?_) (a' := ?_) #[true, false, true, false, true, true, false, false, false, false, false, false, false, false] rfl rfl (any_of HT_.out (by kernel_rfl)) (fun _ _ _ h => h) (Or.inl ⟨by rfl, ?_⟩) ?_ ?_
        rotate_left
        ·intro w'
         go_simp
         with_reducible rfl
        rotate_left
        ·simp only [Act.put, List.setIfInBounds_toArray, List.set_cons_zero, List.set_cons_succ, i64_w, i32_w]
         rfl
        refine pure_ (i := 6) (N := some 67) (v := ?_) (a' := ?_) #[true, false, true, false, true, true, true, false, false, false, false, false, false, false] rfl rfl (any_of HT_.out (by kernel_rfl)) (fun _ _ _ h => h) (Or.inl ⟨by rfl, ?_⟩) ?_ ?_
        rotate_left
        ·intro w'
         go_simp
         with_reducible rfl
        rotate_left
        ·simp only [Act.put, List.setIfInBounds_toArray, List.set_cons_zero, List.set_cons_succ, i64_w, i32_w]
         rfl
        refine pure_ (i := 7) (N := some 68) (v := ?_) (a' := ?_) #[true, false, true, false, true, true, true, true, false, false, false, false, false, false] rfl rfl (any_of HT_.out (by kernel_rfl)) (fun _ _ _ h => h) (Or.inl ⟨by rfl, ?_⟩) ?_ ?_
        rotate_left
        ·intro w'
         go_simp
         with_reducible rfl
        rotate_left
        ·simp only [Act.put, List.setIfInBounds_toArray, List.set_cons_zero, List.set_cons_succ, i64_w, i32_w]
         rfl
        refine take_ (i := 1) (N := some 62) (v := ?_) (a' := ?_) #[true, true, true, false, true, true, true, true, false, false, false, false, false, false] rfl rfl (take_ofW HT_.out HW_.out (by kernel_rfl)) (fun _ _ _ h => h) (Or.inl ⟨by rfl, ?_⟩) hHeld ?_ ?_
        rotate_left
        ·rintro w' ⟨s0, s1, s2⟩
         go_simp
         with_reducible rfl
        rotate_left
        ·simp only [Act.put, List.setIfInBounds_toArray, List.set_cons_zero, List.set_cons_succ, i64_w, i32_w]
         rfl
        refine take_ (i := 3) (N := some 64) (v := ?_) (a' := ?_) #[true, true, true, true, true, true, true, true, false, false, false, false, false, false] rfl rfl (take_ofW HT_.out HW_.out (by kernel_rfl)) (fun _ _ _ h => h) (Or.inl ⟨by rfl, ?_⟩) hHeld ?_ ?_
        rotate_left
        ·rintro w' ⟨s0, s1, s2⟩
         go_simp
         with_reducible rfl
        rotate_left
        ·simp only [Act.put, List.setIfInBounds_toArray, List.set_cons_zero, List.set_cons_succ, i64_w, i32_w]
         rfl
        refine one_ (i := 8) (N := some 69) #[true, true, true, true, true, true, true, true, true, false, false, false, false, false] rfl rfl (one_of HT_.out (by kernel_rfl)) (by decide) (fun K hK => ?_)
        refine value_ (w1 := ?_) (v := ?_) (by rfl) rfl ?_ ?_
        rotate_left 2
        ·go_simp
         constructor
         ·rfl
         ·rfl
        refine hK.out _ _ ⟨(blk_cell (blk_alloc BK268.out _) 0).trans rfl, (blk_cell (blk_alloc BK268.out _) 1).trans rfl, (blk_cell (blk_alloc BK268.out _) 2).trans rfl⟩ (fun hHeld => ?_)
        clear hK K
        refine norm_ (a' := ?_) ?_ ?_
        rotate_left
        ·show Act.put _ (some 69) _ = _
         simp only [Act.put, List.setIfInBounds_toArray, List.set_cons_zero, List.set_cons_succ, i64_w, i32_w]
         rfl
        refine one_ (i := 9) (N := some 70) #[true, true, true, true, true, true, true, true, true, true, false, false, false, false] rfl rfl (one_of HT_.out (by kernel_rfl)) (by decide) (fun K hK => ?_)
        refine Kd.R_append_step k61 (w0 := w) w.heap.size (by rfl) (.tmp 65) (.tmp 69) 26 61 (.agg #[(.int .i64 0), (.int .i64 0)]) 16 rfl Try.underlying26 info61 rfl (by decide) (by omega) v280 y279 (⟨a1, a2⟩ : S61) [.int .i64 a1, .int .i64 a2] (fun k_ => (w.heap.size ≤ k_)) (fun _ => False) rfl rfl ?aP (fun _ hk => hk.elim) ?aF ?aO ?aB ?aS ?aL ?_
        (case aP => exact k61_mkM _ _ _ (⟨a1, a2⟩ : S61))
        (case aB => exact (zc2 HB GE268 GE269))
        (case aF => exact (fun k_ hk => (Nat.le_trans (below_size (zc2 HB GE268 GE269)) hk)))
        (case aO => exact (zR HO281))
        (case aS => exact (below_size (zc2 HB GE268 GE269)))
        (case aL => have := LMc46.out; omega)
        intro v283 w52 ho hb hg hat
        rw [← Ny282.out] at ho
        replace HO_269002 := am (Kd.V_afterv (ok := (fun k_ => (P0_2_ k_ ∨ w.heap.size ≤ k_) ∧ k_ ≠ gb268 ∧ k_ ≠ gb269)) (zV HO_269002) hg hat)
        replace BK268 := am (blk_grown (g := gb268) (o := .cells #[.int .i64 a0_0, .int .i64 a0_1, .slice A0_2 l0_2.length c0_2] 28 (0, 0)) (zb BK268) hg (Kd.R_ne HO281.out BK268.out (by decide)))
        replace BK269 := am (blk_grown (g := gb269) (o := .cells #[.int .i64 0, .int .i64 0, .slice none 0 0] 28 (0, 0)) (zb BK269) hg (Kd.R_ne HO281.out BK269.out (by decide)))
        replace HB := am (hb)
        have HO284 := am (ho)
        clear HO281
        clear ho hb hg hat
        obtain ⟨Ao53, co53, eo53⟩ := Kd.R_slice HO284.out
        (first | subst eo53 | (injection eo53 with f1_ f2_ f3_; have f4_ := f1_.symm; have f5_ := f3_.symm; clear f1_ f2_ f3_; subst f4_; subst f5_))
        refine hK.out _ _ ⟨(blk_cell BK268.out 0).trans rfl, (blk_cell BK268.out 1).trans rfl, (blk_cell BK268.out 2).trans rfl⟩ (fun hHeld => ?_)
        clear hK K
        refine norm_ (a' := ?_) ?_ ?_
        rotate_left
        ·show Act.put _ (some 70) _ = _
         simp only [Act.put, List.setIfInBounds_toArray, List.set_cons_zero, List.set_cons_succ, i64_w, i32_w]
         rfl
        refine pure_ (i := 10) (N := some 71) (v := ?_) (a' := ?_) #[true, true, true, true, true, true, true, true, true, true, true, false, false, false] rfl rfl (any_of HT_.out (by kernel_rfl)) (fun _ _ _ h => h) (Or.inl ⟨by rfl, ?_⟩) ?_ ?_
        rotate_left
        ·intro w'
         go_simp
         with_reducible rfl
        rotate_left
        ·simp only [Act.put, List.setIfInBounds_toArray, List.set_cons_zero, List.set_cons_succ, i64_w, i32_w]
         rfl
        refine one_ (i := 11) (N := none) #[true, true, true, true, true, true, true, true, true, true, true, true, false, false] rfl rfl (one_of HT_.out (by kernel_rfl)) (by decide) (fun K hK => ?_)
        have hs54 : w52.cell? ⟨gb269, 0, none⟩ = some (.int .i64 0) := (blk_cell BK269.out 0).trans rfl
        have hfs54 := blk_frozen BK269.out 0
        have hns54_0 := NB268_269.out
        have hms54_0 := NB269_268.out
        have hs55 : w52.cell? ⟨gb269, 1, none⟩ = some (.int .i64 0) := (blk_cell BK269.out 1).trans rfl
        have hfs55 := blk_frozen BK269.out 1
        have hns55_0 := NB268_269.out
        have hms55_0 := NB269_268.out
        have hs56 : w52.cell? ⟨gb269, 2, none⟩ = some (.slice none 0 0) := (blk_cell BK269.out 2).trans rfl
        have hfs56 := blk_frozen BK269.out 2
        have hns56_0 := NB268_269.out
        have hms56_0 := NB269_268.out
        refine skip_ (w1 := ?_) (by rfl) rfl ?_ ?_
        rotate_left
        ·go_simp
         rfl
        refine hK.out _ _ ⟨((cell_far (p := ⟨gb269, _, none⟩) NB268_269.out _).trans (((cell_far (p := ⟨gb269, _, none⟩) NB268_269.out _).trans (((cell_far (p := ⟨gb269, _, none⟩) NB268_269.out _).trans (hHeld.1)))))), ((cell_far (p := ⟨gb269, _, none⟩) NB268_269.out _).trans (((cell_far (p := ⟨gb269, _, none⟩) NB268_269.out _).trans (((cell_far (p := ⟨gb269, _, none⟩) NB268_269.out _).trans (hHeld.2.1)))))), ((cell_far (p := ⟨gb269, _, none⟩) NB268_269.out _).trans (((cell_far (p := ⟨gb269, _, none⟩) NB268_269.out _).trans (((cell_far (p := ⟨gb269, _, none⟩) NB268_269.out _).trans (hHeld.2.2))))))⟩ (fun hHeld => ?_)
        clear hK K
        refine pure_ (i := 12) (N := some 7) (v := ?_) (a' := ?_) #[true, true, true, true, true, true, true, true, true, true, true, true, true, false] rfl rfl (any_of HT_.out (by kernel_rfl)) (fun _ _ _ h => h) (Or.inl ⟨by rfl, ?_⟩) ?_ ?_
        rotate_left
        ·intro w'
         go_simp
         with_reducible rfl
        rotate_left
        ·simp only [Act.put, List.setIfInBounds_toArray, List.set_cons_zero, List.set_cons_succ, i64_w, i32_w]
         rfl
        refine pure_ (i := 13) (N := some 8) (v := ?_) (a' := ?_) #[true, true, true, true, true, true, true, true, true, true, true, true, true, true] rfl rfl (any_of HT_.out (by kernel_rfl)) (fun _ _ _ h => h) (Or.inl ⟨by rfl, ?_⟩) ?_ ?_
        rotate_left
        ·intro w'
         go_simp
         with_reducible rfl
        rotate_left
        ·simp only [Act.put, List.setIfInBounds_toArray, List.set_cons_zero, List.set_cons_succ, i64_w, i32_w]
         rfl
        refine done_ (done_of HT_.out (by kernel_rfl)) ?_
        try go_wp2
        refine bodyPost_ret (results_ctt rfl _ _ gb269 28 #[.int .i64 a0_0, .int .i64 a0_1, .slice Ao53 y282.length co53] (0, 0) _ rfl (by (with_reducible repeat (first | refine blk_drewN ?_ _ | refine blk_drew ?_ | refine blk_alloc ?_ _)); refine blk_put (cs := #[.int .i64 a0_0, .int .i64 a0_1, .slice none 0 0]) ?_ 2 _ rfl; (with_reducible repeat (first | refine blk_drewN ?_ _ | refine blk_drew ?_ | refine blk_alloc ?_ _)); refine blk_put (cs := #[.int .i64 a0_0, .int .i64 0, .slice none 0 0]) ?_ 1 _ rfl; (with_reducible repeat (first | refine blk_drewN ?_ _ | refine blk_drew ?_ | refine blk_alloc ?_ _)); refine blk_put (cs := #[.int .i64 0, .int .i64 0, .slice none 0 0]) ?_ 0 _ rfl; (with_reducible repeat (first | refine blk_drewN ?_ _ | refine blk_drew ?_ | refine blk_alloc ?_ _)); exact BK269.out) Try.underlying28 rfl (by kernel_rfl)) rfl ?_
        exact ⟨_, by first | rfl | (simp [errW_none, errW_some] <;> rfl) | (simp [*, errW_none, errW_some] <;> rfl), Kd.V_mono (Kd.R_V (Kd.R_mono (ok' := fun k_ => (w.heap.size ≤ k_)) (by (with_reducible repeat (first | apply Kd.R_alloc | apply Kd.R_drewN | apply Kd.R_drew)); exact Kd.R_mono (Kd.R_far (p := ⟨gb269, 2, none⟩) (Kd.R_far (p := ⟨gb269, 1, none⟩) (Kd.R_far (p := ⟨gb269, 0, none⟩) (Kd.R_types HO284.out BK269.out (by decide)) (fun _ hk => hk.2) (.int .i64 a0_0)) (fun _ hk => hk.2) (.int .i64 a0_1)) (fun _ hk => hk.2) (.slice Ao53 y282.length co53)) (fun _ hk => hk.1)) (fun _ h_ => h_))) (fun k_ hk => by first | exact ⟨(.inr (hk.1)), hk.2⟩ | exact (.inr (hk))), by repeat (first | (with_reducible first | exact HB.out | apply below_alloc | apply pw_below_drewN | apply below_drew1 | refine below_set ?_ GE268.out | refine below_set ?_ GE269.out) | exact HB.out)⟩
       ·rw [if_neg c46] at H
        exact absurd H (by simp)
      ·rw [if_neg c45] at H
       exact absurd H (by simp)

end Go.Proofs.Ythbcajkphkdnmaa.PSemaTells
