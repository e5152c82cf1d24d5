/- Lean functions that say what functions of the given program compute, and proofs by walking the code that each call does just that; no condition but those that each statement names. -/
import Derived.Test.YtllmfahkiabkcaaPCondTellsx0
import Derived.Test.YtllmfahkiabkcaaPCondTellsx1
import Derived.Test.YtllmfahkiabkcaaPCondTellsx2
namespace Go.Proofs.Ytllmfahkiabkcaa.PCondTells
open Go.RowKit Go.Proofs.YtllmfahkiabkcaaW.PrintWords Go.Proofs.YtllmfahkiabkcaaW.PrintLast Go.Proofs.YtllmfahkiabkcaaW.PrintMore
attribute [local go_sem] max2_int min2_int max_two min_two max_three min_three max_four min_four   -- for this text's walks alone
set_option linter.unusedVariables false
set_option linter.unusedSimpArgs false

/-! ### cond_Leave: function 17 -/
mutual
def cond_Leave.j0 : Nat → Int → Int → Bool → List Int → List Int → Option (List Int × List Int × Bool × Int)
 | 0, _, _, _, _, _ => none
 | k + 1, x1, x7, x17, x161000, x161001 => if x17 = true then ((slices_Clone_int_int.f x161001).bind fun t164 => (if 0 < (x161000.length : Int) then (if 0 ≤ x7 then (if x7 < (t164.length : Int) then (if 1 ≤ (x161000.length : Int) then (some ((x161000.drop 1), (t164.set (x7 : Int).toNat (rd x161000 0)), true, 0)) else (none)) else (none)) else (none)) else (none))) else (if x7 < 0 then ((slices_Contains_int_int.f k x161000 x1).bind fun t174 => (cond_Leave.j1 k x1 (!t174) x161000 x161001)) else (cond_Leave.j1 k x1 false x161000 x161001))
def cond_Leave.j1 : Nat → Int → Bool → List Int → List Int → Option (List Int × List Int × Bool × Int)
 | 0, _, _, _, _ => none
 | k + 1, x1, x41, x161000, x161001 => if x41 = true then (some (x161000, x161001, false, 3)) else ((cond_without.f x161000 x1).bind fun t175 => ((cond_without.f x161001 x1).bind fun t178 => (some (t175, t178, false, 0))))
end
def cond_Leave.f (k : Nat) (l0_0 : List Int) (l0_1 : List Int) (a1 : Int) : Option (List Int × List Int × Bool × Int) := (cond_Right.f k l0_0 l0_1).bind fun t162 => (if t162 = true then ((slices_Index_int_int.f k l0_1 a1).bind fun t163 => (if t163 ≥ 0 then (cond_Leave.j0 k a1 t163 (decide ((l0_0.length : Int) > 0)) l0_0 l0_1) else (cond_Leave.j0 k a1 t163 false l0_0 l0_1))) else (some (l0_0, l0_1, false, 1)))
theorem cond_Leave.mono_l : ∀ k, (∀ y0 y1 y2 y3 y4, LeO (cond_Leave.j0 k y0 y1 y2 y3 y4) (cond_Leave.j0 (k + 1) y0 y1 y2 y3 y4)) ∧ (∀ y0 y1 y2 y3, LeO (cond_Leave.j1 k y0 y1 y2 y3) (cond_Leave.j1 (k + 1) y0 y1 y2 y3))
 | 0 => ⟨fun _ _ _ _ _ r h => by simp [cond_Leave.j0] at h, fun _ _ _ _ r h => by simp [cond_Leave.j1] at h⟩
 | k + 1 => by
  obtain ⟨ih0, ih1⟩ := cond_Leave.mono_l k
  refine ⟨?_, ?_⟩
  ·intro y0 y1 y2 y3 y4
   unfold cond_Leave.j0
   repeat' first
   | (with_reducible exact ih0 _ _ _ _ _)
   | (with_reducible exact ih1 _ _ _ _)
   | (with_reducible exact cond_Right.mono _ _ _)
   | (with_reducible exact slices_Contains_int_int.mono _ _ _)
   | (with_reducible exact slices_Index_int_int.mono _ _ _)
   | (with_reducible exact LeO.refl _)
   | (with_reducible exact LeO.none _)
   | (with_reducible refine LeO.ite ?_ ?_)
   | (with_reducible refine LeO.bind ?_ (fun _ => ?_))
   | exact ih0 _ _ _ _ _
   | exact ih1 _ _ _ _
   | exact cond_Right.mono _ _ _
   | exact slices_Contains_int_int.mono _ _ _
   | exact slices_Index_int_int.mono _ _ _
   | exact LeO.none _
   | refine LeO.ite ?_ ?_
   | refine LeO.bind ?_ (fun _ => ?_)
  ·intro y0 y1 y2 y3
   unfold cond_Leave.j1
   repeat' first
   | (with_reducible exact ih0 _ _ _ _ _)
   | (with_reducible exact ih1 _ _ _ _)
   | (with_reducible exact cond_Right.mono _ _ _)
   | (with_reducible exact slices_Contains_int_int.mono _ _ _)
   | (with_reducible exact slices_Index_int_int.mono _ _ _)
   | (with_reducible exact LeO.refl _)
   | (with_reducible exact LeO.none _)
   | (with_reducible refine LeO.ite ?_ ?_)
   | (with_reducible refine LeO.bind ?_ (fun _ => ?_))
   | exact ih0 _ _ _ _ _
   | exact ih1 _ _ _ _
   | exact cond_Right.mono _ _ _
   | exact slices_Contains_int_int.mono _ _ _
   | exact slices_Index_int_int.mono _ _ _
   | exact LeO.none _
   | refine LeO.ite ?_ ?_
   | refine LeO.bind ?_ (fun _ => ?_)
theorem cond_Leave.mono : ∀ a0 a1 a2 k, LeO (cond_Leave.f k a0 a1 a2) (cond_Leave.f (k + 1) a0 a1 a2) := by
 intro a0 a1 a2 k
 obtain ⟨ih0, ih1⟩ := cond_Leave.mono_l k
 unfold cond_Leave.f
 repeat' first
   | (with_reducible exact ih0 _ _ _ _ _)
   | (with_reducible exact ih1 _ _ _ _)
   | (with_reducible exact cond_Right.mono _ _ _)
   | (with_reducible exact slices_Contains_int_int.mono _ _ _)
   | (with_reducible exact slices_Index_int_int.mono _ _ _)
   | (with_reducible exact LeO.refl _)
   | (with_reducible exact LeO.none _)
   | (with_reducible refine LeO.ite ?_ ?_)
   | (with_reducible refine LeO.bind ?_ (fun _ => ?_))
   | exact ih0 _ _ _ _ _
   | exact ih1 _ _ _ _
   | exact cond_Right.mono _ _ _
   | exact slices_Contains_int_int.mono _ _ _
   | exact slices_Index_int_int.mono _ _ _
   | exact LeO.none _
   | refine LeO.ite ?_ ?_
   | refine LeO.bind ?_ (fun _ => ?_)
def cond_Leave.T10 : Bool × List (List Nat × List Nat) := (true, [([], []), ([0], [0]), ([], []), ([1, 2], [1, 2]), ([], []), ([4], [4]), ([], []), ([5, 6, 3], [5, 6]), ([3, 7], [3, 7]), ([8, 7, 0, 1, 2, 3, 4, 5, 6, 7, 8], [8]), ([9, 0, 1, 2, 3, 4, 5, 6, 7, 8, 9], []), ([10, 0, 1, 2, 3, 4, 5, 6, 7, 8, 9, 10], [])])
def cond_Leave.B10 : List Nat := [0, 1, 0, 7, 0, 16, 0, 127, 255, 511, 1023, 2047]
theorem cond_Leave.tab10 : rtab .any (opsOf Try.f17 10) = cond_Leave.T10 := by kernel_rfl
theorem cond_Leave.bits10 : waitsOk cond_Leave.T10.2 cond_Leave.B10 = true := by kernel_rfl
set_option maxHeartbeats 8000000 in
set_option maxRecDepth 100000 in
theorem cond_Leave.calls (k : Nat) (P0_0_ : Nat → Prop) (A0_0 : Option Addr) (c0_0 : Nat) (l0_0 : List Int) (P0_1_ : Nat → Prop) (A0_1 : Option Addr) (c0_1 : Nat) (l0_1 : List Int) (a1 : Int) (r1 : List Int) (r2 : List Int) (r3 : Bool) (r4 : Int) (w : World) (hs0_0 : Kd.V (Kd.int .i64) 3 w w.heap.size (fun k_ => P0_0_ k_) (.slice A0_0 l0_0.length c0_0) l0_0) (hs0_1 : Kd.V (Kd.int .i64) 3 w w.heap.size (fun k_ => P0_1_ k_) (.slice A0_1 l0_1.length c0_1) l0_1) (h : cond_Leave.f k l0_0 l0_1 a1 = some (r1, r2, r3, r4)) :
  Calls Try.prog 17 #[.agg #[.slice A0_0 l0_0.length c0_0, .slice A0_1 l0_1.length c0_1], .int .i64 a1] w fun e w' => ∃ v0_ v1_ : Value, e = .returned (.tuple #[.agg #[v0_, v1_], .bool r3, .int .i64 r4]) ∧ Kd.V (Kd.int .i64) 3 w' w.heap.size (fun k_ => ((P0_0_ k_ ∨ P0_1_ k_) ∨ w.heap.size ≤ k_)) v0_ r1 ∧ Kd.V (Kd.int .i64) 3 w' w.heap.size (fun k_ => ((P0_0_ k_ ∨ P0_1_ k_) ∨ w.heap.size ≤ k_)) v1_ r2 ∧ Below w.heap.size w w' := by
 have hu24 := Try.underlying24
 have HO0_0 := am (show Kd.V (Kd.int .i64) 3 w w.heap.size (fun k_ => ((P0_0_ k_ ∨ P0_1_ k_) ∨ w.heap.size ≤ k_)) (.slice A0_0 l0_0.length c0_0) l0_0 from Kd.V_mono hs0_0 (fun k_ hk => .inl (.inl hk)))
 have HO0_1 := am (show Kd.V (Kd.int .i64) 3 w w.heap.size (fun k_ => ((P0_0_ k_ ∨ P0_1_ k_) ∨ w.heap.size ≤ k_)) (.slice A0_1 l0_1.length c0_1) l0_1 from Kd.V_mono hs0_1 (fun k_ hk => .inl (.inr hk)))
 have HB := am (Below.refl w.heap.size w)
 have H : ((cond_Right.f k l0_0 l0_1).bind fun t162 => (if t162 = true then ((slices_Index_int_int.f k l0_1 a1).bind fun t163 => (if t163 ≥ 0 then (cond_Leave.j0 k a1 t163 (decide ((l0_0.length : Int) > 0)) l0_0 l0_1) else (cond_Leave.j0 k a1 t163 false l0_0 l0_1))) else (some (l0_0, l0_1, false, 1)))) = some (r1, r2, r3, r4) := h
 clear h
 replace H := Option.bind_eq_some_iff.mp H
 obtain ⟨t162, A30, H⟩ := H
 try dsimp only at H
 have A3 := am A30
 clear A30
 by_cases c4 : t162 = true
 ·subst c4
  have H1 : ((slices_Index_int_int.f k l0_1 a1).bind fun t163 => (if t163 ≥ 0 then (cond_Leave.j0 k a1 t163 (decide ((l0_0.length : Int) > 0)) l0_0 l0_1) else (cond_Leave.j0 k a1 t163 false l0_0 l0_1))) = some (r1, r2, r3, r4) := by rw [if_pos rfl] at H; exact H
  clear H
  have H := H1
  clear H1
  replace H := Option.bind_eq_some_iff.mp H
  obtain ⟨t163, A50, H⟩ := H
  try dsimp only at H
  have A5 := am A50
  clear A50
  have HC6 := am H
  clear H
  go_enter Try.func17, Try.ntmps17
  go_upto_region 4 with (first | ((with_reducible refine gate_dst (N := 2) rfl ?_); (try (refine gate_guard (by rfl) ?_; dsimp only)); refine box_event ?hg (N := 2) ?hd (cs := #[.slice A0_0 l0_0.length c0_0, .slice A0_1 l0_1.length c0_1]) (t := 24) ?hr ?_; (case hd => rfl); (case hg => rfl); (case hr => first | (go_simp; done) | (go_simp; rfl)); intro gb160 hg w7 hbox hb; replace HO0_0 := zVe HO0_0 hg hb; replace HO0_1 := zVe HO0_1 hg hb; have BK160 := am (hbox); have GW160 := zsz hg (zc0 HB); have GE160 := zsz hg (zc0 HB); replace HB := am (below_step (zc0 HB) hb); clear hb hbox hg) | ((with_reducible refine gate_dst (N := 4) rfl ?_); (try (refine gate_guard (by rfl) ?_; dsimp only)); refine box_event ?hg (N := 4) ?hd (cs := #[.slice none 0 0, .slice none 0 0]) (t := 24) ?hr ?_; (case hd => rfl); (case hg => rfl); (case hr => first | (go_simp; done) | (go_simp; rfl)); intro gb161 hg w8 hbox hb; replace HO0_0 := zVe HO0_0 hg hb; replace HO0_1 := zVe HO0_1 hg hb; have BK161 := am (hbox); have GW161 := zsz hg (zc1 HB GE160); have GE161 := zsz hg (zc1 HB GE160); replace HB := am (below_step (zc1 HB GE160) hb); have NB160_161 := znt BK160 hg; have NB161_160 := zng BK160 hg; replace BK160 := zbb BK160 hb; clear hb hbox hg; have hnb9 := NB160_161.out; have hnc9 := NB161_160.out; have hcz10_0 : w8.cell? ⟨gb160, 0, none⟩ = some (.slice A0_0 l0_0.length c0_0) := (blk_cell BK160.out 0).trans rfl; have hcz10_1 : w8.cell? ⟨gb160, 1, none⟩ = some (.slice A0_1 l0_1.length c0_1) := (blk_cell BK160.out 1).trans rfl; have hfz10_0 := blk_frozen BK160.out 0; have hfz10_1 := blk_frozen BK160.out 1) | ((with_reducible refine gate_callee (f := 19) rfl ?_); refine goesL_ (some 10) rfl rfl Try.func19 (by kernel_rfl) rfl #[.agg #[.slice A0_0 l0_0.length c0_0, .slice A0_1 l0_1.length c0_1]] rfl zm ?_; (with_reducible refine (cond_Right.calls k (fun k_ => ((((P0_0_ k_ ∨ P0_1_ k_) ∨ w.heap.size ≤ k_) ∧ k_ ≠ gb160) ∧ k_ ≠ gb161)) _ _ l0_0 (fun k_ => ((((P0_0_ k_ ∨ P0_1_ k_) ∨ w.heap.size ≤ k_) ∧ k_ ≠ gb160) ∧ k_ ≠ gb161)) _ _ l0_1 true _ ?side1 ?side2 A3.out).mono ?_); (case side1 => exact HO0_0.out); (case side2 => exact HO0_1.out); rintro e w11 ⟨rfl, hb⟩; refine ⟨_, rfl, ?_⟩; replace HO0_0 := zVb HO0_0 hb; replace HO0_1 := zVb HO0_1 hb; replace BK160 := zbb BK160 hb; replace BK161 := zbb BK161 hb; replace HB := am (below_step (zc2 HB GE160 GE161) hb); (try clear hb); (try clear hb2); (try clear hk); (try clear hi); have hcz12_0 : w11.cell? ⟨gb160, 0, none⟩ = some (.slice A0_0 l0_0.length c0_0) := (blk_cell BK160.out 0).trans rfl; have hcz12_1 : w11.cell? ⟨gb160, 1, none⟩ = some (.slice A0_1 l0_1.length c0_1) := (blk_cell BK160.out 1).trans rfl; have hfz12_0 := blk_frozen BK160.out 0; have hfz12_1 := blk_frozen BK160.out 1) | ((with_reducible refine gate_callee (f := 31) rfl ?_); refine goesL_ (some 16) rfl rfl Try.func31 (by kernel_rfl) rfl #[.slice A0_1 l0_1.length c0_1, .int .i64 a1] rfl zm ?_; (with_reducible refine (slices_Index_int_int.calls k _ _ l0_1 a1 t163 _ ?side1 ?side2 A5.out).mono ?_); (case side1 => repeat (first | exact (Kd.V_reads' HO0_1.out).2.2 | (with_reducible refine Kd.C_alloc ?_ _) | (with_reducible refine Kd.C_drewN ?_ _) | (with_reducible refine Kd.C_drew ?_))); (case side2 => exact (Kd.V_reads' HO0_1.out).2.1); rintro e w' ⟨rfl, ⟨nd, rfl⟩⟩; refine ⟨_, rfl, ?_⟩))
  (try simp only [Act.put, List.setIfInBounds_toArray, List.set_cons_zero, List.set_cons_succ])
  go_cut [17] (fun v17 wc => ∃ (kq : Nat) (x17_5 : Bool), v17 = .bool x17_5 ∧ Aside0 (cond_Leave.j0 kq a1 t163 x17_5 l0_0 l0_1 = some (r1, r2, r3, r4)) ∧ Aside0 (kq ≤ k) ∧ Aside0 (Kd.V (Kd.int .i64) 3 wc w.heap.size (fun k_ => ((P0_0_ k_ ∨ P0_1_ k_) ∨ w.heap.size ≤ k_) ∧ k_ ≠ gb160 ∧ k_ ≠ gb161) (.slice A0_0 l0_0.length c0_0) l0_0) ∧ Aside0 (Kd.V (Kd.int .i64) 3 wc w.heap.size (fun k_ => ((P0_0_ k_ ∨ P0_1_ k_) ∨ w.heap.size ≤ k_) ∧ k_ ≠ gb160 ∧ k_ ≠ gb161) (.slice A0_1 l0_1.length c0_1) l0_1) ∧ Aside0 (wc.heap[gb160]? = some (.cells #[(.slice A0_0 l0_0.length c0_0), (.slice A0_1 l0_1.length c0_1)] 24 (0, 0))) ∧ Aside0 (wc.heap[gb161]? = some (.cells #[(.slice none 0 0), (.slice none 0 0)] 24 (0, 0))) ∧ Aside0 (Below w.heap.size w wc))
  case first =>
   have H := HC6.out
   clear HC6
   by_cases c13 : t163 ≥ 0
   ·rw [if_pos c13] at H
    have c13b0 : decide (0 ≤ t163) = true := decide_eq_true c13
    clear c13
    (first | rw [c13b0] | (simp only [i64_w, i32_w]; rw [c13b0]) | skip)
    have H' := am H
    clear H
    have hnb14 := NB160_161.out
    have hnc14 := NB161_160.out
    have hcz15_0 : w11.cell? ⟨gb160, 0, none⟩ = some (.slice A0_0 l0_0.length c0_0) := (blk_cell BK160.out 0).trans rfl
    have hcz15_1 : w11.cell? ⟨gb160, 1, none⟩ = some (.slice A0_1 l0_1.length c0_1) := (blk_cell BK160.out 1).trans rfl
    have hfz15_0 := blk_frozen BK160.out 0
    have hfz15_1 := blk_frozen BK160.out 1
    go_wp2
    go_meet
    case rel => exact ⟨_, (decide ((l0_0.length : Int) > 0)), (by first | rfl | (simp; done) | (simp [*]; done)), H', ⟨by first | omega | exact Nat.le_refl _⟩, ⟨by (with_reducible repeat (first | apply Kd.V_alloc | apply Kd.V_drewN | apply Kd.V_drew)); exact Kd.V_mono HO0_0.out (fun _ hk => ⟨hk.1.1, ⟨hk.1.2, hk.2⟩⟩)⟩, ⟨by (with_reducible repeat (first | apply Kd.V_alloc | apply Kd.V_drewN | apply Kd.V_drew)); exact Kd.V_mono HO0_1.out (fun _ hk => ⟨hk.1.1, ⟨hk.1.2, hk.2⟩⟩)⟩, ⟨by (with_reducible repeat (first | refine blk_drewN ?_ _ | refine blk_drew ?_ | refine blk_alloc ?_ _)); exact BK160.out⟩, ⟨by (with_reducible repeat (first | refine blk_drewN ?_ _ | refine blk_drew ?_ | refine blk_alloc ?_ _)); exact BK161.out⟩, ⟨by repeat (first | (with_reducible first | exact HB.out | apply below_alloc | apply pw_below_drewN | apply below_drew1 | refine below_set ?_ GE160.out | refine below_set ?_ GE161.out) | exact HB.out)⟩⟩
   ·rw [if_neg c13] at H
    have c13b0 : decide (0 ≤ t163) = false := decide_eq_false c13
    clear c13
    (first | rw [c13b0] | (simp only [i64_w, i32_w]; rw [c13b0]) | skip)
    have H' := am H
    clear H
    go_wp2
    go_meet
    case rel => exact ⟨_, (false), (by first | rfl | (simp; done) | (simp [*]; done)), H', ⟨by first | omega | exact Nat.le_refl _⟩, ⟨by (with_reducible repeat (first | apply Kd.V_alloc | apply Kd.V_drewN | apply Kd.V_drew)); exact Kd.V_mono HO0_0.out (fun _ hk => ⟨hk.1.1, ⟨hk.1.2, hk.2⟩⟩)⟩, ⟨by (with_reducible repeat (first | apply Kd.V_alloc | apply Kd.V_drewN | apply Kd.V_drew)); exact Kd.V_mono HO0_1.out (fun _ hk => ⟨hk.1.1, ⟨hk.1.2, hk.2⟩⟩)⟩, ⟨by (with_reducible repeat (first | refine blk_drewN ?_ _ | refine blk_drew ?_ | refine blk_alloc ?_ _)); exact BK160.out⟩, ⟨by (with_reducible repeat (first | refine blk_drewN ?_ _ | refine blk_drew ?_ | refine blk_alloc ?_ _)); exact BK161.out⟩, ⟨by repeat (first | (with_reducible first | exact HB.out | apply below_alloc | apply pw_below_drewN | apply below_drew1 | refine below_set ?_ GE160.out | refine below_set ?_ GE161.out) | exact HB.out)⟩⟩
  case rest =>
   clear HC6
   try clear c1
   try clear p2
   try clear c3
   try clear c4
   try clear c9
   try clear c13
   try clear c13b0
   try clear c14
   try clear hcz10_0
   try clear hcz10_1
   try clear hcz12_0
   try clear hcz12_1
   try clear hcz15_0
   try clear hcz15_1
   try clear hfz10_0
   try clear hfz10_1
   try clear hfz12_0
   try clear hfz12_1
   try clear hfz15_0
   try clear hfz15_1
   obtain ⟨kq, x17_5, rfl, HA, HJ5, HO_161000, HO_161001, BK160, BK161, HB⟩ := hcut
   cases kq with
   | zero => exact absurd HA.out (by simp [cond_Leave.j0])
   | succ kj5 =>
    have H := HA.out
    clear HA
    simp only [cond_Leave.j0] at H
    by_cases c16 : x17_5 = true
    ·subst c16
     have H1 : ((slices_Clone_int_int.f l0_1).bind fun t164 => (if 0 < (l0_0.length : Int) then (if 0 ≤ t163 then (if t163 < (t164.length : Int) then (if 1 ≤ (l0_0.length : Int) then (some ((l0_0.drop 1), (t164.set (t163 : Int).toNat (rd l0_0 0)), true, 0)) else (none)) else (none)) else (none)) else (none))) = some (r1, r2, r3, r4) := by rw [if_pos rfl] at H; exact H
     clear H
     have H := H1
     clear H1
     replace H := Option.bind_eq_some_iff.mp H
     obtain ⟨t164, A170, H⟩ := H
     try dsimp only at H
     have A17 := am A170
     clear A170
     by_cases c18 : 0 < (l0_0.length : Int)
     ·rw [if_pos c18] at H
      have c18b0 : decide (0 < (l0_0.length : Int)) = true := decide_eq_true c18
      have c18b1 : decide (0 < l0_0.length) = true := decide_eq_true (by omega)
      clear c18
      by_cases c19 : 0 ≤ t163
      ·rw [if_pos c19] at H
       have c19b0 : decide (0 ≤ t163) = true := decide_eq_true c19
       clear c19
       by_cases c20 : t163 < (t164.length : Int)
       ·rw [if_pos c20] at H
        have c20b0 : decide (t163 < (t164.length : Int)) = true := decide_eq_true c20
        clear c20
        obtain ⟨y168, hy168⟩ : ∃ y_ : List Int, y_ = (t164.set (t163 : Int).toNat (rd l0_0 0)) := ⟨_, rfl⟩
        replace H : (if 1 ≤ (l0_0.length : Int) then (some ((l0_0.drop 1), y168, true, 0)) else (none)) = some (r1, r2, r3, r4) := by first | (rw [hy168]; with_reducible exact H) | (have H2_ := (Option.bind_some _ _).symm.trans H; rw [hy168]; with_reducible exact H2_) | (have H2_ := (Option.bind_some _ _).symm.trans H; with_reducible exact H2_) | with_reducible exact H | (rw [hy168]; exact H) | exact H
        have Ny168 := am hy168
        clear hy168
        by_cases c22 : 1 ≤ (l0_0.length : Int)
        ·rw [if_pos c22] at H
         have c22b0 := eq_true c22
         have c22b1 : decide (1 ≤ (l0_0.length : Int)) = true := decide_eq_true c22
         clear c22
         obtain ⟨y169, hy169⟩ : ∃ y_ : List Int, y_ = (l0_0.drop 1) := ⟨_, rfl⟩
         replace H : (some (y169, y168, true, 0)) = some (r1, r2, r3, r4) := by first | (rw [hy169]; with_reducible exact H) | (have H2_ := (Option.bind_some _ _).symm.trans H; rw [hy169]; with_reducible exact H2_) | (have H2_ := (Option.bind_some _ _).symm.trans H; with_reducible exact H2_) | with_reducible exact H | (rw [hy169]; exact H) | exact H
         have Ny169 := am hy169
         clear hy169
         simp only [Option.some.injEq, Prod.mk.injEq] at H
         obtain ⟨rfl, rfl, rfl, rfl⟩ := H
         have hnb23 := NB160_161.out
         have hnc23 := NB161_160.out
         have hcz24_0 : wc.cell? ⟨gb160, 0, none⟩ = some (.slice A0_0 l0_0.length c0_0) := (blk_cell BK160.out 0).trans rfl
         have hcz24_1 : wc.cell? ⟨gb160, 1, none⟩ = some (.slice A0_1 l0_1.length c0_1) := (blk_cell BK160.out 1).trans rfl
         have hfz24_0 := blk_frozen BK160.out 0
         have hfz24_1 := blk_frozen BK160.out 1
         go_wp2_with (first | ((with_reducible refine gate_callee (f := 25) rfl ?_); refine goesL_ (some 28) rfl rfl Try.func25 (by kernel_rfl) rfl #[.slice A0_1 l0_1.length c0_1] rfl zm ?_; (with_reducible refine (slices_Clone_int_int.calls _ _ l0_1 t164 _ ?side1 ?side2 A17.out).mono ?_); (case side1 => repeat (first | exact (Kd.V_reads' HO_161001.out).2.2 | (with_reducible refine Kd.C_alloc ?_ _) | (with_reducible refine Kd.C_drewN ?_ _) | (with_reducible refine Kd.C_drew ?_))); (case side2 => exact (Kd.V_reads' HO_161001.out).2.1); rintro e w25 ⟨v165, rfl, ho0, hb⟩; refine ⟨_, rfl, ?_⟩; replace HO_161000 := am (Kd.V_elder' (zV HO_161000) (Kd.R_base ho0) hb); replace HO_161001 := am (Kd.V_elder' (zV HO_161001) (Kd.R_base ho0) hb); have HO166 := am (Kd.R_lower (Kd.R_newM (M := fun k_ => (w.heap.size ≤ k_)) ho0 (below_size (zc2 HB GE160 GE161)) (fun k_ h_ => h_)) (below_size (zc2 HB GE160 GE161))); replace BK160 := zbb BK160 hb; replace BK161 := zbb BK161 hb; replace HB := am (below_step (zc2 HB GE160 GE161) hb); (try clear hb); (try clear hb2); (try clear hk); (try clear hi); (try clear ho0); have hcz26_0 : w25.cell? ⟨gb160, 0, none⟩ = some (.slice A0_0 l0_0.length c0_0) := (blk_cell BK160.out 0).trans rfl; have hcz26_1 : w25.cell? ⟨gb160, 1, none⟩ = some (.slice A0_1 l0_1.length c0_1) := (blk_cell BK160.out 1).trans rfl; have hfz26_0 := blk_frozen BK160.out 0; have hfz26_1 := blk_frozen BK160.out 1; have p167 : 0 ≤ (0 : Int) := (by omega); have q167 : 0 < (l0_0.length : Int) := of_decide_eq_true (by first | (with_reducible assumption) | assumption); obtain ⟨ad167, e167, hx167_0⟩ := Kd.at_int (Kd.V_reads' HO_161000.out).2.2 0 p167 q167; cases e167; have qi167 : (0 < l0_0.length) = True := eq_true (by omega); (try rw [show ((0 : Int)).toNat = 0 from rfl] at hx167_0); (try rw [Addr.add_zero'] at hx167_0); replace p167 := eq_true p167; replace q167 := eq_true q167; have p21 : 0 ≤ (t163 : Int) := of_decide_eq_true (by first | (with_reducible assumption) | assumption); have q21 : (t163 : Int) < ((t164.length : Int) : Int) := of_decide_eq_true (by first | (with_reducible assumption) | assumption); obtain ⟨go21, co21, eo21, gb21, gl21, cl21, HG21⟩ := Kd.R_form HO166.out (by omega); (first | cases eo21 | (injection eo21 with ea_ en_ ec_; (first | subst ea_ | (injection ea_ with ea_; subst ea_)); subst ec_; clear en_)); have GB21 := am gb21; have GG21 := am HG21; clear gb21 gl21 HG21; obtain ⟨hx21_0, hf21_0⟩ := Kd.R_celln 0 HO166.out (t163 : Int) p21 q21; replace p21 := eq_true p21; replace q21 := eq_true q21; have n_ := am (Kd.R_mono (ok' := (fun k_ => (w.heap.size ≤ k_))) HO166.out (fun k_ hk => hk.1)); clear HO166; have HO166 := n_; clear n_; obtain ⟨hy27_, hz27_⟩ := Kd.R_celln 0 HO166.out (t163 : Int) (of_decide_eq_true (by first | (with_reducible assumption) | assumption)) (of_decide_eq_true (by first | (with_reducible assumption) | assumption)); have HP27 := Kd.R_putg HO166.out (t163 : Int) (rd l0_0 0)) | ((with_reducible refine gate_store (t := 3) (p := 35) rfl ?_); refine store_event (t := 3) (p := 35) (v := ?vo_w28) (w1 := (w25.setCell ⟨go21, (t163 : Int).toNat, none⟩ (.int .i64 (rd l0_0 0)))) ?hg ?ho ?hn ?hr ?_; (case ho => rfl); (case hg => rfl); (case hn => rfl); (case hr => first | (go_simp; done) | (go_simp; rfl)); intro w28 hw; have hg : w25.grownBy w28 (some go21) := (by rw [hw]; exact HP27.2); have hp_ : Kd.R (Kd.int .i64) 3 w28 w.heap.size (fun k_ => (w.heap.size ≤ k_)) (.slice (some ⟨go21, 0, none⟩) t164.length co21) y168 := (by rw [hw, Ny168.out]; exact HP27.1); clear HP27; replace HO_161000 := am (Kd.V_afterv (v := (.slice (some ⟨go21, 0, none⟩) t164.length co21)) (v1 := (.slice (some ⟨go21, 0, none⟩) t164.length co21)) (ok := (fun k_ => ((P0_0_ k_ ∨ P0_1_ k_) ∨ w.heap.size ≤ k_) ∧ k_ ≠ gb160 ∧ k_ ≠ gb161)) (zV HO_161000) hg (.inl rfl)); replace HO_161001 := am (Kd.V_afterv (v := (.slice (some ⟨go21, 0, none⟩) t164.length co21)) (v1 := (.slice (some ⟨go21, 0, none⟩) t164.length co21)) (ok := (fun k_ => ((P0_0_ k_ ∨ P0_1_ k_) ∨ w.heap.size ≤ k_) ∧ k_ ≠ gb160 ∧ k_ ≠ gb161)) (zV HO_161001) hg (.inl rfl)); replace BK160 := am (blk_grown (g := gb160) (o := .cells #[.slice (some ad167) l0_0.length c0_0, .slice A0_1 l0_1.length c0_1] 24 (0, 0)) (zb BK160) hg (Kd.R_ne HO166.out BK160.out (by decide))); replace BK161 := am (blk_grown (g := gb161) (o := .cells #[.slice none 0 0, .slice none 0 0] 24 (0, 0)) (zb BK161) hg (Kd.R_ne HO166.out BK161.out (by decide))); replace HO166 := am (hp_); replace HB := am ((by rw [hw]; exact below_set (HB.out) GB21.out : Below w.heap.size w w28)); clear hg hw hp_; have hcz29_0 : w28.cell? ⟨gb160, 0, none⟩ = some (.slice (some ad167) l0_0.length c0_0) := (blk_cell BK160.out 0).trans rfl; have hcz29_1 : w28.cell? ⟨gb160, 1, none⟩ = some (.slice A0_1 l0_1.length c0_1) := (blk_cell BK160.out 1).trans rfl; have hfz29_0 := blk_frozen BK160.out 0; have hfz29_1 := blk_frozen BK160.out 1; have q30 : (1 : Int) ≤ ((l0_0.length : Int) : Int) := of_decide_eq_true (by first | (with_reducible assumption) | assumption); obtain ⟨i030, hi030, _, hsz30, _⟩ := info_parts info3; have hroom30 : l0_0.length ≤ c0_0 := (Kd.V_reads' HO_161000.out).2.1; have hC30 : Kd.F (Kd.int .i64) _ _ (some ad167) l0_0.length l0_0 := (Kd.V_at (base := w.heap.size) HO_161000.out).2.2; have hcut30 := cut_from (P := Try.prog) 22 3 .i64 Try.underlying22 hi030 1 hsz30 (some ad167) l0_0.length c0_0 1 (by omega) q30; have hr30 := Kd.F_cut (m := (1 : Int).toNat) (c := c0_0) hC30 (by omega) hroom30; obtain ⟨A30, hA30⟩ : ∃ A1, A1 = (if c0_0 = (1 : Int).toNat then (some ad167) else ((some ad167) : Option Addr).map (·.add ((1 : Int).toNat * 1))) := ⟨_, rfl⟩; obtain ⟨c30, hc30⟩ : ∃ c1, c1 = c0_0 - (1 : Int).toNat := ⟨_, rfl⟩; have hy30 : y169.length = l0_0.length - (1 : Int).toNat := (by rw [Ny169.out, List.length_drop] <;> omega); rw [show (l0_0).drop (1 : Int).toNat = y169 from Ny169.out.symm] at hr30; replace hr30 : Kd.F (Kd.int .i64) _ _ A30 y169.length y169 := (by rw [hA30]; exact hr30); rw [← hy30, ← hA30, ← hc30] at hcut30; have HO173 := am (show Kd.V (Kd.int .i64) 3 _ w.heap.size _ (.slice A30 y169.length c30) y169 from Kd.V_mk (by rw [hy30, hc30]; exact Nat.sub_le_sub_right hroom30 _) hr30); have HC173 := am (show y169.length ≤ c30 from by rw [hy30, hc30]; exact Nat.sub_le_sub_right hroom30 _); clear hr30 hC30 hroom30 hi030 hsz30 hc30; have KY30 := am hy30; have KA30 := am hA30; clear hy30 hA30; replace q30 := eq_true q30; have hcz31_0 : w28.cell? ⟨gb161, 0, none⟩ = some (.slice none 0 0) := (blk_cell BK161.out 0).trans rfl; have hcz31_1 : w28.cell? ⟨gb161, 1, none⟩ = some (.slice none 0 0) := (blk_cell BK161.out 1).trans rfl; have hfz31_0 := blk_frozen BK161.out 0; have hfz31_1 := blk_frozen BK161.out 1))
         refine bodyPost_ret (results_ctt rfl _ _ gb161 24 #[.slice A30 y169.length c30, .slice (some ⟨go21, 0, none⟩) t164.length co21] (0, 0) _ rfl (by (with_reducible repeat (first | refine blk_drewN ?_ _ | refine blk_drew ?_ | refine blk_alloc ?_ _)); refine blk_put (cs := #[.slice A30 y169.length c30, .slice none 0 0]) ?_ 1 _ rfl; (with_reducible repeat (first | refine blk_drewN ?_ _ | refine blk_drew ?_ | refine blk_alloc ?_ _)); refine blk_put (cs := #[.slice none 0 0, .slice none 0 0]) ?_ 0 _ rfl; (with_reducible repeat (first | refine blk_drewN ?_ _ | refine blk_drew ?_ | refine blk_alloc ?_ _)); exact BK161.out) Try.underlying24 rfl (by kernel_rfl)) rfl ?_
         exact ⟨_, _, by first | rfl | (simp [errW_none, errW_some] <;> rfl) | (simp [*, errW_none, errW_some] <;> rfl), by (with_reducible repeat (first | apply Kd.V_alloc | apply Kd.V_drewN | apply Kd.V_drew)); exact Kd.V_mono (Kd.V_far (p := ⟨gb161, 1, none⟩) (Kd.V_far (p := ⟨gb161, 0, none⟩) (Kd.V_mono HO173.out (fun k_ hk => (⟨hk, hk.1.2.2⟩ : _ ∧ k_ ≠ gb161))) (fun _ hk => hk.2) (.slice A30 y169.length c30)) (fun _ hk => hk.2) (.slice (some ⟨go21, 0, none⟩) t164.length co21)) (fun _ hk => hk.1.1.1), Kd.V_mono (Kd.R_V (Kd.R_mono (ok' := fun k_ => (w.heap.size ≤ k_)) (by (with_reducible repeat (first | apply Kd.R_alloc | apply Kd.R_drewN | apply Kd.R_drew)); exact Kd.R_mono (Kd.R_far (p := ⟨gb161, 1, none⟩) (Kd.R_far (p := ⟨gb161, 0, none⟩) (Kd.R_types HO166.out BK161.out (by decide)) (fun _ hk => hk.2) (.slice A30 y169.length c30)) (fun _ hk => hk.2) (.slice (some ⟨go21, 0, none⟩) t164.length co21)) (fun _ hk => hk.1)) (fun _ h_ => h_))) (fun k_ hk => by first | exact ⟨(.inr (hk.1)), hk.2⟩ | exact (.inr (hk))), by repeat (first | (with_reducible first | exact HB.out | apply below_alloc | apply pw_below_drewN | apply below_drew1 | refine below_set ?_ GE160.out | refine below_set ?_ GE161.out) | exact HB.out)⟩
        ·rw [if_neg c22] at H
         exact absurd H (by simp)
       ·rw [if_neg c20] at H
        exact absurd H (by simp)
      ·rw [if_neg c19] at H
       exact absurd H (by simp)
     ·rw [if_neg c18] at H
      exact absurd H (by simp)
    ·replace c16 := Bool.eq_false_iff.mpr c16
     subst c16
     have H1 : (if t163 < 0 then ((slices_Contains_int_int.f kj5 l0_0 a1).bind fun t174 => (cond_Leave.j1 kj5 a1 (!t174) l0_0 l0_1)) else (cond_Leave.j1 kj5 a1 false l0_0 l0_1)) = some (r1, r2, r3, r4) := by rw [if_neg (show ¬ (false = true) by decide)] at H; exact H
     clear H
     have H := H1
     clear H1
     have HC32 := am H
     clear H
     go_upto_region 8 with (fail)
     go_cut [41] (fun v41 wc => ∃ (kq : Nat) (x41_31 : Bool), v41 = .bool x41_31 ∧ Aside0 (cond_Leave.j1 kq a1 x41_31 l0_0 l0_1 = some (r1, r2, r3, r4)) ∧ Aside0 (kq ≤ kj5) ∧ Aside0 (Kd.V (Kd.int .i64) 3 wc w.heap.size (fun k_ => ((P0_0_ k_ ∨ P0_1_ k_) ∨ w.heap.size ≤ k_) ∧ k_ ≠ gb160 ∧ k_ ≠ gb161) (.slice A0_0 l0_0.length c0_0) l0_0) ∧ Aside0 (Kd.V (Kd.int .i64) 3 wc w.heap.size (fun k_ => ((P0_0_ k_ ∨ P0_1_ k_) ∨ w.heap.size ≤ k_) ∧ k_ ≠ gb160 ∧ k_ ≠ gb161) (.slice A0_1 l0_1.length c0_1) l0_1) ∧ Aside0 (wc.heap[gb160]? = some (.cells #[(.slice A0_0 l0_0.length c0_0), (.slice A0_1 l0_1.length c0_1)] 24 (0, 0))) ∧ Aside0 (wc.heap[gb161]? = some (.cells #[(.slice none 0 0), (.slice none 0 0)] 24 (0, 0))) ∧ Aside0 (Below w.heap.size w wc))
     case first =>
      have H := HC32.out
      clear HC32
      by_cases c33 : t163 < 0
      ·rw [if_pos c33] at H
       have c33b0 : decide (t163 < 0) = true := decide_eq_true c33
       clear c33
       (first | rw [c33b0] | (simp only [i64_w, i32_w]; rw [c33b0]) | skip)
       replace H := Option.bind_eq_some_iff.mp H
       obtain ⟨t174, A340, H⟩ := H
       try dsimp only at H
       have A34 := am A340
       clear A340
       have H' := am H
       clear H
       have hnb35 := NB160_161.out
       have hnc35 := NB161_160.out
       have hcz36_0 : wc.cell? ⟨gb160, 0, none⟩ = some (.slice A0_0 l0_0.length c0_0) := (blk_cell BK160.out 0).trans rfl
       have hcz36_1 : wc.cell? ⟨gb160, 1, none⟩ = some (.slice A0_1 l0_1.length c0_1) := (blk_cell BK160.out 1).trans rfl
       have hfz36_0 := blk_frozen BK160.out 0
       have hfz36_1 := blk_frozen BK160.out 1
       go_wp2_with (first | (go_at_call 24; (with_reducible refine (slices_Contains_int_int.calls kj5 _ _ l0_0 a1 t174 _ ?side1 ?side2 A34.out).mono ?_); (case side1 => repeat (first | exact (Kd.V_reads' HO_161000.out).2.2 | (with_reducible refine Kd.C_alloc ?_ _) | (with_reducible refine Kd.C_drewN ?_ _) | (with_reducible refine Kd.C_drew ?_))); (case side2 => exact (Kd.V_reads' HO_161000.out).2.1); rintro e w' ⟨rfl, ⟨nd, rfl⟩⟩))
       go_meet
       case rel => exact ⟨_, (!t174), (by first | rfl | (simp; done) | (simp [*]; done)), H', ⟨by have := HJ5.out; first | omega | exact Nat.le_refl _⟩, ⟨by (with_reducible repeat (first | apply Kd.V_alloc | apply Kd.V_drewN | apply Kd.V_drew)); exact HO_161000.out⟩, ⟨by (with_reducible repeat (first | apply Kd.V_alloc | apply Kd.V_drewN | apply Kd.V_drew)); exact HO_161001.out⟩, ⟨by (with_reducible repeat (first | refine blk_drewN ?_ _ | refine blk_drew ?_ | refine blk_alloc ?_ _)); exact BK160.out⟩, ⟨by (with_reducible repeat (first | refine blk_drewN ?_ _ | refine blk_drew ?_ | refine blk_alloc ?_ _)); exact BK161.out⟩, ⟨by repeat (first | (with_reducible first | exact HB.out | apply below_alloc | apply pw_below_drewN | apply below_drew1 | refine below_set ?_ GE160.out | refine below_set ?_ GE161.out) | exact HB.out)⟩⟩
      ·rw [if_neg c33] at H
       have c33b0 : decide (t163 < 0) = false := decide_eq_false c33
       clear c33
       (first | rw [c33b0] | (simp only [i64_w, i32_w]; rw [c33b0]) | skip)
       have H' := am H
       clear H
       go_wp2
       go_meet
       case rel => exact ⟨_, (false), (by first | rfl | (simp; done) | (simp [*]; done)), H', ⟨by have := HJ5.out; first | omega | exact Nat.le_refl _⟩, ⟨by (with_reducible repeat (first | apply Kd.V_alloc | apply Kd.V_drewN | apply Kd.V_drew)); exact HO_161000.out⟩, ⟨by (with_reducible repeat (first | apply Kd.V_alloc | apply Kd.V_drewN | apply Kd.V_drew)); exact HO_161001.out⟩, ⟨by (with_reducible repeat (first | refine blk_drewN ?_ _ | refine blk_drew ?_ | refine blk_alloc ?_ _)); exact BK160.out⟩, ⟨by (with_reducible repeat (first | refine blk_drewN ?_ _ | refine blk_drew ?_ | refine blk_alloc ?_ _)); exact BK161.out⟩, ⟨by repeat (first | (with_reducible first | exact HB.out | apply below_alloc | apply pw_below_drewN | apply below_drew1 | refine below_set ?_ GE160.out | refine below_set ?_ GE161.out) | exact HB.out)⟩⟩
     case rest =>
      clear HC32
      try clear c1
      try clear p1
      try clear q1
      try clear hx1
      try clear qi1
      try clear c2
      try clear p2
      try clear q2
      try clear hx2
      try clear hf2
      try clear c3
      try clear q3
      try clear c4
      try clear c9
      try clear c13
      try clear c13b0
      try clear c14
      try clear c16
      try clear p16
      try clear q16
      try clear hx16
      try clear qi16
      try clear c17
      try clear c18
      try clear c18b0
      try clear c18b1
      try clear c19
      try clear c19b0
      try clear c20
      try clear c20b0
      try clear p21
      try clear q21
      try clear hx21
      try clear hf21
      try clear c22
      try clear c22b0
      try clear c22b1
      try clear c23
      try clear c25
      try clear c30
      try clear q30
      try clear c31
      try clear c33
      try clear c33b0
      try clear c35
      try clear hcz10_0
      try clear hcz10_1
      try clear hcz12_0
      try clear hcz12_1
      try clear hcz15_0
      try clear hcz15_1
      try clear hcz24_0
      try clear hcz24_1
      try clear hcz26_0
      try clear hcz26_1
      try clear hcz29_0
      try clear hcz29_1
      try clear hcz31_0
      try clear hcz31_1
      try clear hcz36_0
      try clear hcz36_1
      try clear hfz10_0
      try clear hfz10_1
      try clear hfz12_0
      try clear hfz12_1
      try clear hfz15_0
      try clear hfz15_1
      try clear hfz24_0
      try clear hfz24_1
      try clear hfz26_0
      try clear hfz26_1
      try clear hfz29_0
      try clear hfz29_1
      try clear hfz31_0
      try clear hfz31_1
      try clear hfz36_0
      try clear hfz36_1
      try clear hx167_0
      try clear hx21_0
      try clear p167
      try clear p2
      try clear p21
      try clear q167
      try clear q21
      try clear q30
      obtain ⟨kq, x41_31, rfl, HA, HJ31, HO_161000, HO_161001, BK160, BK161, HB⟩ := hcut
      cases kq with
      | zero => exact absurd HA.out (by simp [cond_Leave.j1])
      | succ kj31 =>
       have H := HA.out
       clear HA
       simp only [cond_Leave.j1] at H
       by_cases c37 : x41_31 = true
       ·subst c37
        have H1 : (some (l0_0, l0_1, false, 3)) = some (r1, r2, r3, r4) := by rw [if_pos rfl] at H; exact H
        clear H
        have H := H1
        clear H1
        simp only [Option.some.injEq, Prod.mk.injEq] at H
        obtain ⟨rfl, rfl, rfl, rfl⟩ := H
        have hnb38 := NB160_161.out
        have hnc38 := NB161_160.out
        have hcz39_0 : wc.cell? ⟨gb160, 0, none⟩ = some (.slice A0_0 l0_0.length c0_0) := (blk_cell BK160.out 0).trans rfl
        have hcz39_1 : wc.cell? ⟨gb160, 1, none⟩ = some (.slice A0_1 l0_1.length c0_1) := (blk_cell BK160.out 1).trans rfl
        have hfz39_0 := blk_frozen BK160.out 0
        have hfz39_1 := blk_frozen BK160.out 1
        have hcz40_0 : wc.cell? ⟨gb161, 0, none⟩ = some (.slice none 0 0) := (blk_cell BK161.out 0).trans rfl
        have hcz40_1 : wc.cell? ⟨gb161, 1, none⟩ = some (.slice none 0 0) := (blk_cell BK161.out 1).trans rfl
        have hfz40_0 := blk_frozen BK161.out 0
        have hfz40_1 := blk_frozen BK161.out 1
        go_wp2
        refine bodyPost_ret (results_ctt rfl _ _ gb161 24 #[.slice A0_0 l0_0.length c0_0, .slice A0_1 l0_1.length c0_1] (0, 0) _ rfl (by (with_reducible repeat (first | refine blk_drewN ?_ _ | refine blk_drew ?_ | refine blk_alloc ?_ _)); refine blk_put (cs := #[.slice A0_0 l0_0.length c0_0, .slice none 0 0]) ?_ 1 _ rfl; (with_reducible repeat (first | refine blk_drewN ?_ _ | refine blk_drew ?_ | refine blk_alloc ?_ _)); refine blk_put (cs := #[.slice none 0 0, .slice none 0 0]) ?_ 0 _ rfl; (with_reducible repeat (first | refine blk_drewN ?_ _ | refine blk_drew ?_ | refine blk_alloc ?_ _)); exact BK161.out) Try.underlying24 rfl (by kernel_rfl)) rfl ?_
        exact ⟨_, _, by first | rfl | (simp [errW_none, errW_some] <;> rfl) | (simp [*, errW_none, errW_some] <;> rfl), by (with_reducible repeat (first | apply Kd.V_alloc | apply Kd.V_drewN | apply Kd.V_drew)); exact Kd.V_mono (Kd.V_far (p := ⟨gb161, 1, none⟩) (Kd.V_far (p := ⟨gb161, 0, none⟩) (Kd.V_mono HO_161000.out (fun k_ hk => (⟨hk, hk.2.2⟩ : _ ∧ k_ ≠ gb161))) (fun _ hk => hk.2) (.slice A0_0 l0_0.length c0_0)) (fun _ hk => hk.2) (.slice A0_1 l0_1.length c0_1)) (fun _ hk => hk.1.1), by (with_reducible repeat (first | apply Kd.V_alloc | apply Kd.V_drewN | apply Kd.V_drew)); exact Kd.V_mono (Kd.V_far (p := ⟨gb161, 1, none⟩) (Kd.V_far (p := ⟨gb161, 0, none⟩) (Kd.V_mono HO_161001.out (fun k_ hk => (⟨hk, hk.2.2⟩ : _ ∧ k_ ≠ gb161))) (fun _ hk => hk.2) (.slice A0_0 l0_0.length c0_0)) (fun _ hk => hk.2) (.slice A0_1 l0_1.length c0_1)) (fun _ hk => hk.1.1), by repeat (first | (with_reducible first | exact HB.out | apply below_alloc | apply pw_below_drewN | apply below_drew1 | refine below_set ?_ GE160.out | refine below_set ?_ GE161.out) | exact HB.out)⟩
       ·replace c37 := Bool.eq_false_iff.mpr c37
        subst c37
        have H1 : ((cond_without.f l0_0 a1).bind fun t175 => ((cond_without.f l0_1 a1).bind fun t178 => (some (t175, t178, false, 0)))) = some (r1, r2, r3, r4) := by rw [if_neg (show ¬ (false = true) by decide)] at H; exact H
        clear H
        have H := H1
        clear H1
        replace H := Option.bind_eq_some_iff.mp H
        obtain ⟨t175, A410, H⟩ := H
        try dsimp only at H
        have A41 := am A410
        clear A410
        replace H := Option.bind_eq_some_iff.mp H
        obtain ⟨t178, A420, H⟩ := H
        try dsimp only at H
        have A42 := am A420
        clear A420
        simp only [Option.some.injEq, Prod.mk.injEq] at H
        obtain ⟨rfl, rfl, rfl, rfl⟩ := H
        try go_wp2
        replace HO_161000 := am (Kd.V_drew HO_161000.out)
        replace HO_161001 := am (Kd.V_drew HO_161001.out)
        replace BK160 := am (blk_drew BK160.out)
        replace BK161 := am (blk_drew BK161.out)
        replace HB := am (below_drew1 HB.out)
        refine start_ (n := 12) (S := fun w' => w'.cell? ⟨gb160, 0, none⟩ = some (.slice A0_0 l0_0.length c0_0) ∧ w'.cell? ⟨gb160, 1, none⟩ = some (.slice A0_1 l0_1.length c0_1)) (ds := []) #[false, false, false, false, false, false, false, false, false, false, false, false] (by kernel_rfl) rfl rfl ⟨(blk_cell BK160.out 0).trans rfl, (blk_cell BK160.out 1).trans rfl⟩ (fun hHeld => ?_); refine with_tabW cond_Leave.tab10 cond_Leave.bits10 (fun HT_ HW_ => ?_)
        generalize wc.drew = w43 at HO_161000 HO_161001 BK160 BK161 HB hHeld ⊢
        refine pure_ (i := 0) (N := some 52) (v := ?_) (a' := ?_) #[true, false, false, false, false, false, false, false, false, false, false, false] rfl rfl (any_of HT_.out (by kernel_rfl)) (fun _ _ _ h => h) (Or.inl ⟨by rfl, ?_⟩) ?_ ?_
        rotate_left
        ·intro w'
         go_simp
         with_reducible rfl
        rotate_left
        ·simp only [Act.put, List.setIfInBounds_toArray, List.set_cons_zero, List.set_cons_succ, i64_w, i32_w]
         rfl
        refine pure_ (i := 2) (N := some 54) (v := ?_) (a' := ?_) #[true, false, true, false, false, false, false, false, false, false, false, false] rfl rfl (any_of HT_.out (by kernel_rfl)) (fun _ _ _ h => h) (Or.inl ⟨by rfl, ?_⟩) ?_ ?_
        rotate_left
        ·intro w'
         go_simp
         with_reducible rfl
        rotate_left
        ·simp only [Act.put, List.setIfInBounds_toArray, List.set_cons_zero, List.set_cons_succ, i64_w, i32_w]
         rfl
        refine pure_ (i := 4) (N := some 56) (v := ?_) (a' := ?_) #[true, false, true, false, true, false, false, false, false, false, false, false] rfl rfl (any_of HT_.out (by kernel_rfl)) (fun _ _ _ h => h) (Or.inl ⟨by rfl, ?_⟩) ?_ ?_
        rotate_left
        ·intro w'
         go_simp
         with_reducible rfl
        rotate_left
        ·simp only [Act.put, List.setIfInBounds_toArray, List.set_cons_zero, List.set_cons_succ, i64_w, i32_w]
         rfl
        refine pure_ (i := 6) (N := some 58) (v := ?_) (a' := ?_) #[true, false, true, false, true, false, true, false, false, false, false, false] rfl rfl (any_of HT_.out (by kernel_rfl)) (fun _ _ _ h => h) (Or.inl ⟨by rfl, ?_⟩) ?_ ?_
        rotate_left
        ·intro w'
         go_simp
         with_reducible rfl
        rotate_left
        ·simp only [Act.put, List.setIfInBounds_toArray, List.set_cons_zero, List.set_cons_succ, i64_w, i32_w]
         rfl
        refine take_ (i := 1) (N := some 53) (v := ?_) (a' := ?_) #[true, true, true, false, true, false, true, false, false, false, false, false] rfl rfl (take_ofW HT_.out HW_.out (by kernel_rfl)) (fun _ _ _ h => h) (Or.inl ⟨by rfl, ?_⟩) hHeld ?_ ?_
        rotate_left
        ·rintro w' ⟨s0, s1⟩
         go_simp
         with_reducible rfl
        rotate_left
        ·simp only [Act.put, List.setIfInBounds_toArray, List.set_cons_zero, List.set_cons_succ, i64_w, i32_w]
         rfl
        refine take_ (i := 5) (N := some 57) (v := ?_) (a' := ?_) #[true, true, true, false, true, true, true, false, false, false, false, false] rfl rfl (take_ofW HT_.out HW_.out (by kernel_rfl)) (fun _ _ _ h => h) (Or.inl ⟨by rfl, ?_⟩) hHeld ?_ ?_
        rotate_left
        ·rintro w' ⟨s0, s1⟩
         go_simp
         with_reducible rfl
        rotate_left
        ·simp only [Act.put, List.setIfInBounds_toArray, List.set_cons_zero, List.set_cons_succ, i64_w, i32_w]
         rfl
        refine one_ (i := 3) (N := some 55) #[true, true, true, true, true, true, true, false, false, false, false, false] rfl rfl (one_of HT_.out (by kernel_rfl)) (by decide) (fun K hK => ?_)
        refine goes_ Try.func29 (by kernel_rfl) rfl #[.slice A0_0 l0_0.length c0_0, .int .i64 a1] (by rfl) rfl rfl zm ?_
        with_reducible refine (cond_without.calls _ _ l0_0 a1 t175 _ ?side1 ?side2 A41.out).mono ?_
        (case side1 => repeat (first | exact (Kd.V_reads' HO_161000.out).2.2 | (with_reducible refine Kd.C_alloc ?_ _) | (with_reducible refine Kd.C_drewN ?_ _) | (with_reducible refine Kd.C_drew ?_)))
        (case side2 => exact (Kd.V_reads' HO_161000.out).2.1)
        rintro e w44 ⟨v176, rfl, ho0, hb⟩
        refine ⟨_, rfl, ?_⟩
        replace HO_161000 := am (Kd.V_elder' (zV HO_161000) (Kd.R_base ho0) hb)
        replace HO_161001 := am (Kd.V_elder' (zV HO_161001) (Kd.R_base ho0) hb)
        have HO177 := am (Kd.R_lower (Kd.R_newM (M := fun k_ => (w.heap.size ≤ k_)) ho0 (below_size (zc2 HB GE160 GE161)) (fun k_ h_ => h_)) (below_size (zc2 HB GE160 GE161)))
        replace BK160 := zbb BK160 hb
        replace BK161 := zbb BK161 hb
        replace HB := am (below_step (zc2 HB GE160 GE161) hb)
        (try clear hb)
        (try clear hb2)
        (try clear hk)
        (try clear hi)
        (try clear ho0)
        refine hK.out _ _ ⟨(blk_cell BK160.out 0).trans rfl, (blk_cell BK160.out 1).trans rfl⟩ (fun hHeld => ?_)
        clear hK K
        refine norm_ (a' := ?_) ?_ ?_
        rotate_left
        ·show Act.put _ (some 55) _ = _
         simp only [Act.put, List.setIfInBounds_toArray, List.set_cons_zero, List.set_cons_succ, i64_w, i32_w]
         rfl
        refine one_ (i := 7) (N := some 59) #[true, true, true, true, true, true, true, true, false, false, false, false] rfl rfl (one_of HT_.out (by kernel_rfl)) (by decide) (fun K hK => ?_)
        refine goes_ Try.func29 (by kernel_rfl) rfl #[.slice A0_1 l0_1.length c0_1, .int .i64 a1] (by rfl) rfl rfl zm ?_
        with_reducible refine (cond_without.calls _ _ l0_1 a1 t178 _ ?side1 ?side2 A42.out).mono ?_
        (case side1 => repeat (first | exact (Kd.V_reads' HO_161001.out).2.2 | (with_reducible refine Kd.C_alloc ?_ _) | (with_reducible refine Kd.C_drewN ?_ _) | (with_reducible refine Kd.C_drew ?_)))
        (case side2 => exact (Kd.V_reads' HO_161001.out).2.1)
        rintro e w45 ⟨v179, rfl, ho0, hb⟩
        refine ⟨_, rfl, ?_⟩
        replace HO_161000 := am (Kd.V_elder' (zV HO_161000) (Kd.R_base ho0) hb)
        replace HO_161001 := am (Kd.V_elder' (zV HO_161001) (Kd.R_base ho0) hb)
        have HO180 := am (Kd.R_lower (Kd.R_new' (Kd.R_newM (M := fun k_ => (w.heap.size ≤ k_)) ho0 (below_size (zc2 HB GE160 GE161)) (fun k_ h_ => h_)) (Kd.R_lt (zR HO177))) (below_size (zc2 HB GE160 GE161)))
        replace HO177 := am (Kd.R_elder' (zR HO177) (Kd.R_base ho0) hb)
        replace BK160 := zbb BK160 hb
        replace BK161 := zbb BK161 hb
        replace HB := am (below_step (zc2 HB GE160 GE161) hb)
        (try clear hb)
        (try clear hb2)
        (try clear hk)
        (try clear hi)
        (try clear ho0)
        obtain ⟨Ao46, co46, eo46⟩ := Kd.R_slice HO180.out
        (first | subst eo46 | (injection eo46 with f1_ f2_ f3_; have f4_ := f1_.symm; have f5_ := f3_.symm; clear f1_ f2_ f3_; subst f4_; subst f5_))
        obtain ⟨Ao47, co47, eo47⟩ := Kd.R_slice HO177.out
        (first | subst eo47 | (injection eo47 with f1_ f2_ f3_; have f4_ := f1_.symm; have f5_ := f3_.symm; clear f1_ f2_ f3_; subst f4_; subst f5_))
        refine hK.out _ _ ⟨(blk_cell BK160.out 0).trans rfl, (blk_cell BK160.out 1).trans rfl⟩ (fun hHeld => ?_)
        clear hK K
        refine norm_ (a' := ?_) ?_ ?_
        rotate_left
        ·show Act.put _ (some 59) _ = _
         simp only [Act.put, List.setIfInBounds_toArray, List.set_cons_zero, List.set_cons_succ, i64_w, i32_w]
         rfl
        refine pure_ (i := 8) (N := some 60) (v := ?_) (a' := ?_) #[true, true, true, true, true, true, true, true, true, false, false, false] rfl rfl (any_of HT_.out (by kernel_rfl)) (fun _ _ _ h => h) (Or.inl ⟨by rfl, ?_⟩) ?_ ?_
        rotate_left
        ·intro w'
         go_simp
         with_reducible rfl
        rotate_left
        ·simp only [Act.put, List.setIfInBounds_toArray, List.set_cons_zero, List.set_cons_succ, i64_w, i32_w]
         rfl
        refine one_ (i := 9) (N := none) #[true, true, true, true, true, true, true, true, true, true, false, false] rfl rfl (one_of HT_.out (by kernel_rfl)) (by decide) (fun K hK => ?_)
        have hs48 : w45.cell? ⟨gb161, 0, none⟩ = some (.slice none 0 0) := (blk_cell BK161.out 0).trans rfl
        have hfs48 := blk_frozen BK161.out 0
        have hns48_0 := NB160_161.out
        have hms48_0 := NB161_160.out
        have hs49 : w45.cell? ⟨gb161, 1, none⟩ = some (.slice none 0 0) := (blk_cell BK161.out 1).trans rfl
        have hfs49 := blk_frozen BK161.out 1
        have hns49_0 := NB160_161.out
        have hms49_0 := NB161_160.out
        refine skip_ (w1 := ?_) (by rfl) rfl ?_ ?_
        rotate_left
        ·go_simp
         rfl
        refine hK.out _ _ ⟨((cell_far (p := ⟨gb161, _, none⟩) NB160_161.out _).trans (((cell_far (p := ⟨gb161, _, none⟩) NB160_161.out _).trans (hHeld.1)))), ((cell_far (p := ⟨gb161, _, none⟩) NB160_161.out _).trans (((cell_far (p := ⟨gb161, _, none⟩) NB160_161.out _).trans (hHeld.2))))⟩ (fun hHeld => ?_)
        clear hK K
        refine pure_ (i := 10) (N := some 5) (v := ?_) (a' := ?_) #[true, true, true, true, true, true, true, true, true, true, true, false] rfl rfl (any_of HT_.out (by kernel_rfl)) (fun _ _ _ h => h) (Or.inl ⟨by rfl, ?_⟩) ?_ ?_
        rotate_left
        ·intro w'
         go_simp
         with_reducible rfl
        rotate_left
        ·simp only [Act.put, List.setIfInBounds_toArray, List.set_cons_zero, List.set_cons_succ, i64_w, i32_w]
         rfl
        refine pure_ (i := 11) (N := some 6) (v := ?_) (a' := ?_) #[true, true, true, true, true, true, true, true, true, true, true, true] rfl rfl (any_of HT_.out (by kernel_rfl)) (fun _ _ _ h => h) (Or.inl ⟨by rfl, ?_⟩) ?_ ?_
        rotate_left
        ·intro w'
         go_simp
         with_reducible rfl
        rotate_left
        ·simp only [Act.put, List.setIfInBounds_toArray, List.set_cons_zero, List.set_cons_succ, i64_w, i32_w]
         rfl
        refine done_ (done_of HT_.out (by kernel_rfl)) ?_
        try go_wp2
        refine bodyPost_ret (results_ctt rfl _ _ gb161 24 #[.slice Ao47 t175.length co47, .slice Ao46 t178.length co46] (0, 0) _ rfl (by (with_reducible repeat (first | refine blk_drewN ?_ _ | refine blk_drew ?_ | refine blk_alloc ?_ _)); refine blk_put (cs := #[.slice Ao47 t175.length co47, .slice none 0 0]) ?_ 1 _ rfl; (with_reducible repeat (first | refine blk_drewN ?_ _ | refine blk_drew ?_ | refine blk_alloc ?_ _)); refine blk_put (cs := #[.slice none 0 0, .slice none 0 0]) ?_ 0 _ rfl; (with_reducible repeat (first | refine blk_drewN ?_ _ | refine blk_drew ?_ | refine blk_alloc ?_ _)); exact BK161.out) Try.underlying24 rfl (by kernel_rfl)) rfl ?_
        exact ⟨_, _, by first | rfl | (simp [errW_none, errW_some] <;> rfl) | (simp [*, errW_none, errW_some] <;> rfl), Kd.V_mono (Kd.R_V (Kd.R_mono (ok' := fun k_ => (w.heap.size ≤ k_)) (by (with_reducible repeat (first | apply Kd.R_alloc | apply Kd.R_drewN | apply Kd.R_drew)); exact Kd.R_mono (Kd.R_far (p := ⟨gb161, 1, none⟩) (Kd.R_far (p := ⟨gb161, 0, none⟩) (Kd.R_types HO177.out BK161.out (by decide)) (fun _ hk => hk.2) (.slice Ao47 t175.length co47)) (fun _ hk => hk.2) (.slice Ao46 t178.length co46)) (fun _ hk => hk.1.1.1)) (fun _ h_ => h_))) (fun k_ hk => by first | exact ⟨(.inr (hk.1)), hk.2⟩ | exact (.inr (hk))), Kd.V_mono (Kd.R_V (Kd.R_mono (ok' := fun k_ => (w.heap.size ≤ k_)) (by (with_reducible repeat (first | apply Kd.R_alloc | apply Kd.R_drewN | apply Kd.R_drew)); exact Kd.R_mono (Kd.R_far (p := ⟨gb161, 1, none⟩) (Kd.R_far (p := ⟨gb161, 0, none⟩) (Kd.R_types HO180.out BK161.out (by decide)) (fun _ hk => hk.2) (.slice Ao47 t175.length co47)) (fun _ hk => hk.2) (.slice Ao46 t178.length co46)) (fun _ hk => hk.1.1.1)) (fun _ h_ => h_))) (fun k_ hk => by first | exact ⟨(.inr (hk.1)), hk.2⟩ | exact (.inr (hk))), by repeat (first | (with_reducible first | exact HB.out | apply below_alloc | apply pw_below_drewN | apply below_drew1 | refine below_set ?_ GE160.out | refine below_set ?_ GE161.out) | exact HB.out)⟩
 ·replace c4 := Bool.eq_false_iff.mpr c4
  subst c4
  have H1 : (some (l0_0, l0_1, false, 1)) = some (r1, r2, r3, r4) := by rw [if_neg (show ¬ (false = true) by decide)] at H; exact H
  clear H
  have H := H1
  clear H1
  simp only [Option.some.injEq, Prod.mk.injEq] at H
  obtain ⟨rfl, rfl, rfl, rfl⟩ := H
  go_enter Try.func17, Try.ntmps17
  go_wp2_with (first | ((with_reducible refine gate_dst (N := 2) rfl ?_); (try (refine gate_guard (by rfl) ?_; dsimp only)); refine box_event ?hg (N := 2) ?hd (cs := #[.slice A0_0 l0_0.length c0_0, .slice A0_1 l0_1.length c0_1]) (t := 24) ?hr ?_; (case hd => rfl); (case hg => rfl); (case hr => first | (go_simp; done) | (go_simp; rfl)); intro gb160 hg w50 hbox hb; replace HO0_0 := zVe HO0_0 hg hb; replace HO0_1 := zVe HO0_1 hg hb; have BK160 := am (hbox); have GW160 := zsz hg (zc0 HB); have GE160 := zsz hg (zc0 HB); replace HB := am (below_step (zc0 HB) hb); clear hb hbox hg) | ((with_reducible refine gate_dst (N := 4) rfl ?_); (try (refine gate_guard (by rfl) ?_; dsimp only)); refine box_event ?hg (N := 4) ?hd (cs := #[.slice none 0 0, .slice none 0 0]) (t := 24) ?hr ?_; (case hd => rfl); (case hg => rfl); (case hr => first | (go_simp; done) | (go_simp; rfl)); intro gb161 hg w51 hbox hb; replace HO0_0 := zVe HO0_0 hg hb; replace HO0_1 := zVe HO0_1 hg hb; have BK161 := am (hbox); have GW161 := zsz hg (zc1 HB GE160); have GE161 := zsz hg (zc1 HB GE160); replace HB := am (below_step (zc1 HB GE160) hb); have NB160_161 := znt BK160 hg; have NB161_160 := zng BK160 hg; replace BK160 := zbb BK160 hb; clear hb hbox hg; have hnb52 := NB160_161.out; have hnc52 := NB161_160.out; have hcz53_0 : w51.cell? ⟨gb160, 0, none⟩ = some (.slice A0_0 l0_0.length c0_0) := (blk_cell BK160.out 0).trans rfl; have hcz53_1 : w51.cell? ⟨gb160, 1, none⟩ = some (.slice A0_1 l0_1.length c0_1) := (blk_cell BK160.out 1).trans rfl; have hfz53_0 := blk_frozen BK160.out 0; have hfz53_1 := blk_frozen BK160.out 1) | ((with_reducible refine gate_callee (f := 19) rfl ?_); refine goesL_ (some 10) rfl rfl Try.func19 (by kernel_rfl) rfl #[.agg #[.slice A0_0 l0_0.length c0_0, .slice A0_1 l0_1.length c0_1]] rfl zm ?_; (with_reducible refine (cond_Right.calls k (fun k_ => ((((P0_0_ k_ ∨ P0_1_ k_) ∨ w.heap.size ≤ k_) ∧ k_ ≠ gb160) ∧ k_ ≠ gb161)) _ _ l0_0 (fun k_ => ((((P0_0_ k_ ∨ P0_1_ k_) ∨ w.heap.size ≤ k_) ∧ k_ ≠ gb160) ∧ k_ ≠ gb161)) _ _ l0_1 false _ ?side1 ?side2 A3.out).mono ?_); (case side1 => exact HO0_0.out); (case side2 => exact HO0_1.out); rintro e w54 ⟨rfl, hb⟩; refine ⟨_, rfl, ?_⟩; replace HO0_0 := zVb HO0_0 hb; replace HO0_1 := zVb HO0_1 hb; replace BK160 := zbb BK160 hb; replace BK161 := zbb BK161 hb; replace HB := am (below_step (zc2 HB GE160 GE161) hb); (try clear hb); (try clear hb2); (try clear hk); (try clear hi); have hcz55_0 : w54.cell? ⟨gb160, 0, none⟩ = some (.slice A0_0 l0_0.length c0_0) := (blk_cell BK160.out 0).trans rfl; have hcz55_1 : w54.cell? ⟨gb160, 1, none⟩ = some (.slice A0_1 l0_1.length c0_1) := (blk_cell BK160.out 1).trans rfl; have hfz55_0 := blk_frozen BK160.out 0; have hfz55_1 := blk_frozen BK160.out 1; have hcz56_0 : w54.cell? ⟨gb161, 0, none⟩ = some (.slice none 0 0) := (blk_cell BK161.out 0).trans rfl; have hcz56_1 : w54.cell? ⟨gb161, 1, none⟩ = some (.slice none 0 0) := (blk_cell BK161.out 1).trans rfl; have hfz56_0 := blk_frozen BK161.out 0; have hfz56_1 := blk_frozen BK161.out 1))
  refine bodyPost_ret (results_ctt rfl _ _ gb161 24 #[.slice A0_0 l0_0.length c0_0, .slice A0_1 l0_1.length c0_1] (0, 0) _ rfl (by (with_reducible repeat (first | refine blk_drewN ?_ _ | refine blk_drew ?_ | refine blk_alloc ?_ _)); refine blk_put (cs := #[.slice A0_0 l0_0.length c0_0, .slice none 0 0]) ?_ 1 _ rfl; (with_reducible repeat (first | refine blk_drewN ?_ _ | refine blk_drew ?_ | refine blk_alloc ?_ _)); refine blk_put (cs := #[.slice none 0 0, .slice none 0 0]) ?_ 0 _ rfl; (with_reducible repeat (first | refine blk_drewN ?_ _ | refine blk_drew ?_ | refine blk_alloc ?_ _)); exact BK161.out) Try.underlying24 rfl (by kernel_rfl)) rfl ?_
  exact ⟨_, _, by first | rfl | (simp [errW_none, errW_some] <;> rfl) | (simp [*, errW_none, errW_some] <;> rfl), by (with_reducible repeat (first | apply Kd.V_alloc | apply Kd.V_drewN | apply Kd.V_drew)); exact Kd.V_mono (Kd.V_far (p := ⟨gb161, 1, none⟩) (Kd.V_far (p := ⟨gb161, 0, none⟩) (Kd.V_mono HO0_0.out (fun k_ hk => (⟨hk, hk.2⟩ : _ ∧ k_ ≠ gb161))) (fun _ hk => hk.2) (.slice A0_0 l0_0.length c0_0)) (fun _ hk => hk.2) (.slice A0_1 l0_1.length c0_1)) (fun _ hk => hk.1.1.1), by (with_reducible repeat (first | apply Kd.V_alloc | apply Kd.V_drewN | apply Kd.V_drew)); exact Kd.V_mono (Kd.V_far (p := ⟨gb161, 1, none⟩) (Kd.V_far (p := ⟨gb161, 0, none⟩) (Kd.V_mono HO0_1.out (fun k_ hk => (⟨hk, hk.2⟩ : _ ∧ k_ ≠ gb161))) (fun _ hk => hk.2) (.slice A0_0 l0_0.length c0_0)) (fun _ hk => hk.2) (.slice A0_1 l0_1.length c0_1)) (fun _ hk => hk.1.1.1), by repeat (first | (with_reducible first | exact HB.out | apply below_alloc | apply pw_below_drewN | apply below_drew1 | refine below_set ?_ GE160.out | refine below_set ?_ GE161.out) | exact HB.out)⟩

/-! ### handshakerref03_Numbers: function 22 -/
def handshakerref03_Numbers.l0 : Nat → List Int → List Int → Int → Option (Bool)
 | 0, _, _, _ => none
 | k + 1, x0, x1, x5 => if x5 < (x0.length : Int) then (if 0 ≤ x5 then (if x5 < (x1.length : Int) then (if (rd x0 x5) = (rd x1 x5) then (handshakerref03_Numbers.l0 k x0 x1 (wrap64 (x5 + 1))) else (some false)) else (none)) else (none)) else (some true)
def handshakerref03_Numbers.f (k : Nat) (l0 : List Int) (l1 : List Int) : Option (Bool) := if (l0.length : Int) = (l1.length : Int) then (handshakerref03_Numbers.l0 k l0 l1 0) else (some false)
theorem handshakerref03_Numbers.mono_l : ∀ k, (∀ y0 y1 y2, LeO (handshakerref03_Numbers.l0 k y0 y1 y2) (handshakerref03_Numbers.l0 (k + 1) y0 y1 y2))
 | 0 => fun _ _ _ r h => by simp [handshakerref03_Numbers.l0] at h
 | k + 1 => by
  have ih0 := handshakerref03_Numbers.mono_l k
  ·intro y0 y1 y2
   unfold handshakerref03_Numbers.l0
   repeat' first
   | (with_reducible exact ih0 _ _ _)
   | (with_reducible exact LeO.refl _)
   | (with_reducible exact LeO.none _)
   | (with_reducible refine LeO.ite ?_ ?_)
   | (with_reducible refine LeO.bind ?_ (fun _ => ?_))
   | exact ih0 _ _ _
   | exact LeO.none _
   | refine LeO.ite ?_ ?_
   | refine LeO.bind ?_ (fun _ => ?_)
theorem handshakerref03_Numbers.mono : ∀ a0 a1 k, LeO (handshakerref03_Numbers.f k a0 a1) (handshakerref03_Numbers.f (k + 1) a0 a1) := by
 intro a0 a1 k
 have ih0 := handshakerref03_Numbers.mono_l k
 unfold handshakerref03_Numbers.f
 repeat' first
   | (with_reducible exact ih0 _ _ _)
   | (with_reducible exact LeO.refl _)
   | (with_reducible exact LeO.none _)
   | (with_reducible refine LeO.ite ?_ ?_)
   | (with_reducible refine LeO.bind ?_ (fun _ => ?_))
   | exact ih0 _ _ _
   | exact LeO.none _
   | refine LeO.ite ?_ ?_
   | refine LeO.bind ?_ (fun _ => ?_)
set_option maxHeartbeats 8000000 in
set_option maxRecDepth 100000 in
theorem handshakerref03_Numbers.calls (k : Nat) (A0 : Option Addr) (c0 : Nat) (l0 : List Int) (A1 : Option Addr) (c1 : Nat) (l1 : List Int) (r : Bool) (w : World) (hr0 : Kd.C (Kd.int .i64) w A0 l0.length l0) (hc0 : l0.length ≤ c0) (hr1 : Kd.C (Kd.int .i64) w A1 l1.length l1) (hc1 : l1.length ≤ c1) (h : handshakerref03_Numbers.f k l0 l1 = some r) :
  Calls Try.prog 22 #[.slice A0 l0.length c0, .slice A1 l1.length c1] w fun e w' => e = .returned (.bool r) ∧ Drawn0 w w' := by
 have HR0 := am hr0
 have HC0 := am hc0
 clear hr0 hc0
 have HR1 := am hr1
 have HC1 := am hc1
 clear hr1 hc1
 have H : (if (l0.length : Int) = (l1.length : Int) then (handshakerref03_Numbers.l0 k l0 l1 0) else (some false)) = some r := h
 clear h
 by_cases c3 : (l0.length : Int) = (l1.length : Int)
 ·rw [if_pos c3] at H
  have c3b0 : ((l0.length : Int) == (l1.length : Int)) = true := beq_iff_eq.mpr c3
  have c3b1 : ((l0.length : Int) != (l1.length : Int)) = false := bne_eq_false_iff_eq.mpr c3
  have c3b2 : (l0.length == l1.length) = true := by first | simpa using c3 | (simp at c3 ⊢; omega)
  clear c3
  have H' := am H
  clear H
  go_enter Try.func22, Try.ntmps22
  go_wp2
  repeat (go_quiet (fail); try go_wp2)
  go_loopg [5] k (fun kq v5 w' => ∃ (x5_1 : Int), v5 = .int .i64 x5_1 ∧ Aside0 (handshakerref03_Numbers.l0 kq l0 l1 x5_1 = some r) ∧ Aside0 (kq ≤ k) ∧ Drawn0 w w')
  case atStart => exact ⟨(0), (by first | rfl | (simp; done) | (simp [*]; done)), H', ⟨Nat.le_refl _⟩, by repeat (first | exact Drawn0.refl _ | apply Drawn0.step)⟩
  case round =>
   clear H'
   try clear c1
   try clear c2
   try clear p2
   try clear c3
   try clear c3b0
   try clear c3b1
   try clear c3b2
   obtain ⟨x5_1, rfl, HA, HK1, ⟨m1, rfl⟩⟩ := hrel
   cases gk with
   | zero => exact absurd HA.out (by simp [handshakerref03_Numbers.l0])
   | succ k1 =>
    have H := HA.out
    clear HA
    simp only [handshakerref03_Numbers.l0] at H
    by_cases c4 : x5_1 < (l0.length : Int)
    ·rw [if_pos c4] at H
     have c4b0 : decide (x5_1 < (l0.length : Int)) = true := decide_eq_true c4
     clear c4
     by_cases c5 : 0 ≤ x5_1
     ·rw [if_pos c5] at H
      have c5b0 : decide (0 ≤ x5_1) = true := decide_eq_true c5
      clear c5
      by_cases c6 : x5_1 < (l1.length : Int)
      ·rw [if_pos c6] at H
       have c6b0 : decide (x5_1 < (l1.length : Int)) = true := decide_eq_true c6
       clear c6
       by_cases c7 : (rd l0 x5_1) = (rd l1 x5_1)
       ·rw [if_pos c7] at H
        have c7b0 : ((rd l0 x5_1) == (rd l1 x5_1)) = true := beq_iff_eq.mpr c7
        have c7b1 : ((rd l0 x5_1) != (rd l1 x5_1)) = false := bne_eq_false_iff_eq.mpr c7
        clear c7
        have H' := am H
        clear H
        have p181 : 0 ≤ (x5_1 : Int) := of_decide_eq_true (by first | (with_reducible assumption) | assumption)
        have q181 : x5_1 < (l0.length : Int) := of_decide_eq_true (by first | (with_reducible assumption) | assumption)
        obtain ⟨ad181, e181, hx181_0⟩ := Kd.at_int HR0.out x5_1 p181 q181
        cases e181
        replace p181 := eq_true p181
        replace q181 := eq_true q181
        have p182 : 0 ≤ (x5_1 : Int) := of_decide_eq_true (by first | (with_reducible assumption) | assumption)
        have q182 : x5_1 < (l1.length : Int) := of_decide_eq_true (by first | (with_reducible assumption) | assumption)
        obtain ⟨ad182, e182, hx182_0⟩ := Kd.at_int HR1.out x5_1 p182 q182
        cases e182
        replace p182 := eq_true p182
        replace q182 := eq_true q182
        go_wp2
        repeat (go_quiet (fail); try go_wp2)
        go_roundg k1
        case measure => have := HK1.out; omega
        case rel => exact ⟨(wrap64 (x5_1 + 1)), (by first | rfl | (simp; done) | (simp [*]; done)), H', ⟨by have := HK1.out; omega⟩, by repeat (first | exact Drawn0.refl _ | apply Drawn0.step)⟩
       ·rw [if_neg c7] at H
        have c7b0 : ((rd l0 x5_1) == (rd l1 x5_1)) = false := beq_eq_false_iff_ne.mpr c7
        have c7b1 : ((rd l0 x5_1) != (rd l1 x5_1)) = true := bne_iff_ne.mpr c7
        obtain rfl := Option.some.inj H
        have p181 : 0 ≤ (x5_1 : Int) := of_decide_eq_true (by first | (with_reducible assumption) | assumption)
        have q181 : x5_1 < (l0.length : Int) := of_decide_eq_true (by first | (with_reducible assumption) | assumption)
        obtain ⟨ad181, e181, hx181_0⟩ := Kd.at_int HR0.out x5_1 p181 q181
        cases e181
        replace p181 := eq_true p181
        replace q181 := eq_true q181
        have p182 : 0 ≤ (x5_1 : Int) := of_decide_eq_true (by first | (with_reducible assumption) | assumption)
        have q182 : x5_1 < (l1.length : Int) := of_decide_eq_true (by first | (with_reducible assumption) | assumption)
        obtain ⟨ad182, e182, hx182_0⟩ := Kd.at_int HR1.out x5_1 p182 q182
        cases e182
        replace p182 := eq_true p182
        replace q182 := eq_true q182
        go_wp2
        repeat (go_quiet (fail); try go_wp2)
        go_ret
        exact ⟨by first | rfl | (simp; done) | (simp [*]; done), by repeat (first | exact Drawn0.refl _ | apply Drawn0.step)⟩
      ·rw [if_neg c6] at H
       exact absurd H (by simp)
     ·rw [if_neg c5] at H
      exact absurd H (by simp)
    ·rw [if_neg c4] at H
     have c4b0 : decide (x5_1 < (l0.length : Int)) = false := decide_eq_false c4
     clear c4
     obtain rfl := Option.some.inj H
     go_wp2
     repeat (go_quiet (fail); try go_wp2)
     go_ret
     exact ⟨by first | rfl | (simp; done) | (simp [*]; done), by repeat (first | exact Drawn0.refl _ | apply Drawn0.step)⟩
 ·rw [if_neg c3] at H
  have c3b0 : ((l0.length : Int) == (l1.length : Int)) = false := beq_eq_false_iff_ne.mpr c3
  have c3b1 : ((l0.length : Int) != (l1.length : Int)) = true := bne_iff_ne.mpr c3
  have c3b2 : (l0.length == l1.length) = false := by first | simpa using c3 | (simp at c3 ⊢; omega)
  obtain rfl := Option.some.inj H
  go_enter Try.func22, Try.ntmps22
  go_wp2
  repeat (go_quiet (fail); try go_wp2)
  go_ret
  exact ⟨by first | rfl | (simp; done) | (simp [*]; done), by repeat (first | exact Drawn0.refl _ | apply Drawn0.step)⟩

end Go.Proofs.Ytllmfahkiabkcaa.PCondTells
