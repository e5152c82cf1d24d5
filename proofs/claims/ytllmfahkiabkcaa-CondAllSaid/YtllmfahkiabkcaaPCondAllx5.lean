/- Lean functions that say what functions of the given program compute, and proofs by walking the code that each call does just that; no condition but those that each statement names. -/
import Derived.Test.YtllmfahkiabkcaaPCondAllx0
import Derived.Test.YtllmfahkiabkcaaPCondAllx1
import Derived.Test.YtllmfahkiabkcaaPCondAllx2
import Derived.Test.YtllmfahkiabkcaaPCondAllx3
import Derived.Test.YtllmfahkiabkcaaPCondAllx4
namespace Go.Proofs.Ytllmfahkiabkcaa.PCondAll
open Go.RowKit Go.Proofs.YtllmfahkiabkcaaW.PrintWords Go.Proofs.YtllmfahkiabkcaaW.PrintLast Go.Proofs.YtllmfahkiabkcaaW.PrintMore
attribute [local go_sem] max2_int min2_int max_two min_two max_three min_three max_four min_four   -- for this text's walks alone
set_option linter.unusedVariables false
set_option linter.unusedSimpArgs false

/-! ### handshakerlaw20_CondAll: function 5 -/
mutual
def handshakerlaw20_CondAll.j0 : Nat → Bool → List Int → List Int → Option (Bool)
 | 0, _, _, _ => none
 | k + 1, x22, x265000, x265001 => if x22 = true then ((handshakerlaw20_awake.f k).bind fun t267 => (some t267)) else ((some (([] : List Int) : List Int)).bind fun y268 => (if y268.length + x265000.length < 17592186044416 then ((some (y268 ++ x265000 : List Int)).bind fun y271 => ((cond_Signal.f k x265000 x265001 4611686018427387904).bind fun bt274 => (handshakerlaw20_CondAll.l0 k y271 bt274.2.2 y271 (y271.length : Int) 0 x265000 x265001 bt274.1 bt274.2.1 x265000 x265001))) else (none)))
def handshakerlaw20_CondAll.l0 : Nat → List Int → List Int → List Int → Int → Int → List Int → List Int → List Int → List Int → List Int → List Int → Option (Bool)
 | 0, _, _, _, _, _, _, _, _, _, _, _ => none
 | k + 1, x3, x5, x34, x35, x36, x265000, x265001, x284000, x284001, x285000, x285001 => if x36 < x35 then (if 0 ≤ x36 then (if x36 < (x34.length : Int) then ((cond_Signal.f k x285000 x285001 1).bind fun bt286 => ((handshakerref03_Numbers.f k bt286.2.2 (([rd x34 x36] : List Int))).bind fun t299 => (if t299 = true then (handshakerlaw20_CondAll.l0 k x3 x5 x34 x35 (wrap64 (x36 + 1)) x265000 x265001 x284000 x284001 bt286.1 bt286.2.1) else (none)))) else (none)) else (none)) else ((cond_Signal.f k x285000 x285001 1).bind fun bt300 => ((cond_Signal.f k x265000 x265001 0).bind fun bt310 => ((handshakerref03_Numbers.f k x5 x3).bind fun t320 => (if t320 = true then ((handshakerlaw20_ref.f x284000 x284001).bind fun bt321 => ((handshakerlaw20_ref.f x285000 x285001).bind fun bt327 => ((handshakerref20_Same.f k bt321.1 bt321.2 bt327.1 bt327.2).bind fun t333 => (if t333 = true then (if (wrap64 ((bt300.2.2.length : Int) + (bt310.2.2.length : Int))) = 0 then ((handshakerlaw20_ref.f bt310.1 bt310.2.1).bind fun bt334 => ((handshakerlaw20_ref.f x265000 x265001).bind fun bt340 => ((handshakerref20_Same.f k bt334.1 bt334.2 bt340.1 bt340.2).bind fun t346 => (if t346 = true then ((handshakerlaw20_awake.f k).bind fun t347 => (some t347)) else (none))))) else (none)) else (none))))) else (none)))))
end
def handshakerlaw20_CondAll.f (k : Nat) (l0_0 : List Int) (l0_1 : List Int) : Option (Bool) := (handshakerlaw20_small.f l0_0 l0_1).bind fun t265 => (if t265 = true then ((cond_Right.f k l0_0 l0_1).bind fun t266 => (handshakerlaw20_CondAll.j0 k (!t266) l0_0 l0_1)) else (handshakerlaw20_CondAll.j0 k true l0_0 l0_1))
theorem handshakerlaw20_CondAll.mono_l : ∀ k, (∀ y0 y1 y2, LeO (handshakerlaw20_CondAll.j0 k y0 y1 y2) (handshakerlaw20_CondAll.j0 (k + 1) y0 y1 y2)) ∧ (∀ y0 y1 y2 y3 y4 y5 y6 y7 y8 y9 y10, LeO (handshakerlaw20_CondAll.l0 k y0 y1 y2 y3 y4 y5 y6 y7 y8 y9 y10) (handshakerlaw20_CondAll.l0 (k + 1) y0 y1 y2 y3 y4 y5 y6 y7 y8 y9 y10))
 | 0 => ⟨fun _ _ _ r h => by simp [handshakerlaw20_CondAll.j0] at h, fun _ _ _ _ _ _ _ _ _ _ _ r h => by simp [handshakerlaw20_CondAll.l0] at h⟩
 | k + 1 => by
  obtain ⟨ih0, ih1⟩ := handshakerlaw20_CondAll.mono_l k
  refine ⟨?_, ?_⟩
  ·intro y0 y1 y2
   unfold handshakerlaw20_CondAll.j0
   repeat' first
   | (with_reducible exact ih0 _ _ _)
   | (with_reducible exact ih1 _ _ _ _ _ _ _ _ _ _ _)
   | (with_reducible exact cond_Right.mono _ _ _)
   | (with_reducible exact cond_Signal.mono _ _ _ _)
   | (with_reducible exact handshakerlaw20_awake.mono _)
   | (with_reducible exact handshakerref03_Numbers.mono _ _ _)
   | (with_reducible exact handshakerref20_Same.mono _ _ _ _ _)
   | (with_reducible exact LeO.refl _)
   | (with_reducible exact LeO.none _)
   | (with_reducible refine LeO.ite ?_ ?_)
   | (with_reducible refine LeO.bind ?_ (fun _ => ?_))
   | exact ih0 _ _ _
   | exact ih1 _ _ _ _ _ _ _ _ _ _ _
   | exact cond_Right.mono _ _ _
   | exact cond_Signal.mono _ _ _ _
   | exact handshakerlaw20_awake.mono _
   | exact handshakerref03_Numbers.mono _ _ _
   | exact handshakerref20_Same.mono _ _ _ _ _
   | exact LeO.none _
   | refine LeO.ite ?_ ?_
   | refine LeO.bind ?_ (fun _ => ?_)
  ·intro y0 y1 y2 y3 y4 y5 y6 y7 y8 y9 y10
   unfold handshakerlaw20_CondAll.l0
   repeat' first
   | (with_reducible exact ih0 _ _ _)
   | (with_reducible exact ih1 _ _ _ _ _ _ _ _ _ _ _)
   | (with_reducible exact cond_Right.mono _ _ _)
   | (with_reducible exact cond_Signal.mono _ _ _ _)
   | (with_reducible exact handshakerlaw20_awake.mono _)
   | (with_reducible exact handshakerref03_Numbers.mono _ _ _)
   | (with_reducible exact handshakerref20_Same.mono _ _ _ _ _)
   | (with_reducible exact LeO.refl _)
   | (with_reducible exact LeO.none _)
   | (with_reducible refine LeO.ite ?_ ?_)
   | (with_reducible refine LeO.bind ?_ (fun _ => ?_))
   | exact ih0 _ _ _
   | exact ih1 _ _ _ _ _ _ _ _ _ _ _
   | exact cond_Right.mono _ _ _
   | exact cond_Signal.mono _ _ _ _
   | exact handshakerlaw20_awake.mono _
   | exact handshakerref03_Numbers.mono _ _ _
   | exact handshakerref20_Same.mono _ _ _ _ _
   | exact LeO.none _
   | refine LeO.ite ?_ ?_
   | refine LeO.bind ?_ (fun _ => ?_)
theorem handshakerlaw20_CondAll.mono : ∀ a0 a1 k, LeO (handshakerlaw20_CondAll.f k a0 a1) (handshakerlaw20_CondAll.f (k + 1) a0 a1) := by
 intro a0 a1 k
 obtain ⟨ih0, ih1⟩ := handshakerlaw20_CondAll.mono_l k
 unfold handshakerlaw20_CondAll.f
 repeat' first
   | (with_reducible exact ih0 _ _ _)
   | (with_reducible exact ih1 _ _ _ _ _ _ _ _ _ _ _)
   | (with_reducible exact cond_Right.mono _ _ _)
   | (with_reducible exact cond_Signal.mono _ _ _ _)
   | (with_reducible exact handshakerlaw20_awake.mono _)
   | (with_reducible exact handshakerref03_Numbers.mono _ _ _)
   | (with_reducible exact handshakerref20_Same.mono _ _ _ _ _)
   | (with_reducible exact LeO.refl _)
   | (with_reducible exact LeO.none _)
   | (with_reducible refine LeO.ite ?_ ?_)
   | (with_reducible refine LeO.bind ?_ (fun _ => ?_))
   | exact ih0 _ _ _
   | exact ih1 _ _ _ _ _ _ _ _ _ _ _
   | exact cond_Right.mono _ _ _
   | exact cond_Signal.mono _ _ _ _
   | exact handshakerlaw20_awake.mono _
   | exact handshakerref03_Numbers.mono _ _ _
   | exact handshakerref20_Same.mono _ _ _ _ _
   | exact LeO.none _
   | refine LeO.ite ?_ ?_
   | refine LeO.bind ?_ (fun _ => ?_)
def handshakerlaw20_CondAll.T16 : Bool × List (List Nat × List Nat) := (true, [([], []), ([], []), ([0, 1], [0, 1]), ([2, 2], [2]), ([3], [3]), ([4, 3, 3], [3, 4]), ([3], [3]), ([6, 5, 3], [3, 6]), ([5, 7, 7, 3], [3, 5, 7]), ([3, 8], [3, 8]), ([9, 8], [9]), ([10], [10]), ([11, 10], [10, 11]), ([10], [10]), ([13, 10], [10, 13]), ([12, 14, 10], [10, 12, 14]), ([15, 10], [10, 15]), ([10, 16], [10, 16]), ([17, 10], [17]), ([18], [18]), ([19, 18, 18], [18, 19]), ([18], [18]), ([21, 20, 18], [18, 21]), ([20, 22, 22, 18], [18, 20, 22]), ([18, 23], [18, 23]), ([24, 23], [24]), ([25, 25], [25]), ([25, 26], [25, 26]), ([27, 26, 0, 1, 2, 3, 4, 5, 6, 7, 8, 9, 10, 11, 12, 13, 14, 15, 16, 17, 18, 19, 20, 21, 22, 23, 24, 25, 26, 27], [27])])
def handshakerlaw20_CondAll.B16 : List Nat := [0, 0, 3, 7, 15, 31, 15, 127, 255, 511, 1023, 2047, 4095, 2047, 10239, 32767, 65535, 131071, 262143, 524287, 1048575, 524287, 4194303, 8388607, 16777215, 33554431, 67108863, 134217727, 268435455]
theorem handshakerlaw20_CondAll.tab16 : rtab .any (opsOf Try.f5 16) = handshakerlaw20_CondAll.T16 := by kernel_rfl
theorem handshakerlaw20_CondAll.bits16 : waitsOk handshakerlaw20_CondAll.T16.2 handshakerlaw20_CondAll.B16 = true := by kernel_rfl
set_option maxHeartbeats 8000000 in
set_option maxRecDepth 100000 in
theorem handshakerlaw20_CondAll.calls (k : Nat) (P0_0_ : Nat → Prop) (A0_0 : Option Addr) (c0_0 : Nat) (l0_0 : List Int) (P0_1_ : Nat → Prop) (A0_1 : Option Addr) (c0_1 : Nat) (l0_1 : List Int) (r : Bool) (w : World) (hs0_0 : Kd.V (Kd.int .i64) 3 w w.heap.size (fun k_ => P0_0_ k_) (.slice A0_0 l0_0.length c0_0) l0_0) (hs0_1 : Kd.V (Kd.int .i64) 3 w w.heap.size (fun k_ => P0_1_ k_) (.slice A0_1 l0_1.length c0_1) l0_1) (h : handshakerlaw20_CondAll.f k l0_0 l0_1 = some r) :
  Calls Try.prog 5 #[.agg #[.slice A0_0 l0_0.length c0_0, .slice A0_1 l0_1.length c0_1]] w fun e w' => e = .returned (.bool r) ∧ Below w.heap.size w w' := by
 have hu24 := Try.underlying24
 have HO0_0 := Aside0.mk (show Kd.V (Kd.int .i64) 3 w w.heap.size (fun k_ => ((P0_0_ k_ ∨ P0_1_ k_) ∨ w.heap.size ≤ k_)) (.slice A0_0 l0_0.length c0_0) l0_0 from Kd.V_mono hs0_0 (fun k_ hk => .inl (.inl hk)))
 have HO0_1 := Aside0.mk (show Kd.V (Kd.int .i64) 3 w w.heap.size (fun k_ => ((P0_0_ k_ ∨ P0_1_ k_) ∨ w.heap.size ≤ k_)) (.slice A0_1 l0_1.length c0_1) l0_1 from Kd.V_mono hs0_1 (fun k_ hk => .inl (.inr hk)))
 have HB := Aside0.mk (Below.refl w.heap.size w)
 have H : ((handshakerlaw20_small.f l0_0 l0_1).bind fun t265 => (if t265 = true then ((cond_Right.f k l0_0 l0_1).bind fun t266 => (handshakerlaw20_CondAll.j0 k (!t266) l0_0 l0_1)) else (handshakerlaw20_CondAll.j0 k true l0_0 l0_1))) = some r := h
 clear h
 have HC2 := Aside0.mk H
 clear H
 go_enter Try.func5, Try.ntmps5
 go_upto_region 1 with (first | ((with_reducible refine gate_dst (N := 1) rfl ?_); (try (refine gate_guard (by rfl) ?_; dsimp only)); refine box_event ?hg (N := 1) ?hd (cs := #[.slice A0_0 l0_0.length c0_0, .slice A0_1 l0_1.length c0_1]) (t := 24) ?hr ?_; (case hd => rfl); (case hg => rfl); (case hr => first | (go_simp; done) | (go_simp; rfl)); intro gb264 hg w3 hbox hb; have n0_ := Aside0.mk (Kd.V_below (Kd.V_elderB (zV HO0_0) gb264 (Nat.le_of_eq hg.symm)) hb); have n1_ := Aside0.mk (Kd.V_below (Kd.V_elderB (zV HO0_1) gb264 (Nat.le_of_eq hg.symm)) hb); have n2_ := Aside0.mk (below_step (zc0 HB) hb); have n3_ := Aside0.mk (hbox); have n4_ := Aside0.mk ((by rw [hg]; exact (below_size (zc0 HB)) : w.heap.size ≤ gb264)); have n5_ := Aside0.mk ((by rw [hg]; exact (below_size (zc0 HB)) : w.heap.size ≤ gb264)); clear HO0_0; clear HO0_1; clear HB; have HO0_0 := n0_; have HO0_1 := n1_; have HB := n2_; have BK264 := n3_; have GW264 := n4_; have GE264 := n5_; clear n0_ n1_ n2_ n3_ n4_ n5_; clear hb hbox hg))
 (try simp only [Act.put, List.setIfInBounds_toArray, List.set_cons_zero, List.set_cons_succ])
 go_cut [22] (fun v22 wc => ∃ (kq : Nat) (x22_1 : Bool), v22 = .bool x22_1 ∧ Aside0 (handshakerlaw20_CondAll.j0 kq x22_1 l0_0 l0_1 = some r) ∧ Aside0 (kq ≤ k) ∧ Aside0 (Kd.V (Kd.int .i64) 3 wc w.heap.size (fun k_ => ((P0_0_ k_ ∨ P0_1_ k_) ∨ w.heap.size ≤ k_) ∧ k_ ≠ gb264) (.slice A0_0 l0_0.length c0_0) l0_0) ∧ Aside0 (Kd.V (Kd.int .i64) 3 wc w.heap.size (fun k_ => ((P0_0_ k_ ∨ P0_1_ k_) ∨ w.heap.size ≤ k_) ∧ k_ ≠ gb264) (.slice A0_1 l0_1.length c0_1) l0_1) ∧ Aside0 (wc.heap[gb264]? = some (.cells #[(.slice A0_0 l0_0.length c0_0), (.slice A0_1 l0_1.length c0_1)] 24 (0, 0))) ∧ Aside0 (Below w.heap.size w wc))
 case first =>
  have H := HC2.out
  clear HC2
  replace H := Option.bind_eq_some_iff.mp H
  obtain ⟨t265, A40, H⟩ := H
  replace H : (if t265 = true then ((cond_Right.f k l0_0 l0_1).bind fun t266 => (handshakerlaw20_CondAll.j0 k (!t266) l0_0 l0_1)) else (handshakerlaw20_CondAll.j0 k true l0_0 l0_1)) = some r := H
  have A4 := Aside0.mk A40
  clear A40
  by_cases c5 : t265 = true
  ·subst c5
   have H1 : ((cond_Right.f k l0_0 l0_1).bind fun t266 => (handshakerlaw20_CondAll.j0 k (!t266) l0_0 l0_1)) = some r := by rw [if_pos rfl] at H; exact H
   clear H
   have H := H1
   clear H1
   replace H := Option.bind_eq_some_iff.mp H
   obtain ⟨t266, A60, H⟩ := H
   replace H : (handshakerlaw20_CondAll.j0 k (!t266) l0_0 l0_1) = some r := H
   have A6 := Aside0.mk A60
   clear A60
   have H' := Aside0.mk H
   clear H
   have hcz7_0 : w3.cell? ⟨gb264, 0, none⟩ = some (.slice A0_0 l0_0.length c0_0) := (blk_cell BK264.out 0).trans rfl
   have hcz7_1 : w3.cell? ⟨gb264, 1, none⟩ = some (.slice A0_1 l0_1.length c0_1) := (blk_cell BK264.out 1).trans rfl
   have hfz7_0 := blk_frozen BK264.out 0
   have hfz7_1 := blk_frozen BK264.out 1
   go_wp2_with (first | ((with_reducible refine gate_callee (f := 8) rfl ?_); refine goesL_ (some 16) rfl rfl Try.func8 (by kernel_rfl) rfl #[.agg #[.slice A0_0 l0_0.length c0_0, .slice A0_1 l0_1.length c0_1]] rfl zm ?_; (with_reducible refine (handshakerlaw20_small.calls _ _ l0_0 _ _ l0_1 true _ ?side1 ?side2 ?side3 ?side4 A4.out).mono ?_); (case side1 => repeat (first | exact (Kd.V_reads' HO0_0.out).2.2 | (with_reducible refine Kd.C_alloc ?_ _) | (with_reducible refine Kd.C_drewN ?_ _) | (with_reducible refine Kd.C_drew ?_))); (case side2 => exact (Kd.V_reads' HO0_0.out).2.1); (case side3 => repeat (first | exact (Kd.V_reads' HO0_1.out).2.2 | (with_reducible refine Kd.C_alloc ?_ _) | (with_reducible refine Kd.C_drewN ?_ _) | (with_reducible refine Kd.C_drew ?_))); (case side4 => exact (Kd.V_reads' HO0_1.out).2.1); rintro e w8 ⟨rfl, hb⟩; refine ⟨_, rfl, ?_⟩; have n0_ := Aside0.mk (Kd.V_below (zV HO0_0) hb); have n1_ := Aside0.mk (Kd.V_below (zV HO0_1) hb); have n2_ := Aside0.mk (blk_below (g := gb264) (o := .cells #[.slice A0_0 l0_0.length c0_0, .slice A0_1 l0_1.length c0_1] 24 (0, 0)) (zb BK264) hb); have n3_ := Aside0.mk (below_step (zc1 HB GE264) hb); clear HO0_0; clear HO0_1; clear BK264; clear HB; have HO0_0 := n0_; have HO0_1 := n1_; have BK264 := n2_; have HB := n3_; clear n0_ n1_ n2_ n3_; (try clear hb); (try clear hb2); (try clear hk); (try clear hi); have hcz9_0 : w8.cell? ⟨gb264, 0, none⟩ = some (.slice A0_0 l0_0.length c0_0) := (blk_cell BK264.out 0).trans rfl; have hcz9_1 : w8.cell? ⟨gb264, 1, none⟩ = some (.slice A0_1 l0_1.length c0_1) := (blk_cell BK264.out 1).trans rfl; have hfz9_0 := blk_frozen BK264.out 0; have hfz9_1 := blk_frozen BK264.out 1) | (go_at_call 19; (with_reducible refine (cond_Right.calls k (fun k_ => (((P0_0_ k_ ∨ P0_1_ k_) ∨ w.heap.size ≤ k_) ∧ k_ ≠ gb264)) _ _ l0_0 (fun k_ => (((P0_0_ k_ ∨ P0_1_ k_) ∨ w.heap.size ≤ k_) ∧ k_ ≠ gb264)) _ _ l0_1 t266 _ ?side1 ?side2 A6.out).mono ?_); (case side1 => exact HO0_0.out); (case side2 => exact HO0_1.out); rintro e w10 ⟨rfl, hb⟩; have n0_ := Aside0.mk (Kd.V_below (zV HO0_0) hb); have n1_ := Aside0.mk (Kd.V_below (zV HO0_1) hb); have n2_ := Aside0.mk (blk_below (g := gb264) (o := .cells #[.slice A0_0 l0_0.length c0_0, .slice A0_1 l0_1.length c0_1] 24 (0, 0)) (zb BK264) hb); have n3_ := Aside0.mk (below_step (zc1 HB GE264) hb); clear HO0_0; clear HO0_1; clear BK264; clear HB; have HO0_0 := n0_; have HO0_1 := n1_; have BK264 := n2_; have HB := n3_; clear n0_ n1_ n2_ n3_; (try clear hb); (try clear hb2); (try clear hk); (try clear hi)))
   go_meet
   case rel => exact ⟨_, (!t266), (by first | rfl | (simp; done) | (simp [*]; done)), H', ⟨by first | omega | exact Nat.le_refl _⟩, ⟨by (with_reducible repeat (first | apply Kd.V_alloc | apply Kd.V_drewN | apply Kd.V_drew)); exact HO0_0.out⟩, ⟨by (with_reducible repeat (first | apply Kd.V_alloc | apply Kd.V_drewN | apply Kd.V_drew)); exact HO0_1.out⟩, ⟨by (with_reducible repeat (first | refine blk_drewN ?_ _ | refine blk_drew ?_ | refine blk_alloc ?_ _)); exact BK264.out⟩, ⟨by repeat (first | (with_reducible first | exact HB.out | apply below_alloc | apply pw_below_drewN | apply below_drew1 | refine below_set ?_ GE264.out) | exact HB.out)⟩⟩
  ·replace c5 := Bool.eq_false_iff.mpr c5
   subst c5
   have H1 : (handshakerlaw20_CondAll.j0 k true l0_0 l0_1) = some r := by rw [if_neg (show ¬ (false = true) by decide)] at H; exact H
   clear H
   have H := H1
   clear H1
   have H' := Aside0.mk H
   clear H
   have hcz11_0 : w3.cell? ⟨gb264, 0, none⟩ = some (.slice A0_0 l0_0.length c0_0) := (blk_cell BK264.out 0).trans rfl
   have hcz11_1 : w3.cell? ⟨gb264, 1, none⟩ = some (.slice A0_1 l0_1.length c0_1) := (blk_cell BK264.out 1).trans rfl
   have hfz11_0 := blk_frozen BK264.out 0
   have hfz11_1 := blk_frozen BK264.out 1
   go_wp2_with (first | ((with_reducible refine gate_callee (f := 8) rfl ?_); refine goesL_ (some 16) rfl rfl Try.func8 (by kernel_rfl) rfl #[.agg #[.slice A0_0 l0_0.length c0_0, .slice A0_1 l0_1.length c0_1]] rfl zm ?_; (with_reducible refine (handshakerlaw20_small.calls _ _ l0_0 _ _ l0_1 false _ ?side1 ?side2 ?side3 ?side4 A4.out).mono ?_); (case side1 => repeat (first | exact (Kd.V_reads' HO0_0.out).2.2 | (with_reducible refine Kd.C_alloc ?_ _) | (with_reducible refine Kd.C_drewN ?_ _) | (with_reducible refine Kd.C_drew ?_))); (case side2 => exact (Kd.V_reads' HO0_0.out).2.1); (case side3 => repeat (first | exact (Kd.V_reads' HO0_1.out).2.2 | (with_reducible refine Kd.C_alloc ?_ _) | (with_reducible refine Kd.C_drewN ?_ _) | (with_reducible refine Kd.C_drew ?_))); (case side4 => exact (Kd.V_reads' HO0_1.out).2.1); rintro e w12 ⟨rfl, hb⟩; refine ⟨_, rfl, ?_⟩; have n0_ := Aside0.mk (Kd.V_below (zV HO0_0) hb); have n1_ := Aside0.mk (Kd.V_below (zV HO0_1) hb); have n2_ := Aside0.mk (blk_below (g := gb264) (o := .cells #[.slice A0_0 l0_0.length c0_0, .slice A0_1 l0_1.length c0_1] 24 (0, 0)) (zb BK264) hb); have n3_ := Aside0.mk (below_step (zc1 HB GE264) hb); clear HO0_0; clear HO0_1; clear BK264; clear HB; have HO0_0 := n0_; have HO0_1 := n1_; have BK264 := n2_; have HB := n3_; clear n0_ n1_ n2_ n3_; (try clear hb); (try clear hb2); (try clear hk); (try clear hi)))
   go_meet
   case rel => exact ⟨_, (true), (by first | rfl | (simp; done) | (simp [*]; done)), H', ⟨by first | omega | exact Nat.le_refl _⟩, ⟨by (with_reducible repeat (first | apply Kd.V_alloc | apply Kd.V_drewN | apply Kd.V_drew)); exact HO0_0.out⟩, ⟨by (with_reducible repeat (first | apply Kd.V_alloc | apply Kd.V_drewN | apply Kd.V_drew)); exact HO0_1.out⟩, ⟨by (with_reducible repeat (first | refine blk_drewN ?_ _ | refine blk_drew ?_ | refine blk_alloc ?_ _)); exact BK264.out⟩, ⟨by repeat (first | (with_reducible first | exact HB.out | apply below_alloc | apply pw_below_drewN | apply below_drew1 | refine below_set ?_ GE264.out) | exact HB.out)⟩⟩
 case rest =>
  clear HC2
  try clear p2
  try clear c5
  try clear c8
  try clear hcz11_0
  try clear hcz11_1
  try clear hcz7_0
  try clear hcz7_1
  try clear hcz9_0
  try clear hcz9_1
  try clear hfz11_0
  try clear hfz11_1
  try clear hfz7_0
  try clear hfz7_1
  try clear hfz9_0
  try clear hfz9_1
  obtain ⟨kq, x22_1, rfl, HA, HJ1, HO_265000, HO_265001, BK264, HB⟩ := hcut
  cases kq with
  | zero => exact absurd HA.out (by simp [handshakerlaw20_CondAll.j0])
  | succ kj1 =>
   have H := HA.out
   clear HA
   simp only [handshakerlaw20_CondAll.j0] at H
   by_cases c13 : x22_1 = true
   ·subst c13
    have H1 : ((handshakerlaw20_awake.f kj1).bind fun t267 => (some t267)) = some r := by rw [if_pos rfl] at H; exact H
    clear H
    have H := H1
    clear H1
    replace H := Option.bind_eq_some_iff.mp H
    obtain ⟨t267, A140, H⟩ := H
    replace H : (some t267) = some r := H
    have A14 := Aside0.mk A140
    clear A140
    obtain rfl := Option.some.inj H
    go_wp2_with (first | ((with_reducible refine gate_callee (f := 9) rfl ?_); refine goesL_ (some 23) rfl rfl Try.func9 (by kernel_rfl) rfl #[] rfl zm ?_; (with_reducible refine (handshakerlaw20_awake.calls kj1  t267 _ A14.out).mono ?_); rintro e w15 ⟨rfl, hb⟩; refine ⟨_, rfl, ?_⟩; have n0_ := Aside0.mk (Kd.V_below (zV HO_265000) hb); have n1_ := Aside0.mk (Kd.V_below (zV HO_265001) hb); have n2_ := Aside0.mk (blk_below (g := gb264) (o := .cells #[.slice A0_0 l0_0.length c0_0, .slice A0_1 l0_1.length c0_1] 24 (0, 0)) (zb BK264) hb); have n3_ := Aside0.mk (below_step (zc1 HB GE264) hb); clear HO_265000; clear HO_265001; clear BK264; clear HB; have HO_265000 := n0_; have HO_265001 := n1_; have BK264 := n2_; have HB := n3_; clear n0_ n1_ n2_ n3_; (try clear hb); (try clear hb2); (try clear hk); (try clear hi)))
    go_ret
    exact ⟨by first | rfl | (simp [errW_none, errW_some] <;> rfl) | (simp [*, errW_none, errW_some] <;> rfl), by repeat (first | (with_reducible first | exact HB.out | apply below_alloc | apply pw_below_drewN | apply below_drew1 | refine below_set ?_ GE264.out) | exact HB.out)⟩
   ·replace c13 := Bool.eq_false_iff.mpr c13
    subst c13
    have H1 : ((some (([] : List Int) : List Int)).bind fun y268 => (if y268.length + l0_0.length < 17592186044416 then ((some (y268 ++ l0_0 : List Int)).bind fun y271 => ((cond_Signal.f kj1 l0_0 l0_1 4611686018427387904).bind fun bt274 => (handshakerlaw20_CondAll.l0 kj1 y271 bt274.2.2 y271 (y271.length : Int) 0 l0_0 l0_1 bt274.1 bt274.2.1 l0_0 l0_1))) else (none))) = some r := by rw [if_neg (show ¬ (false = true) by decide)] at H; exact H
    clear H
    have H := H1
    clear H1
    obtain ⟨y268, hy268⟩ : ∃ y_ : List Int, y_ = (([] : List Int)) := ⟨_, rfl⟩
    replace H : (if y268.length + l0_0.length < 17592186044416 then ((some (y268 ++ l0_0 : List Int)).bind fun y271 => ((cond_Signal.f kj1 l0_0 l0_1 4611686018427387904).bind fun bt274 => (handshakerlaw20_CondAll.l0 kj1 y271 bt274.2.2 y271 (y271.length : Int) 0 l0_0 l0_1 bt274.1 bt274.2.1 l0_0 l0_1))) else (none)) = some r := by first | (rw [hy268]; with_reducible exact H) | (have H2_ := (Option.bind_some _ _).symm.trans H; rw [hy268]; with_reducible exact H2_) | (have H2_ := (Option.bind_some _ _).symm.trans H; with_reducible exact H2_) | with_reducible exact H | (rw [hy268]; exact H) | exact H
    have Ny268 := Aside0.mk hy268
    clear hy268
    by_cases c16 : y268.length + l0_0.length < 17592186044416
    ·rw [if_pos c16] at H
     have LMc16 := Aside0.mk c16
     clear c16
     obtain ⟨y271, hy271⟩ : ∃ y_ : List Int, y_ = (y268 ++ l0_0) := ⟨_, rfl⟩
     replace H : ((cond_Signal.f kj1 l0_0 l0_1 4611686018427387904).bind fun bt274 => (handshakerlaw20_CondAll.l0 kj1 y271 bt274.2.2 y271 (y271.length : Int) 0 l0_0 l0_1 bt274.1 bt274.2.1 l0_0 l0_1)) = some r := by first | (rw [hy271]; with_reducible exact H) | (have H2_ := (Option.bind_some _ _).symm.trans H; rw [hy271]; with_reducible exact H2_) | (have H2_ := (Option.bind_some _ _).symm.trans H; with_reducible exact H2_) | with_reducible exact H | (rw [hy271]; exact H) | exact H
     have Ny271 := Aside0.mk hy271
     clear hy271
     replace H := Option.bind_eq_some_iff.mp H
     obtain ⟨⟨t274, t277, t280⟩, A170, H⟩ := H
     replace H : (handshakerlaw20_CondAll.l0 kj1 y271 t280 y271 (y271.length : Int) 0 l0_0 l0_1 t274 t277 l0_0 l0_1) = some r := H
     have A17 := Aside0.mk A170
     clear A170
     have H' := Aside0.mk H
     clear H
     go_wp2_with (first | ((with_reducible refine gate_dst (N := 24) rfl ?_); (try (refine gate_guard (by rfl) ?_; dsimp only)); refine Kd.R_lit (Kd.int .i64) _ 3 ?hg (N := 24) ?hd (xs := ([] : List Int)) (inner := []) (ok := fun _ => True) (okp := fun _ => True) ?hr ?hp (fun _ hk => hk) trivial (Below.refl _ _) (Nat.le_refl _) (by simp) ?_; (case hd => rfl); (case hg => rfl); (case hr => first | (go_simp; done) | (go_simp; rfl)); (case hp => exact (Reps.none _ _)); intro v269 w18 ho19 hb hg_ hnew_; clear hg_ hnew_; (first | rw [← Ny268.out] at ho19 | (simp only [Int.reduceToNat] at ho19; rw [← Ny268.out] at ho19)); have n0_ := Aside0.mk (Kd.V_elder' (zV HO_265000) (Kd.R_base ho19) hb); have n1_ := Aside0.mk (Kd.V_elder' (zV HO_265001) (Kd.R_base ho19) hb); have n2_ := Aside0.mk (Kd.R_lower (Kd.R_newM (M := fun k_ => (w.heap.size ≤ k_)) ho19 (below_size (zc1 HB GE264)) (fun k_ h_ => h_)) (below_size (zc1 HB GE264))); have n3_ := Aside0.mk (blk_below (g := gb264) (o := .cells #[.slice A0_0 l0_0.length c0_0, .slice A0_1 l0_1.length c0_1] 24 (0, 0)) (zb BK264) hb); have n4_ := Aside0.mk (below_step (zc1 HB GE264) hb); clear HO_265000; clear HO_265001; clear BK264; clear HB; have HO_265000 := n0_; have HO_265001 := n1_; have HO270 := n2_; have BK264 := n3_; have HB := n4_; clear n0_ n1_ n2_ n3_ n4_; clear hb ho19; have hcz20_0 : w18.cell? ⟨gb264, 0, none⟩ = some (.slice A0_0 l0_0.length c0_0) := (blk_cell BK264.out 0).trans rfl; have hcz20_1 : w18.cell? ⟨gb264, 1, none⟩ = some (.slice A0_1 l0_1.length c0_1) := (blk_cell BK264.out 1).trans rfl; have hfz20_0 := blk_frozen BK264.out 0; have hfz20_1 := blk_frozen BK264.out 1) | ((with_reducible refine gate_builtin (b := .append) (xs := #[.tmp 24, .tmp 26]) rfl ?_); (try (refine gate_guard (by rfl) ?_; dsimp only)); at_builtin; refine Kd.R_append_rows (Kd.int .i64) (w0 := w) w.heap.size rfl (.tmp 24) (.tmp 26) 22 3 (.int .i64 0) 8 rfl Try.underlying22 info3 rfl (by decide) (by omega) v269 y268 l0_0 _ _ _ (fun k_ => (w.heap.size ≤ k_)) (fun _ => False) rfl rfl ?aO ?aR (fun _ _ h => h) (fun _ h => h.elim) ?aF ?aB ?aS ?aL ?_; (case aR => repeat (first | exact (Kd.V_reads' HO_265000.out).2.2 | (with_reducible refine Kd.C_alloc ?_ _) | (with_reducible refine Kd.C_drewN ?_ _) | (with_reducible refine Kd.C_drew ?_))); (case aB => exact (zc1 HB GE264)); (case aF => exact (fun k_ hk => (Nat.le_trans (below_size (zc1 HB GE264)) hk))); (case aO => exact (by (with_reducible repeat (first | apply Kd.R_alloc | apply Kd.R_drewN | apply Kd.R_drew)); exact Kd.R_mono HO270.out (fun _ hk => hk.1))); (case aS => exact (below_size (zc1 HB GE264))); (case aL => have := LMc16.out; omega); intro v272 w21 ho hb hg hat; rw [← Ny271.out] at ho; have n0_ := Aside0.mk (Kd.V_afterv (ok := (fun k_ => ((P0_0_ k_ ∨ P0_1_ k_) ∨ w.heap.size ≤ k_) ∧ k_ ≠ gb264)) (zV HO_265000) hg hat); have n1_ := Aside0.mk (Kd.V_afterv (ok := (fun k_ => ((P0_0_ k_ ∨ P0_1_ k_) ∨ w.heap.size ≤ k_) ∧ k_ ≠ gb264)) (zV HO_265001) hg hat); have n2_ := Aside0.mk (blk_grown (g := gb264) (o := .cells #[.slice A0_0 l0_0.length c0_0, .slice A0_1 l0_1.length c0_1] 24 (0, 0)) (zb BK264) hg (Kd.R_ne HO270.out BK264.out (by decide))); have n3_ := Aside0.mk (hb); have n4_ := Aside0.mk (ho); clear HO_265000; clear HO_265001; clear BK264; clear HB; clear HO270; have HO_265000 := n0_; have HO_265001 := n1_; have BK264 := n2_; have HB := n3_; have HO273 := n4_; clear n0_ n1_ n2_ n3_ n4_; clear ho hb hg hat; have hcz22_0 : w21.cell? ⟨gb264, 0, none⟩ = some (.slice A0_0 l0_0.length c0_0) := (blk_cell BK264.out 0).trans rfl; have hcz22_1 : w21.cell? ⟨gb264, 1, none⟩ = some (.slice A0_1 l0_1.length c0_1) := (blk_cell BK264.out 1).trans rfl; have hfz22_0 := blk_frozen BK264.out 0; have hfz22_1 := blk_frozen BK264.out 1) | ((with_reducible refine gate_callee (f := 13) rfl ?_); refine goesL_ (some 30) rfl rfl Try.func13 (by kernel_rfl) rfl #[.agg #[.slice A0_0 l0_0.length c0_0, .slice A0_1 l0_1.length c0_1], .int .i64 4611686018427387904] rfl zm ?_; (with_reducible refine (cond_Signal.calls kj1 (fun k_ => ((((P0_0_ k_ ∨ P0_1_ k_) ∨ w.heap.size ≤ k_) ∧ k_ ≠ gb264) ∧ some k_ ≠ (v272 : Value).ownBlock)) _ _ l0_0 (fun k_ => ((((P0_0_ k_ ∨ P0_1_ k_) ∨ w.heap.size ≤ k_) ∧ k_ ≠ gb264) ∧ some k_ ≠ (v272 : Value).ownBlock)) _ _ l0_1 4611686018427387904 t274 t277 t280 _ ?side1 ?side2 A17.out).mono ?_); (case side1 => exact HO_265000.out); (case side2 => exact HO_265001.out); rintro e w23 ⟨v275, v278, v281, rfl, ho0, ho1, ho2, hb⟩; refine ⟨_, rfl, ?_⟩; have n0_ := Aside0.mk (Kd.V_below (zV HO_265000) hb); have n1_ := Aside0.mk (Kd.V_below (zV HO_265001) hb); have n2_ := Aside0.mk (Kd.R_below (zR HO273) hb); have n3_ := Aside0.mk (Kd.V_lower (Kd.V_mono (ok' := fun k_ => ((P0_0_ k_ ∨ P0_1_ k_) ∨ w.heap.size ≤ k_) ∧ some k_ ≠ (v272 : Value).ownBlock ∧ k_ ≠ gb264) ho0 (fun k_ hk_ => ⟨Or.elim hk_ (fun hs_ => Or.elim hs_ (fun hs_ => hs_.1.1) (fun hs_ => hs_.1.1)) (fun hn_ => (.inr (Nat.le_trans (below_size (zc1 HB GE264)) hn_))), Or.elim hk_ (fun hs_ => Or.elim hs_ (fun hs_ => hs_.2) (fun hs_ => hs_.2)) (fun hn_ => (Kd.fresh' (Kd.R_lt (zR HO273)) k_ hn_)), Or.elim hk_ (fun hs_ => Or.elim hs_ (fun hs_ => hs_.1.2) (fun hs_ => hs_.1.2)) (fun hn_ => (Kd.freshB (g := gb264) (o := .cells #[.slice A0_0 l0_0.length c0_0, .slice A0_1 l0_1.length c0_1] 24 (0, 0)) (zb BK264) k_ hn_))⟩)) (below_size (zc1 HB GE264))); have n4_ := Aside0.mk (Kd.V_lower (Kd.V_mono (ok' := fun k_ => ((P0_0_ k_ ∨ P0_1_ k_) ∨ w.heap.size ≤ k_) ∧ some k_ ≠ (v272 : Value).ownBlock ∧ k_ ≠ gb264) ho1 (fun k_ hk_ => ⟨Or.elim hk_ (fun hs_ => Or.elim hs_ (fun hs_ => hs_.1.1) (fun hs_ => hs_.1.1)) (fun hn_ => (.inr (Nat.le_trans (below_size (zc1 HB GE264)) hn_))), Or.elim hk_ (fun hs_ => Or.elim hs_ (fun hs_ => hs_.2) (fun hs_ => hs_.2)) (fun hn_ => (Kd.fresh' (Kd.R_lt (zR HO273)) k_ hn_)), Or.elim hk_ (fun hs_ => Or.elim hs_ (fun hs_ => hs_.1.2) (fun hs_ => hs_.1.2)) (fun hn_ => (Kd.freshB (g := gb264) (o := .cells #[.slice A0_0 l0_0.length c0_0, .slice A0_1 l0_1.length c0_1] 24 (0, 0)) (zb BK264) k_ hn_))⟩)) (below_size (zc1 HB GE264))); have n5_ := Aside0.mk (Kd.V_lower (Kd.V_mono (ok' := fun k_ => ((P0_0_ k_ ∨ P0_1_ k_) ∨ w.heap.size ≤ k_) ∧ some k_ ≠ (v272 : Value).ownBlock ∧ k_ ≠ gb264) ho2 (fun k_ hk_ => ⟨Or.elim hk_ (fun hs_ => Or.elim hs_ (fun hs_ => hs_.1.1) (fun hs_ => hs_.1.1)) (fun hn_ => (.inr (Nat.le_trans (below_size (zc1 HB GE264)) hn_))), Or.elim hk_ (fun hs_ => Or.elim hs_ (fun hs_ => hs_.2) (fun hs_ => hs_.2)) (fun hn_ => (Kd.fresh' (Kd.R_lt (zR HO273)) k_ hn_)), Or.elim hk_ (fun hs_ => Or.elim hs_ (fun hs_ => hs_.1.2) (fun hs_ => hs_.1.2)) (fun hn_ => (Kd.freshB (g := gb264) (o := .cells #[.slice A0_0 l0_0.length c0_0, .slice A0_1 l0_1.length c0_1] 24 (0, 0)) (zb BK264) k_ hn_))⟩)) (below_size (zc1 HB GE264))); have n6_ := Aside0.mk (blk_below (g := gb264) (o := .cells #[.slice A0_0 l0_0.length c0_0, .slice A0_1 l0_1.length c0_1] 24 (0, 0)) (zb BK264) hb); have n7_ := Aside0.mk (below_step (zc1 HB GE264) hb); clear HO_265000; clear HO_265001; clear HO273; clear BK264; clear HB; have HO_265000 := n0_; have HO_265001 := n1_; have HO273 := n2_; have HO276 := n3_; have HO279 := n4_; have HO282 := n5_; have BK264 := n6_; have HB := n7_; clear n0_ n1_ n2_ n3_ n4_ n5_ n6_ n7_; (try clear hb); (try clear hb2); (try clear hk); (try clear hi); (try clear ho0); (try clear ho1); (try clear ho2)) | ((with_reducible refine gate_dst (N := 4) rfl ?_); (try (refine gate_guard (by rfl) ?_; dsimp only)); refine box_event ?hg (N := 4) ?hd (cs := #[.slice none 0 0, .slice none 0 0]) (t := 24) ?hr ?_; (case hd => rfl); (case hg => rfl); (case hr => first | (go_simp; done) | (go_simp; rfl)); intro gb283 hg w24 hbox hb; have n0_ := Aside0.mk (Kd.V_below (Kd.V_elderB (zV HO_265000) gb283 (Nat.le_of_eq hg.symm)) hb); have n1_ := Aside0.mk (Kd.V_below (Kd.V_elderB (zV HO_265001) gb283 (Nat.le_of_eq hg.symm)) hb); have n2_ := Aside0.mk (Kd.R_below (zR HO273) hb); have n3_ := Aside0.mk (Kd.V_below (Kd.V_elderB (zV HO276) gb283 (Nat.le_of_eq hg.symm)) hb); have n4_ := Aside0.mk (Kd.V_below (Kd.V_elderB (zV HO279) gb283 (Nat.le_of_eq hg.symm)) hb); have n5_ := Aside0.mk (Kd.V_below (Kd.V_elderB (zV HO282) gb283 (Nat.le_of_eq hg.symm)) hb); have n6_ := Aside0.mk (blk_below (g := gb264) (o := .cells #[.slice A0_0 l0_0.length c0_0, .slice A0_1 l0_1.length c0_1] 24 (0, 0)) (zb BK264) hb); have n7_ := Aside0.mk (below_step (zc1 HB GE264) hb); have n8_ := Aside0.mk (hbox); have n9_ := Aside0.mk ((by rw [hg]; exact (below_size (zc1 HB GE264)) : w.heap.size ≤ gb283)); have n10_ := Aside0.mk ((by rw [hg]; exact (below_size (zc1 HB GE264)) : w.heap.size ≤ gb283)); have n11_ := Aside0.mk ((by rw [hg]; exact Nat.ne_of_lt (blk_lt (g := gb264) (o := .cells #[.slice A0_0 l0_0.length c0_0, .slice A0_1 l0_1.length c0_1] 24 (0, 0)) (zb BK264)) : gb264 ≠ gb283)); have n12_ := Aside0.mk ((by rw [hg]; exact Nat.ne_of_gt (blk_lt (g := gb264) (o := .cells #[.slice A0_0 l0_0.length c0_0, .slice A0_1 l0_1.length c0_1] 24 (0, 0)) (zb BK264)) : gb283 ≠ gb264)); clear HO_265000; clear HO_265001; clear HO273; clear HO276; clear HO279; clear HO282; clear BK264; clear HB; have HO_265000 := n0_; have HO_265001 := n1_; have HO273 := n2_; have HO276 := n3_; have HO279 := n4_; have HO282 := n5_; have BK264 := n6_; have HB := n7_; have BK283 := n8_; have GW283 := n9_; have GE283 := n10_; have NB264_283 := n11_; have NB283_264 := n12_; clear n0_ n1_ n2_ n3_ n4_ n5_ n6_ n7_ n8_ n9_ n10_ n11_ n12_; clear hb hbox hg; obtain ⟨Ao25, co25, eo25⟩ := Kd.V_slice HO276.out; subst eo25; have hnb26 := NB283_264.out; have hnc26 := NB264_283.out; have hcz27_0 : w24.cell? ⟨gb283, 0, none⟩ = some (.slice none 0 0) := (blk_cell BK283.out 0).trans rfl; have hcz27_1 : w24.cell? ⟨gb283, 1, none⟩ = some (.slice none 0 0) := (blk_cell BK283.out 1).trans rfl; have hfz27_0 := blk_frozen BK283.out 0; have hfz27_1 := blk_frozen BK283.out 1; obtain ⟨Ao28, co28, eo28⟩ := Kd.V_slice HO279.out; subst eo28; have hcz29_0 : w24.cell? ⟨gb264, 0, none⟩ = some (.slice A0_0 l0_0.length c0_0) := (blk_cell BK264.out 0).trans rfl; have hcz29_1 : w24.cell? ⟨gb264, 1, none⟩ = some (.slice A0_1 l0_1.length c0_1) := (blk_cell BK264.out 1).trans rfl; have hfz29_0 := blk_frozen BK264.out 0; have hfz29_1 := blk_frozen BK264.out 1) | ((with_reducible refine gate_dst (N := 6) rfl ?_); (try (refine gate_guard (by rfl) ?_; dsimp only)); refine box_event ?hg (N := 6) ?hd (cs := #[.slice none 0 0, .slice none 0 0]) (t := 24) ?hr ?_; (case hd => rfl); (case hg => rfl); (case hr => first | (go_simp; done) | (go_simp; rfl)); intro gb284 hg w30 hbox hb; have n0_ := Aside0.mk (Kd.V_below (Kd.V_elderB (by (with_reducible repeat (first | apply Kd.V_alloc | apply Kd.V_drewN | apply Kd.V_drew)); exact (Kd.V_mono (Kd.V_far (p := ⟨gb283, 1, none⟩) (Kd.V_far (p := ⟨gb283, 0, none⟩) (Kd.V_mono HO_265000.out (fun k_ hk => (⟨hk, hk.2⟩ : _ ∧ k_ ≠ gb283))) (fun _ hk => hk.2) (.slice Ao25 t274.length co25)) (fun _ hk => hk.2) (.slice Ao28 t277.length co28)) (fun _ h_ => h_.1))) gb284 (Nat.le_of_eq hg.symm)) hb); have n1_ := Aside0.mk (Kd.V_below (Kd.V_elderB (by (with_reducible repeat (first | apply Kd.V_alloc | apply Kd.V_drewN | apply Kd.V_drew)); exact (Kd.V_mono (Kd.V_far (p := ⟨gb283, 1, none⟩) (Kd.V_far (p := ⟨gb283, 0, none⟩) (Kd.V_mono HO_265001.out (fun k_ hk => (⟨hk, hk.2⟩ : _ ∧ k_ ≠ gb283))) (fun _ hk => hk.2) (.slice Ao25 t274.length co25)) (fun _ hk => hk.2) (.slice Ao28 t277.length co28)) (fun _ h_ => h_.1))) gb284 (Nat.le_of_eq hg.symm)) hb); have n2_ := Aside0.mk (Kd.R_below (by (with_reducible repeat (first | apply Kd.R_alloc | apply Kd.R_drewN | apply Kd.R_drew)); exact (Kd.R_mono (Kd.R_far (p := ⟨gb283, 1, none⟩) (Kd.R_far (p := ⟨gb283, 0, none⟩) (Kd.R_types HO273.out BK283.out (by decide)) (fun _ hk => hk.2) (.slice Ao25 t274.length co25)) (fun _ hk => hk.2) (.slice Ao28 t277.length co28)) (fun _ h_ => h_.1))) hb); have n3_ := Aside0.mk (Kd.V_below (Kd.V_elderB (by (with_reducible repeat (first | apply Kd.V_alloc | apply Kd.V_drewN | apply Kd.V_drew)); exact (Kd.V_mono (Kd.V_far (p := ⟨gb283, 1, none⟩) (Kd.V_far (p := ⟨gb283, 0, none⟩) (Kd.V_mono HO276.out (fun k_ hk => (⟨hk, hk.2⟩ : _ ∧ k_ ≠ gb283))) (fun _ hk => hk.2) (.slice Ao25 t274.length co25)) (fun _ hk => hk.2) (.slice Ao28 t277.length co28)) (fun _ h_ => h_.1))) gb284 (Nat.le_of_eq hg.symm)) hb); have n4_ := Aside0.mk (Kd.V_below (Kd.V_elderB (by (with_reducible repeat (first | apply Kd.V_alloc | apply Kd.V_drewN | apply Kd.V_drew)); exact (Kd.V_mono (Kd.V_far (p := ⟨gb283, 1, none⟩) (Kd.V_far (p := ⟨gb283, 0, none⟩) (Kd.V_mono HO279.out (fun k_ hk => (⟨hk, hk.2⟩ : _ ∧ k_ ≠ gb283))) (fun _ hk => hk.2) (.slice Ao25 t274.length co25)) (fun _ hk => hk.2) (.slice Ao28 t277.length co28)) (fun _ h_ => h_.1))) gb284 (Nat.le_of_eq hg.symm)) hb); have n5_ := Aside0.mk (Kd.V_below (Kd.V_elderB (by (with_reducible repeat (first | apply Kd.V_alloc | apply Kd.V_drewN | apply Kd.V_drew)); exact (Kd.V_mono (Kd.V_far (p := ⟨gb283, 1, none⟩) (Kd.V_far (p := ⟨gb283, 0, none⟩) (Kd.V_mono HO282.out (fun k_ hk => (⟨hk, hk.2⟩ : _ ∧ k_ ≠ gb283))) (fun _ hk => hk.2) (.slice Ao25 t274.length co25)) (fun _ hk => hk.2) (.slice Ao28 t277.length co28)) (fun _ h_ => h_.1))) gb284 (Nat.le_of_eq hg.symm)) hb); have n6_ := Aside0.mk (blk_below (g := gb264) (o := .cells #[.slice A0_0 l0_0.length c0_0, .slice A0_1 l0_1.length c0_1] 24 (0, 0)) (by (with_reducible repeat (first | refine blk_drewN ?_ _ | refine blk_drew ?_ | refine blk_alloc ?_ _)); refine blk_far ?_ NB264_283.out _; (with_reducible repeat (first | refine blk_drewN ?_ _ | refine blk_drew ?_ | refine blk_alloc ?_ _)); refine blk_far ?_ NB264_283.out _; (with_reducible repeat (first | refine blk_drewN ?_ _ | refine blk_drew ?_ | refine blk_alloc ?_ _)); exact BK264.out) hb); have n7_ := Aside0.mk (blk_below (g := gb283) (o := .cells #[.slice Ao25 t274.length co25, .slice Ao28 t277.length co28] 24 (0, 0)) (by (with_reducible repeat (first | refine blk_drewN ?_ _ | refine blk_drew ?_ | refine blk_alloc ?_ _)); refine blk_put (cs := #[.slice Ao25 t274.length co25, .slice none 0 0]) ?_ 1 _ rfl; (with_reducible repeat (first | refine blk_drewN ?_ _ | refine blk_drew ?_ | refine blk_alloc ?_ _)); refine blk_put (cs := #[.slice none 0 0, .slice none 0 0]) ?_ 0 _ rfl; (with_reducible repeat (first | refine blk_drewN ?_ _ | refine blk_drew ?_ | refine blk_alloc ?_ _)); exact BK283.out) hb); have n8_ := Aside0.mk (below_step (zc2 HB GE264 GE283) hb); have n9_ := Aside0.mk (hbox); have n10_ := Aside0.mk ((by rw [hg]; exact (below_size (zc2 HB GE264 GE283)) : w.heap.size ≤ gb284)); have n11_ := Aside0.mk ((by rw [hg]; exact (below_size (zc2 HB GE264 GE283)) : w.heap.size ≤ gb284)); have n12_ := Aside0.mk ((by rw [hg]; exact Nat.ne_of_lt (blk_lt (g := gb264) (o := .cells #[.slice A0_0 l0_0.length c0_0, .slice A0_1 l0_1.length c0_1] 24 (0, 0)) (by (with_reducible repeat (first | refine blk_drewN ?_ _ | refine blk_drew ?_ | refine blk_alloc ?_ _)); refine blk_far ?_ NB264_283.out _; (with_reducible repeat (first | refine blk_drewN ?_ _ | refine blk_drew ?_ | refine blk_alloc ?_ _)); refine blk_far ?_ NB264_283.out _; (with_reducible repeat (first | refine blk_drewN ?_ _ | refine blk_drew ?_ | refine blk_alloc ?_ _)); exact BK264.out)) : gb264 ≠ gb284)); have n13_ := Aside0.mk ((by rw [hg]; exact Nat.ne_of_gt (blk_lt (g := gb264) (o := .cells #[.slice A0_0 l0_0.length c0_0, .slice A0_1 l0_1.length c0_1] 24 (0, 0)) (by (with_reducible repeat (first | refine blk_drewN ?_ _ | refine blk_drew ?_ | refine blk_alloc ?_ _)); refine blk_far ?_ NB264_283.out _; (with_reducible repeat (first | refine blk_drewN ?_ _ | refine blk_drew ?_ | refine blk_alloc ?_ _)); refine blk_far ?_ NB264_283.out _; (with_reducible repeat (first | refine blk_drewN ?_ _ | refine blk_drew ?_ | refine blk_alloc ?_ _)); exact BK264.out)) : gb284 ≠ gb264)); have n14_ := Aside0.mk ((by rw [hg]; exact Nat.ne_of_lt (blk_lt (g := gb283) (o := .cells #[.slice Ao25 t274.length co25, .slice Ao28 t277.length co28] 24 (0, 0)) (by (with_reducible repeat (first | refine blk_drewN ?_ _ | refine blk_drew ?_ | refine blk_alloc ?_ _)); refine blk_put (cs := #[.slice Ao25 t274.length co25, .slice none 0 0]) ?_ 1 _ rfl; (with_reducible repeat (first | refine blk_drewN ?_ _ | refine blk_drew ?_ | refine blk_alloc ?_ _)); refine blk_put (cs := #[.slice none 0 0, .slice none 0 0]) ?_ 0 _ rfl; (with_reducible repeat (first | refine blk_drewN ?_ _ | refine blk_drew ?_ | refine blk_alloc ?_ _)); exact BK283.out)) : gb283 ≠ gb284)); have n15_ := Aside0.mk ((by rw [hg]; exact Nat.ne_of_gt (blk_lt (g := gb283) (o := .cells #[.slice Ao25 t274.length co25, .slice Ao28 t277.length co28] 24 (0, 0)) (by (with_reducible repeat (first | refine blk_drewN ?_ _ | refine blk_drew ?_ | refine blk_alloc ?_ _)); refine blk_put (cs := #[.slice Ao25 t274.length co25, .slice none 0 0]) ?_ 1 _ rfl; (with_reducible repeat (first | refine blk_drewN ?_ _ | refine blk_drew ?_ | refine blk_alloc ?_ _)); refine blk_put (cs := #[.slice none 0 0, .slice none 0 0]) ?_ 0 _ rfl; (with_reducible repeat (first | refine blk_drewN ?_ _ | refine blk_drew ?_ | refine blk_alloc ?_ _)); exact BK283.out)) : gb284 ≠ gb283)); clear HO_265000; clear HO_265001; clear HO273; clear HO276; clear HO279; clear HO282; clear BK264; clear BK283; clear HB; have HO_265000 := n0_; have HO_265001 := n1_; have HO273 := n2_; have HO276 := n3_; have HO279 := n4_; have HO282 := n5_; have BK264 := n6_; have BK283 := n7_; have HB := n8_; have BK284 := n9_; have GW284 := n10_; have GE284 := n11_; have NB264_284 := n12_; have NB284_264 := n13_; have NB283_284 := n14_; have NB284_283 := n15_; clear n0_ n1_ n2_ n3_ n4_ n5_ n6_ n7_ n8_ n9_ n10_ n11_ n12_ n13_ n14_ n15_; clear hb hbox hg; have hnb31 := NB284_264.out; have hnc31 := NB264_284.out; have hnb32 := NB284_283.out; have hnc32 := NB283_284.out; have hcz33_0 : w30.cell? ⟨gb284, 0, none⟩ = some (.slice none 0 0) := (blk_cell BK284.out 0).trans rfl; have hcz33_1 : w30.cell? ⟨gb284, 1, none⟩ = some (.slice none 0 0) := (blk_cell BK284.out 1).trans rfl; have hfz33_0 := blk_frozen BK284.out 0; have hfz33_1 := blk_frozen BK284.out 1; obtain ⟨Ao34, co34, eo34⟩ := Kd.R_slice HO273.out; subst eo34))
     go_loopg [36] kj1 (fun kq v36 w' => ∃ (x36_2 : Int) (x285000_2 : List Int) (x285001_2 : List Int) (u285000 : Value) (u285001 : Value), v36 = .int .i64 x36_2 ∧ Aside0 (handshakerlaw20_CondAll.l0 kq y271 t280 y271 (y271.length : Int) x36_2 l0_0 l0_1 t274 t277 x285000_2 x285001_2 = some r) ∧ Aside0 (kq ≤ kj1) ∧ Aside0 (Kd.R (Kd.int .i64) 3 w' w.heap.size (fun k_ => (w.heap.size ≤ k_)) (.slice Ao34 y271.length co34) y271) ∧ Aside0 (Kd.V (Kd.int .i64) 3 w' w.heap.size (fun k_ => ((P0_0_ k_ ∨ P0_1_ k_) ∨ w.heap.size ≤ k_) ∧ some k_ ≠ ((.slice Ao34 y271.length co34) : Value).ownBlock ∧ some k_ ≠ ((.slice Ao34 y271.length co34) : Value).ownBlock ∧ k_ ≠ gb264 ∧ k_ ≠ gb283 ∧ k_ ≠ gb284) v281 t280) ∧ Aside0 (Kd.R (Kd.int .i64) 3 w' w.heap.size (fun k_ => (w.heap.size ≤ k_)) (.slice Ao34 y271.length co34) y271) ∧ Aside0 (Kd.V (Kd.int .i64) 3 w' w.heap.size (fun k_ => ((P0_0_ k_ ∨ P0_1_ k_) ∨ w.heap.size ≤ k_) ∧ some k_ ≠ ((.slice Ao34 y271.length co34) : Value).ownBlock ∧ some k_ ≠ ((.slice Ao34 y271.length co34) : Value).ownBlock ∧ k_ ≠ gb264 ∧ k_ ≠ gb283 ∧ k_ ≠ gb284) (.slice A0_0 l0_0.length c0_0) l0_0) ∧ Aside0 (Kd.V (Kd.int .i64) 3 w' w.heap.size (fun k_ => ((P0_0_ k_ ∨ P0_1_ k_) ∨ w.heap.size ≤ k_) ∧ some k_ ≠ ((.slice Ao34 y271.length co34) : Value).ownBlock ∧ some k_ ≠ ((.slice Ao34 y271.length co34) : Value).ownBlock ∧ k_ ≠ gb264 ∧ k_ ≠ gb283 ∧ k_ ≠ gb284) (.slice A0_1 l0_1.length c0_1) l0_1) ∧ Aside0 (Kd.V (Kd.int .i64) 3 w' w.heap.size (fun k_ => ((P0_0_ k_ ∨ P0_1_ k_) ∨ w.heap.size ≤ k_) ∧ some k_ ≠ ((.slice Ao34 y271.length co34) : Value).ownBlock ∧ some k_ ≠ ((.slice Ao34 y271.length co34) : Value).ownBlock ∧ k_ ≠ gb264 ∧ k_ ≠ gb283 ∧ k_ ≠ gb284) (.slice Ao25 t274.length co25) t274) ∧ Aside0 (Kd.V (Kd.int .i64) 3 w' w.heap.size (fun k_ => ((P0_0_ k_ ∨ P0_1_ k_) ∨ w.heap.size ≤ k_) ∧ some k_ ≠ ((.slice Ao34 y271.length co34) : Value).ownBlock ∧ some k_ ≠ ((.slice Ao34 y271.length co34) : Value).ownBlock ∧ k_ ≠ gb264 ∧ k_ ≠ gb283 ∧ k_ ≠ gb284) (.slice Ao28 t277.length co28) t277) ∧ Aside0 (Kd.V (Kd.int .i64) 3 w' w.heap.size (fun k_ => ((P0_0_ k_ ∨ P0_1_ k_) ∨ w.heap.size ≤ k_) ∧ some k_ ≠ ((.slice Ao34 y271.length co34) : Value).ownBlock ∧ some k_ ≠ ((.slice Ao34 y271.length co34) : Value).ownBlock ∧ k_ ≠ gb264 ∧ k_ ≠ gb283 ∧ k_ ≠ gb284) u285000 x285000_2) ∧ Aside0 (Kd.V (Kd.int .i64) 3 w' w.heap.size (fun k_ => ((P0_0_ k_ ∨ P0_1_ k_) ∨ w.heap.size ≤ k_) ∧ some k_ ≠ ((.slice Ao34 y271.length co34) : Value).ownBlock ∧ some k_ ≠ ((.slice Ao34 y271.length co34) : Value).ownBlock ∧ k_ ≠ gb264 ∧ k_ ≠ gb283 ∧ k_ ≠ gb284) u285001 x285001_2) ∧ Aside0 (w'.heap[gb264]? = some (.cells #[(.slice A0_0 l0_0.length c0_0), (.slice A0_1 l0_1.length c0_1)] 24 (0, 0))) ∧ Aside0 (w'.heap[gb283]? = some (.cells #[(.slice Ao25 t274.length co25), (.slice Ao28 t277.length co28)] 24 (0, 0))) ∧ Aside0 (w'.heap[gb284]? = some (.cells #[u285000, u285001] 24 (0, 0))) ∧ Aside0 (Below w.heap.size w w'))
     case atStart => exact ⟨(0), (l0_0), (l0_1), (.slice A0_0 l0_0.length c0_0), (.slice A0_1 l0_1.length c0_1), (by first | rfl | (simp; done) | (simp [*]; done)), H', ⟨Nat.le_refl _⟩, ⟨by (with_reducible repeat (first | apply Kd.R_alloc | apply Kd.R_drewN | apply Kd.R_drew)); exact Kd.R_mono (Kd.R_far (p := ⟨gb284, 1, none⟩) (Kd.R_far (p := ⟨gb284, 0, none⟩) (Kd.R_types HO273.out BK284.out (by decide)) (fun _ hk => hk.2) (.slice A0_0 l0_0.length c0_0)) (fun _ hk => hk.2) (.slice A0_1 l0_1.length c0_1)) (fun _ hk => hk.1)⟩, ⟨by (with_reducible repeat (first | apply Kd.V_alloc | apply Kd.V_drewN | apply Kd.V_drew)); exact Kd.V_mono (Kd.V_far (p := ⟨gb284, 1, none⟩) (Kd.V_far (p := ⟨gb284, 0, none⟩) (Kd.V_mono HO282.out (fun k_ hk => (⟨hk, hk.2⟩ : _ ∧ k_ ≠ gb284))) (fun _ hk => hk.2) (.slice A0_0 l0_0.length c0_0)) (fun _ hk => hk.2) (.slice A0_1 l0_1.length c0_1)) (fun _ hk => ⟨hk.1.1.1.1, ⟨hk.1.1.1.2.1, ⟨hk.1.1.1.2.1, ⟨hk.1.1.1.2.2, ⟨hk.1.1.2, hk.1.2⟩⟩⟩⟩⟩)⟩, ⟨by (with_reducible repeat (first | apply Kd.R_alloc | apply Kd.R_drewN | apply Kd.R_drew)); exact Kd.R_mono (Kd.R_far (p := ⟨gb284, 1, none⟩) (Kd.R_far (p := ⟨gb284, 0, none⟩) (Kd.R_types HO273.out BK284.out (by decide)) (fun _ hk => hk.2) (.slice A0_0 l0_0.length c0_0)) (fun _ hk => hk.2) (.slice A0_1 l0_1.length c0_1)) (fun _ hk => hk.1)⟩, ⟨by (with_reducible repeat (first | apply Kd.V_alloc | apply Kd.V_drewN | apply Kd.V_drew)); exact Kd.V_mono (Kd.V_far (p := ⟨gb284, 1, none⟩) (Kd.V_far (p := ⟨gb284, 0, none⟩) (Kd.V_mono HO_265000.out (fun k_ hk => (⟨hk, hk.2⟩ : _ ∧ k_ ≠ gb284))) (fun _ hk => hk.2) (.slice A0_0 l0_0.length c0_0)) (fun _ hk => hk.2) (.slice A0_1 l0_1.length c0_1)) (fun _ hk => ⟨hk.1.1.1.1.1, ⟨hk.1.1.1.2, ⟨hk.1.1.1.2, ⟨hk.1.1.1.1.2, ⟨hk.1.1.2, hk.1.2⟩⟩⟩⟩⟩)⟩, ⟨by (with_reducible repeat (first | apply Kd.V_alloc | apply Kd.V_drewN | apply Kd.V_drew)); exact Kd.V_mono (Kd.V_far (p := ⟨gb284, 1, none⟩) (Kd.V_far (p := ⟨gb284, 0, none⟩) (Kd.V_mono HO_265001.out (fun k_ hk => (⟨hk, hk.2⟩ : _ ∧ k_ ≠ gb284))) (fun _ hk => hk.2) (.slice A0_0 l0_0.length c0_0)) (fun _ hk => hk.2) (.slice A0_1 l0_1.length c0_1)) (fun _ hk => ⟨hk.1.1.1.1.1, ⟨hk.1.1.1.2, ⟨hk.1.1.1.2, ⟨hk.1.1.1.1.2, ⟨hk.1.1.2, hk.1.2⟩⟩⟩⟩⟩)⟩, ⟨by (with_reducible repeat (first | apply Kd.V_alloc | apply Kd.V_drewN | apply Kd.V_drew)); exact Kd.V_mono (Kd.V_far (p := ⟨gb284, 1, none⟩) (Kd.V_far (p := ⟨gb284, 0, none⟩) (Kd.V_mono HO276.out (fun k_ hk => (⟨hk, hk.2⟩ : _ ∧ k_ ≠ gb284))) (fun _ hk => hk.2) (.slice A0_0 l0_0.length c0_0)) (fun _ hk => hk.2) (.slice A0_1 l0_1.length c0_1)) (fun _ hk => ⟨hk.1.1.1.1, ⟨hk.1.1.1.2.1, ⟨hk.1.1.1.2.1, ⟨hk.1.1.1.2.2, ⟨hk.1.1.2, hk.1.2⟩⟩⟩⟩⟩)⟩, ⟨by (with_reducible repeat (first | apply Kd.V_alloc | apply Kd.V_drewN | apply Kd.V_drew)); exact Kd.V_mono (Kd.V_far (p := ⟨gb284, 1, none⟩) (Kd.V_far (p := ⟨gb284, 0, none⟩) (Kd.V_mono HO279.out (fun k_ hk => (⟨hk, hk.2⟩ : _ ∧ k_ ≠ gb284))) (fun _ hk => hk.2) (.slice A0_0 l0_0.length c0_0)) (fun _ hk => hk.2) (.slice A0_1 l0_1.length c0_1)) (fun _ hk => ⟨hk.1.1.1.1, ⟨hk.1.1.1.2.1, ⟨hk.1.1.1.2.1, ⟨hk.1.1.1.2.2, ⟨hk.1.1.2, hk.1.2⟩⟩⟩⟩⟩)⟩, ⟨by (with_reducible repeat (first | apply Kd.V_alloc | apply Kd.V_drewN | apply Kd.V_drew)); exact Kd.V_mono (Kd.V_far (p := ⟨gb284, 1, none⟩) (Kd.V_far (p := ⟨gb284, 0, none⟩) (Kd.V_mono HO_265000.out (fun k_ hk => (⟨hk, hk.2⟩ : _ ∧ k_ ≠ gb284))) (fun _ hk => hk.2) (.slice A0_0 l0_0.length c0_0)) (fun _ hk => hk.2) (.slice A0_1 l0_1.length c0_1)) (fun _ hk => ⟨hk.1.1.1.1.1, ⟨hk.1.1.1.2, ⟨hk.1.1.1.2, ⟨hk.1.1.1.1.2, ⟨hk.1.1.2, hk.1.2⟩⟩⟩⟩⟩)⟩, ⟨by (with_reducible repeat (first | apply Kd.V_alloc | apply Kd.V_drewN | apply Kd.V_drew)); exact Kd.V_mono (Kd.V_far (p := ⟨gb284, 1, none⟩) (Kd.V_far (p := ⟨gb284, 0, none⟩) (Kd.V_mono HO_265001.out (fun k_ hk => (⟨hk, hk.2⟩ : _ ∧ k_ ≠ gb284))) (fun _ hk => hk.2) (.slice A0_0 l0_0.length c0_0)) (fun _ hk => hk.2) (.slice A0_1 l0_1.length c0_1)) (fun _ hk => ⟨hk.1.1.1.1.1, ⟨hk.1.1.1.2, ⟨hk.1.1.1.2, ⟨hk.1.1.1.1.2, ⟨hk.1.1.2, hk.1.2⟩⟩⟩⟩⟩)⟩, ⟨by (with_reducible repeat (first | refine blk_drewN ?_ _ | refine blk_drew ?_ | refine blk_alloc ?_ _)); refine blk_far ?_ NB264_284.out _; (with_reducible repeat (first | refine blk_drewN ?_ _ | refine blk_drew ?_ | refine blk_alloc ?_ _)); refine blk_far ?_ NB264_284.out _; (with_reducible repeat (first | refine blk_drewN ?_ _ | refine blk_drew ?_ | refine blk_alloc ?_ _)); exact BK264.out⟩, ⟨by (with_reducible repeat (first | refine blk_drewN ?_ _ | refine blk_drew ?_ | refine blk_alloc ?_ _)); refine blk_far ?_ NB283_284.out _; (with_reducible repeat (first | refine blk_drewN ?_ _ | refine blk_drew ?_ | refine blk_alloc ?_ _)); refine blk_far ?_ NB283_284.out _; (with_reducible repeat (first | refine blk_drewN ?_ _ | refine blk_drew ?_ | refine blk_alloc ?_ _)); exact BK283.out⟩, ⟨by (with_reducible repeat (first | refine blk_drewN ?_ _ | refine blk_drew ?_ | refine blk_alloc ?_ _)); refine blk_put (cs := #[.slice A0_0 l0_0.length c0_0, .slice none 0 0]) ?_ 1 _ rfl; (with_reducible repeat (first | refine blk_drewN ?_ _ | refine blk_drew ?_ | refine blk_alloc ?_ _)); refine blk_put (cs := #[.slice none 0 0, .slice none 0 0]) ?_ 0 _ rfl; (with_reducible repeat (first | refine blk_drewN ?_ _ | refine blk_drew ?_ | refine blk_alloc ?_ _)); exact BK284.out⟩, ⟨by repeat (first | (with_reducible first | exact HB.out | apply below_alloc | apply pw_below_drewN | apply below_drew1 | refine below_set ?_ GE264.out | refine below_set ?_ GE283.out | refine below_set ?_ GE284.out) | exact HB.out)⟩⟩
     case round =>
      clear H'
      try clear c1
      try clear c2
      try clear p2
      try clear c3
      try clear c5
      try clear c8
      try clear c9
      try clear c13
      try clear c16
      try clear c26
      try clear c31
      try clear c32
      try clear hcz11_0
      try clear hcz11_1
      try clear hcz20_0
      try clear hcz20_1
      try clear hcz22_0
      try clear hcz22_1
      try clear hcz27_0
      try clear hcz27_1
      try clear hcz29_0
      try clear hcz29_1
      try clear hcz33_0
      try clear hcz33_1
      try clear hcz7_0
      try clear hcz7_1
      try clear hcz9_0
      try clear hcz9_1
      try clear hfz11_0
      try clear hfz11_1
      try clear hfz20_0
      try clear hfz20_1
      try clear hfz22_0
      try clear hfz22_1
      try clear hfz27_0
      try clear hfz27_1
      try clear hfz29_0
      try clear hfz29_1
      try clear hfz33_0
      try clear hfz33_1
      try clear hfz7_0
      try clear hfz7_1
      try clear hfz9_0
      try clear hfz9_1
      try clear p2
      obtain ⟨x36_2, x285000_2, x285001_2, u285000, u285001, rfl, HA, HK2, HO_3, HO_5, HO_34, HO_265000, HO_265001, HO_284000, HO_284001, HO_285000, HO_285001, BK264, BK283, BK284, HB⟩ := hrel
      cases gk with
      | zero => exact absurd HA.out (by simp [handshakerlaw20_CondAll.l0])
      | succ k2 =>
       have H := HA.out
       clear HA
       simp only [handshakerlaw20_CondAll.l0] at H
       by_cases c35 : x36_2 < (y271.length : Int)
       ·rw [if_pos c35] at H
        have c35b0 : decide (x36_2 < (y271.length : Int)) = true := decide_eq_true c35
        clear c35
        by_cases c36 : 0 ≤ x36_2
        ·rw [if_pos c36] at H
         have c36b0 : decide (0 ≤ x36_2) = true := decide_eq_true c36
         clear c36
         by_cases c37 : x36_2 < (y271.length : Int)
         ·rw [if_pos c37] at H
          have c37b0 : decide (x36_2 < (y271.length : Int)) = true := decide_eq_true c37
          clear c37
          replace H := Option.bind_eq_some_iff.mp H
          obtain ⟨⟨t286, t289, t292⟩, A380, H⟩ := H
          replace H : ((handshakerref03_Numbers.f k2 t292 (([rd y271 x36_2] : List Int))).bind fun t299 => (if t299 = true then (handshakerlaw20_CondAll.l0 k2 y271 t280 y271 (y271.length : Int) (wrap64 (x36_2 + 1)) l0_0 l0_1 t274 t277 t286 t289) else (none))) = some r := H
          have A38 := Aside0.mk A380
          clear A380
          obtain ⟨y296, hy296⟩ : ∃ y_ : List Int, y_ = (([rd y271 x36_2] : List Int)) := ⟨_, rfl⟩
          replace H : ((handshakerref03_Numbers.f k2 t292 y296).bind fun t299 => (if t299 = true then (handshakerlaw20_CondAll.l0 k2 y271 t280 y271 (y271.length : Int) (wrap64 (x36_2 + 1)) l0_0 l0_1 t274 t277 t286 t289) else (none))) = some r := by first | (rw [hy296]; with_reducible exact H) | (have H2_ := (Option.bind_some _ _).symm.trans H; rw [hy296]; with_reducible exact H2_) | (have H2_ := (Option.bind_some _ _).symm.trans H; with_reducible exact H2_) | with_reducible exact H | (rw [hy296]; exact H) | exact H
          have Ny296 := Aside0.mk hy296
          clear hy296
          replace H := Option.bind_eq_some_iff.mp H
          obtain ⟨t299, A390, H⟩ := H
          replace H : (if t299 = true then (handshakerlaw20_CondAll.l0 k2 y271 t280 y271 (y271.length : Int) (wrap64 (x36_2 + 1)) l0_0 l0_1 t274 t277 t286 t289) else (none)) = some r := H
          have A39 := Aside0.mk A390
          clear A390
          by_cases c40 : t299 = true
          ·subst c40
           have H1 : (handshakerlaw20_CondAll.l0 k2 y271 t280 y271 (y271.length : Int) (wrap64 (x36_2 + 1)) l0_0 l0_1 t274 t277 t286 t289) = some r := by rw [if_pos rfl] at H; exact H
           clear H
           have H := H1
           clear H1
           have H' := Aside0.mk H
           clear H
           have p285 : 0 ≤ (x36_2 : Int) := of_decide_eq_true (by first | (with_reducible assumption) | assumption)
           have q285 : x36_2 < (y271.length : Int) := of_decide_eq_true (by first | (with_reducible assumption) | assumption)
           obtain ⟨ad285, e285, hx285_0⟩ := Kd.at_int (Kd.R_reads' HO_34.out).2.2 x36_2 p285 q285
           cases e285
           replace p285 := eq_true p285
           replace q285 := eq_true q285
           have hnb41 := NB284_264.out
           have hnc41 := NB264_284.out
           have hnb42 := NB284_283.out
           have hnc42 := NB283_284.out
           have hcz43_0 : wr.cell? ⟨gb284, 0, none⟩ = some (u285000) := (blk_cell BK284.out 0).trans rfl
           have hcz43_1 : wr.cell? ⟨gb284, 1, none⟩ = some (u285001) := (blk_cell BK284.out 1).trans rfl
           have hfz43_0 := blk_frozen BK284.out 0
           have hfz43_1 := blk_frozen BK284.out 1
           obtain ⟨Ao44, co44, eo44⟩ := Kd.V_slice HO_285000.out
           subst eo44
           obtain ⟨Ao45, co45, eo45⟩ := Kd.V_slice HO_285001.out
           subst eo45
           go_wp2_with (first | ((with_reducible refine gate_callee (f := 13) rfl ?_); refine goesL_ (some 42) rfl rfl Try.func13 (by kernel_rfl) rfl #[.agg #[.slice Ao44 x285000_2.length co44, .slice Ao45 x285001_2.length co45], .int .i64 1] rfl zm ?_; (with_reducible refine (cond_Signal.calls k2 (fun k_ => (((P0_0_ k_ ∨ P0_1_ k_) ∨ w.heap.size ≤ k_) ∧ (some k_ ≠ (.slice (some ad285) y271.length co34 : Value).ownBlock ∧ (some k_ ≠ (.slice (some ad285) y271.length co34 : Value).ownBlock ∧ (k_ ≠ gb264 ∧ (k_ ≠ gb283 ∧ k_ ≠ gb284)))))) _ _ x285000_2 (fun k_ => (((P0_0_ k_ ∨ P0_1_ k_) ∨ w.heap.size ≤ k_) ∧ (some k_ ≠ (.slice (some ad285) y271.length co34 : Value).ownBlock ∧ (some k_ ≠ (.slice (some ad285) y271.length co34 : Value).ownBlock ∧ (k_ ≠ gb264 ∧ (k_ ≠ gb283 ∧ k_ ≠ gb284)))))) _ _ x285001_2 1 t286 t289 t292 _ ?side1 ?side2 A38.out).mono ?_); (case side1 => exact HO_285000.out); (case side2 => exact HO_285001.out); rintro e w46 ⟨v287, v290, v293, rfl, ho0, ho1, ho2, hb⟩; refine ⟨_, rfl, ?_⟩; have n0_ := Aside0.mk (Kd.R_below (zR HO_3) hb); have n1_ := Aside0.mk (Kd.V_below (zV HO_5) hb); have n2_ := Aside0.mk (Kd.R_below (zR HO_34) hb); have n3_ := Aside0.mk (Kd.V_below (zV HO_265000) hb); have n4_ := Aside0.mk (Kd.V_below (zV HO_265001) hb); have n5_ := Aside0.mk (Kd.V_below (zV HO_284000) hb); have n6_ := Aside0.mk (Kd.V_below (zV HO_284001) hb); have n7_ := Aside0.mk (Kd.V_below (zV HO_285000) hb); have n8_ := Aside0.mk (Kd.V_below (zV HO_285001) hb); have n9_ := Aside0.mk (Kd.V_lower (Kd.V_mono (ok' := fun k_ => ((P0_0_ k_ ∨ P0_1_ k_) ∨ w.heap.size ≤ k_) ∧ some k_ ≠ (.slice (some ad285) y271.length co34 : Value).ownBlock ∧ some k_ ≠ (.slice (some ad285) y271.length co34 : Value).ownBlock ∧ k_ ≠ gb264 ∧ k_ ≠ gb283 ∧ k_ ≠ gb284) ho0 (fun k_ hk_ => ⟨Or.elim hk_ (fun hs_ => Or.elim hs_ (fun hs_ => hs_.1) (fun hs_ => hs_.1)) (fun hn_ => (.inr (Nat.le_trans (below_size (zc3 HB GE264 GE283 GE284)) hn_))), Or.elim hk_ (fun hs_ => Or.elim hs_ (fun hs_ => hs_.2.1) (fun hs_ => hs_.2.1)) (fun hn_ => (Kd.fresh' (Kd.R_lt (zR HO_3)) k_ hn_)), Or.elim hk_ (fun hs_ => Or.elim hs_ (fun hs_ => hs_.2.2.1) (fun hs_ => hs_.2.2.1)) (fun hn_ => (Kd.fresh' (Kd.R_lt (zR HO_34)) k_ hn_)), Or.elim hk_ (fun hs_ => Or.elim hs_ (fun hs_ => hs_.2.2.2.1) (fun hs_ => hs_.2.2.2.1)) (fun hn_ => (Kd.freshB (g := gb264) (o := .cells #[.slice A0_0 l0_0.length c0_0, .slice A0_1 l0_1.length c0_1] 24 (0, 0)) (zb BK264) k_ hn_)), Or.elim hk_ (fun hs_ => Or.elim hs_ (fun hs_ => hs_.2.2.2.2.1) (fun hs_ => hs_.2.2.2.2.1)) (fun hn_ => (Kd.freshB (g := gb283) (o := .cells #[.slice Ao25 t274.length co25, .slice Ao28 t277.length co28] 24 (0, 0)) (zb BK283) k_ hn_)), Or.elim hk_ (fun hs_ => Or.elim hs_ (fun hs_ => hs_.2.2.2.2.2) (fun hs_ => hs_.2.2.2.2.2)) (fun hn_ => (Kd.freshB (g := gb284) (o := .cells #[.slice Ao44 x285000_2.length co44, .slice Ao45 x285001_2.length co45] 24 (0, 0)) (zb BK284) k_ hn_))⟩)) (below_size (zc3 HB GE264 GE283 GE284))); have n10_ := Aside0.mk (Kd.V_lower (Kd.V_mono (ok' := fun k_ => ((P0_0_ k_ ∨ P0_1_ k_) ∨ w.heap.size ≤ k_) ∧ some k_ ≠ (.slice (some ad285) y271.length co34 : Value).ownBlock ∧ some k_ ≠ (.slice (some ad285) y271.length co34 : Value).ownBlock ∧ k_ ≠ gb264 ∧ k_ ≠ gb283 ∧ k_ ≠ gb284) ho1 (fun k_ hk_ => ⟨Or.elim hk_ (fun hs_ => Or.elim hs_ (fun hs_ => hs_.1) (fun hs_ => hs_.1)) (fun hn_ => (.inr (Nat.le_trans (below_size (zc3 HB GE264 GE283 GE284)) hn_))), Or.elim hk_ (fun hs_ => Or.elim hs_ (fun hs_ => hs_.2.1) (fun hs_ => hs_.2.1)) (fun hn_ => (Kd.fresh' (Kd.R_lt (zR HO_3)) k_ hn_)), Or.elim hk_ (fun hs_ => Or.elim hs_ (fun hs_ => hs_.2.2.1) (fun hs_ => hs_.2.2.1)) (fun hn_ => (Kd.fresh' (Kd.R_lt (zR HO_34)) k_ hn_)), Or.elim hk_ (fun hs_ => Or.elim hs_ (fun hs_ => hs_.2.2.2.1) (fun hs_ => hs_.2.2.2.1)) (fun hn_ => (Kd.freshB (g := gb264) (o := .cells #[.slice A0_0 l0_0.length c0_0, .slice A0_1 l0_1.length c0_1] 24 (0, 0)) (zb BK264) k_ hn_)), Or.elim hk_ (fun hs_ => Or.elim hs_ (fun hs_ => hs_.2.2.2.2.1) (fun hs_ => hs_.2.2.2.2.1)) (fun hn_ => (Kd.freshB (g := gb283) (o := .cells #[.slice Ao25 t274.length co25, .slice Ao28 t277.length co28] 24 (0, 0)) (zb BK283) k_ hn_)), Or.elim hk_ (fun hs_ => Or.elim hs_ (fun hs_ => hs_.2.2.2.2.2) (fun hs_ => hs_.2.2.2.2.2)) (fun hn_ => (Kd.freshB (g := gb284) (o := .cells #[.slice Ao44 x285000_2.length co44, .slice Ao45 x285001_2.length co45] 24 (0, 0)) (zb BK284) k_ hn_))⟩)) (below_size (zc3 HB GE264 GE283 GE284))); have n11_ := Aside0.mk (Kd.V_lower (Kd.V_mono (ok' := fun k_ => ((P0_0_ k_ ∨ P0_1_ k_) ∨ w.heap.size ≤ k_) ∧ some k_ ≠ (.slice (some ad285) y271.length co34 : Value).ownBlock ∧ some k_ ≠ (.slice (some ad285) y271.length co34 : Value).ownBlock ∧ k_ ≠ gb264 ∧ k_ ≠ gb283 ∧ k_ ≠ gb284) ho2 (fun k_ hk_ => ⟨Or.elim hk_ (fun hs_ => Or.elim hs_ (fun hs_ => hs_.1) (fun hs_ => hs_.1)) (fun hn_ => (.inr (Nat.le_trans (below_size (zc3 HB GE264 GE283 GE284)) hn_))), Or.elim hk_ (fun hs_ => Or.elim hs_ (fun hs_ => hs_.2.1) (fun hs_ => hs_.2.1)) (fun hn_ => (Kd.fresh' (Kd.R_lt (zR HO_3)) k_ hn_)), Or.elim hk_ (fun hs_ => Or.elim hs_ (fun hs_ => hs_.2.2.1) (fun hs_ => hs_.2.2.1)) (fun hn_ => (Kd.fresh' (Kd.R_lt (zR HO_34)) k_ hn_)), Or.elim hk_ (fun hs_ => Or.elim hs_ (fun hs_ => hs_.2.2.2.1) (fun hs_ => hs_.2.2.2.1)) (fun hn_ => (Kd.freshB (g := gb264) (o := .cells #[.slice A0_0 l0_0.length c0_0, .slice A0_1 l0_1.length c0_1] 24 (0, 0)) (zb BK264) k_ hn_)), Or.elim hk_ (fun hs_ => Or.elim hs_ (fun hs_ => hs_.2.2.2.2.1) (fun hs_ => hs_.2.2.2.2.1)) (fun hn_ => (Kd.freshB (g := gb283) (o := .cells #[.slice Ao25 t274.length co25, .slice Ao28 t277.length co28] 24 (0, 0)) (zb BK283) k_ hn_)), Or.elim hk_ (fun hs_ => Or.elim hs_ (fun hs_ => hs_.2.2.2.2.2) (fun hs_ => hs_.2.2.2.2.2)) (fun hn_ => (Kd.freshB (g := gb284) (o := .cells #[.slice Ao44 x285000_2.length co44, .slice Ao45 x285001_2.length co45] 24 (0, 0)) (zb BK284) k_ hn_))⟩)) (below_size (zc3 HB GE264 GE283 GE284))); have n12_ := Aside0.mk (blk_below (g := gb264) (o := .cells #[.slice A0_0 l0_0.length c0_0, .slice A0_1 l0_1.length c0_1] 24 (0, 0)) (zb BK264) hb); have n13_ := Aside0.mk (blk_below (g := gb283) (o := .cells #[.slice Ao25 t274.length co25, .slice Ao28 t277.length co28] 24 (0, 0)) (zb BK283) hb); have n14_ := Aside0.mk (blk_below (g := gb284) (o := .cells #[.slice Ao44 x285000_2.length co44, .slice Ao45 x285001_2.length co45] 24 (0, 0)) (zb BK284) hb); have n15_ := Aside0.mk (below_step (zc3 HB GE264 GE283 GE284) hb); clear HO_3; clear HO_5; clear HO_34; clear HO_265000; clear HO_265001; clear HO_284000; clear HO_284001; clear HO_285000; clear HO_285001; clear BK264; clear BK283; clear BK284; clear HB; have HO_3 := n0_; have HO_5 := n1_; have HO_34 := n2_; have HO_265000 := n3_; have HO_265001 := n4_; have HO_284000 := n5_; have HO_284001 := n6_; have HO_285000 := n7_; have HO_285001 := n8_; have HO288 := n9_; have HO291 := n10_; have HO294 := n11_; have BK264 := n12_; have BK283 := n13_; have BK284 := n14_; have HB := n15_; clear n0_ n1_ n2_ n3_ n4_ n5_ n6_ n7_ n8_ n9_ n10_ n11_ n12_ n13_ n14_ n15_; (try clear hb); (try clear hb2); (try clear hk); (try clear hi); (try clear ho0); (try clear ho1); (try clear ho2)) | ((with_reducible refine gate_dst (N := 9) rfl ?_); (try (refine gate_guard (by rfl) ?_; dsimp only)); refine box_event ?hg (N := 9) ?hd (cs := #[.slice none 0 0, .slice none 0 0]) (t := 24) ?hr ?_; (case hd => rfl); (case hg => rfl); (case hr => first | (go_simp; done) | (go_simp; rfl)); intro gb295 hg w47 hbox hb; have n0_ := Aside0.mk (Kd.R_below (zR HO_3) hb); have n1_ := Aside0.mk (Kd.V_below (Kd.V_elderB (zV HO_5) gb295 (Nat.le_of_eq hg.symm)) hb); have n2_ := Aside0.mk (Kd.R_below (zR HO_34) hb); have n3_ := Aside0.mk (Kd.V_below (Kd.V_elderB (zV HO_265000) gb295 (Nat.le_of_eq hg.symm)) hb); have n4_ := Aside0.mk (Kd.V_below (Kd.V_elderB (zV HO_265001) gb295 (Nat.le_of_eq hg.symm)) hb); have n5_ := Aside0.mk (Kd.V_below (Kd.V_elderB (zV HO_284000) gb295 (Nat.le_of_eq hg.symm)) hb); have n6_ := Aside0.mk (Kd.V_below (Kd.V_elderB (zV HO_284001) gb295 (Nat.le_of_eq hg.symm)) hb); have n7_ := Aside0.mk (Kd.V_below (Kd.V_elderB (zV HO_285000) gb295 (Nat.le_of_eq hg.symm)) hb); have n8_ := Aside0.mk (Kd.V_below (Kd.V_elderB (zV HO_285001) gb295 (Nat.le_of_eq hg.symm)) hb); have n9_ := Aside0.mk (Kd.V_below (Kd.V_elderB (zV HO288) gb295 (Nat.le_of_eq hg.symm)) hb); have n10_ := Aside0.mk (Kd.V_below (Kd.V_elderB (zV HO291) gb295 (Nat.le_of_eq hg.symm)) hb); have n11_ := Aside0.mk (Kd.V_below (Kd.V_elderB (zV HO294) gb295 (Nat.le_of_eq hg.symm)) hb); have n12_ := Aside0.mk (blk_below (g := gb264) (o := .cells #[.slice A0_0 l0_0.length c0_0, .slice A0_1 l0_1.length c0_1] 24 (0, 0)) (zb BK264) hb); have n13_ := Aside0.mk (blk_below (g := gb283) (o := .cells #[.slice Ao25 t274.length co25, .slice Ao28 t277.length co28] 24 (0, 0)) (zb BK283) hb); have n14_ := Aside0.mk (blk_below (g := gb284) (o := .cells #[.slice Ao44 x285000_2.length co44, .slice Ao45 x285001_2.length co45] 24 (0, 0)) (zb BK284) hb); have n15_ := Aside0.mk (below_step (zc3 HB GE264 GE283 GE284) hb); have n16_ := Aside0.mk (hbox); have n17_ := Aside0.mk ((by rw [hg]; exact (below_size (zc3 HB GE264 GE283 GE284)) : w.heap.size ≤ gb295)); have n18_ := Aside0.mk ((by rw [hg]; exact (below_size (zc3 HB GE264 GE283 GE284)) : w.heap.size ≤ gb295)); have n19_ := Aside0.mk ((by rw [hg]; exact Nat.ne_of_lt (blk_lt (g := gb264) (o := .cells #[.slice A0_0 l0_0.length c0_0, .slice A0_1 l0_1.length c0_1] 24 (0, 0)) (zb BK264)) : gb264 ≠ gb295)); have n20_ := Aside0.mk ((by rw [hg]; exact Nat.ne_of_gt (blk_lt (g := gb264) (o := .cells #[.slice A0_0 l0_0.length c0_0, .slice A0_1 l0_1.length c0_1] 24 (0, 0)) (zb BK264)) : gb295 ≠ gb264)); have n21_ := Aside0.mk ((by rw [hg]; exact Nat.ne_of_lt (blk_lt (g := gb283) (o := .cells #[.slice Ao25 t274.length co25, .slice Ao28 t277.length co28] 24 (0, 0)) (zb BK283)) : gb283 ≠ gb295)); have n22_ := Aside0.mk ((by rw [hg]; exact Nat.ne_of_gt (blk_lt (g := gb283) (o := .cells #[.slice Ao25 t274.length co25, .slice Ao28 t277.length co28] 24 (0, 0)) (zb BK283)) : gb295 ≠ gb283)); have n23_ := Aside0.mk ((by rw [hg]; exact Nat.ne_of_lt (blk_lt (g := gb284) (o := .cells #[.slice Ao44 x285000_2.length co44, .slice Ao45 x285001_2.length co45] 24 (0, 0)) (zb BK284)) : gb284 ≠ gb295)); have n24_ := Aside0.mk ((by rw [hg]; exact Nat.ne_of_gt (blk_lt (g := gb284) (o := .cells #[.slice Ao44 x285000_2.length co44, .slice Ao45 x285001_2.length co45] 24 (0, 0)) (zb BK284)) : gb295 ≠ gb284)); clear HO_3; clear HO_5; clear HO_34; clear HO_265000; clear HO_265001; clear HO_284000; clear HO_284001; clear HO_285000; clear HO_285001; clear HO288; clear HO291; clear HO294; clear BK264; clear BK283; clear BK284; clear HB; have HO_3 := n0_; have HO_5 := n1_; have HO_34 := n2_; have HO_265000 := n3_; have HO_265001 := n4_; have HO_284000 := n5_; have HO_284001 := n6_; have HO_285000 := n7_; have HO_285001 := n8_; have HO288 := n9_; have HO291 := n10_; have HO294 := n11_; have BK264 := n12_; have BK283 := n13_; have BK284 := n14_; have HB := n15_; have BK295 := n16_; have GW295 := n17_; have GE295 := n18_; have NB264_295 := n19_; have NB295_264 := n20_; have NB283_295 := n21_; have NB295_283 := n22_; have NB284_295 := n23_; have NB295_284 := n24_; clear n0_ n1_ n2_ n3_ n4_ n5_ n6_ n7_ n8_ n9_ n10_ n11_ n12_ n13_ n14_ n15_ n16_ n17_ n18_ n19_ n20_ n21_ n22_ n23_ n24_; clear hb hbox hg; obtain ⟨Ao48, co48, eo48⟩ := Kd.V_slice HO288.out; subst eo48; have hnb49 := NB295_264.out; have hnc49 := NB264_295.out; have hnb50 := NB295_283.out; have hnc50 := NB283_295.out; have hnb51 := NB295_284.out; have hnc51 := NB284_295.out; have hcz52_0 : w47.cell? ⟨gb295, 0, none⟩ = some (.slice none 0 0) := (blk_cell BK295.out 0).trans rfl; have hcz52_1 : w47.cell? ⟨gb295, 1, none⟩ = some (.slice none 0 0) := (blk_cell BK295.out 1).trans rfl; have hfz52_0 := blk_frozen BK295.out 0; have hfz52_1 := blk_frozen BK295.out 1; obtain ⟨Ao53, co53, eo53⟩ := Kd.V_slice HO291.out; subst eo53) | ((with_reducible refine gate_dst (N := 47) rfl ?_); (try (refine gate_guard (by rfl) ?_; dsimp only)); refine Kd.R_lit (Kd.int .i64) _ 3 ?hg (N := 47) ?hd (xs := ([rd y271 x36_2] : List Int)) (inner := [.int .i64 (rd y271 x36_2)]) (ok := fun _ => True) (okp := fun _ => True) ?hr ?hp (fun _ hk => hk) trivial (Below.refl _ _) (Nat.le_refl _) (by simp) ?_; (case hd => rfl); (case hg => rfl); (case hr => first | (go_simp; done) | (go_simp; rfl)); (case hp => exact (Reps.one (show Kd.M (Kd.int .i64) _ _ _ (rd y271 x36_2) [.int .i64 (rd y271 x36_2)] from rfl) (Reps.none _ _))); intro v297 w54 ho55 hb hg_ hnew_; clear hg_ hnew_; (first | rw [← Ny296.out] at ho55 | (simp only [Int.reduceToNat] at ho55; rw [← Ny296.out] at ho55)); have n0_ := Aside0.mk (Kd.R_elder' (by (with_reducible repeat (first | apply Kd.R_alloc | apply Kd.R_drewN | apply Kd.R_drew)); exact (Kd.R_mono (Kd.R_far (p := ⟨gb295, 1, none⟩) (Kd.R_far (p := ⟨gb295, 0, none⟩) (Kd.R_types HO_3.out BK295.out (by decide)) (fun _ hk => hk.2) (.slice Ao48 t286.length co48)) (fun _ hk => hk.2) (.slice Ao53 t289.length co53)) (fun _ h_ => h_.1))) (Kd.R_base ho55) hb); have n1_ := Aside0.mk (Kd.V_elder' (by (with_reducible repeat (first | apply Kd.V_alloc | apply Kd.V_drewN | apply Kd.V_drew)); exact (Kd.V_mono (Kd.V_far (p := ⟨gb295, 1, none⟩) (Kd.V_far (p := ⟨gb295, 0, none⟩) (Kd.V_mono HO_5.out (fun k_ hk => (⟨hk, hk.2⟩ : _ ∧ k_ ≠ gb295))) (fun _ hk => hk.2) (.slice Ao48 t286.length co48)) (fun _ hk => hk.2) (.slice Ao53 t289.length co53)) (fun _ h_ => h_.1))) (Kd.R_base ho55) hb); have n2_ := Aside0.mk (Kd.R_elder' (by (with_reducible repeat (first | apply Kd.R_alloc | apply Kd.R_drewN | apply Kd.R_drew)); exact (Kd.R_mono (Kd.R_far (p := ⟨gb295, 1, none⟩) (Kd.R_far (p := ⟨gb295, 0, none⟩) (Kd.R_types HO_34.out BK295.out (by decide)) (fun _ hk => hk.2) (.slice Ao48 t286.length co48)) (fun _ hk => hk.2) (.slice Ao53 t289.length co53)) (fun _ h_ => h_.1))) (Kd.R_base ho55) hb); have n3_ := Aside0.mk (Kd.V_elder' (by (with_reducible repeat (first | apply Kd.V_alloc | apply Kd.V_drewN | apply Kd.V_drew)); exact (Kd.V_mono (Kd.V_far (p := ⟨gb295, 1, none⟩) (Kd.V_far (p := ⟨gb295, 0, none⟩) (Kd.V_mono HO_265000.out (fun k_ hk => (⟨hk, hk.2⟩ : _ ∧ k_ ≠ gb295))) (fun _ hk => hk.2) (.slice Ao48 t286.length co48)) (fun _ hk => hk.2) (.slice Ao53 t289.length co53)) (fun _ h_ => h_.1))) (Kd.R_base ho55) hb); have n4_ := Aside0.mk (Kd.V_elder' (by (with_reducible repeat (first | apply Kd.V_alloc | apply Kd.V_drewN | apply Kd.V_drew)); exact (Kd.V_mono (Kd.V_far (p := ⟨gb295, 1, none⟩) (Kd.V_far (p := ⟨gb295, 0, none⟩) (Kd.V_mono HO_265001.out (fun k_ hk => (⟨hk, hk.2⟩ : _ ∧ k_ ≠ gb295))) (fun _ hk => hk.2) (.slice Ao48 t286.length co48)) (fun _ hk => hk.2) (.slice Ao53 t289.length co53)) (fun _ h_ => h_.1))) (Kd.R_base ho55) hb); have n5_ := Aside0.mk (Kd.V_elder' (by (with_reducible repeat (first | apply Kd.V_alloc | apply Kd.V_drewN | apply Kd.V_drew)); exact (Kd.V_mono (Kd.V_far (p := ⟨gb295, 1, none⟩) (Kd.V_far (p := ⟨gb295, 0, none⟩) (Kd.V_mono HO_284000.out (fun k_ hk => (⟨hk, hk.2⟩ : _ ∧ k_ ≠ gb295))) (fun _ hk => hk.2) (.slice Ao48 t286.length co48)) (fun _ hk => hk.2) (.slice Ao53 t289.length co53)) (fun _ h_ => h_.1))) (Kd.R_base ho55) hb); have n6_ := Aside0.mk (Kd.V_elder' (by (with_reducible repeat (first | apply Kd.V_alloc | apply Kd.V_drewN | apply Kd.V_drew)); exact (Kd.V_mono (Kd.V_far (p := ⟨gb295, 1, none⟩) (Kd.V_far (p := ⟨gb295, 0, none⟩) (Kd.V_mono HO_284001.out (fun k_ hk => (⟨hk, hk.2⟩ : _ ∧ k_ ≠ gb295))) (fun _ hk => hk.2) (.slice Ao48 t286.length co48)) (fun _ hk => hk.2) (.slice Ao53 t289.length co53)) (fun _ h_ => h_.1))) (Kd.R_base ho55) hb); have n7_ := Aside0.mk (Kd.V_elder' (by (with_reducible repeat (first | apply Kd.V_alloc | apply Kd.V_drewN | apply Kd.V_drew)); exact (Kd.V_mono (Kd.V_far (p := ⟨gb295, 1, none⟩) (Kd.V_far (p := ⟨gb295, 0, none⟩) (Kd.V_mono HO_285000.out (fun k_ hk => (⟨hk, hk.2⟩ : _ ∧ k_ ≠ gb295))) (fun _ hk => hk.2) (.slice Ao48 t286.length co48)) (fun _ hk => hk.2) (.slice Ao53 t289.length co53)) (fun _ h_ => h_.1))) (Kd.R_base ho55) hb); have n8_ := Aside0.mk (Kd.V_elder' (by (with_reducible repeat (first | apply Kd.V_alloc | apply Kd.V_drewN | apply Kd.V_drew)); exact (Kd.V_mono (Kd.V_far (p := ⟨gb295, 1, none⟩) (Kd.V_far (p := ⟨gb295, 0, none⟩) (Kd.V_mono HO_285001.out (fun k_ hk => (⟨hk, hk.2⟩ : _ ∧ k_ ≠ gb295))) (fun _ hk => hk.2) (.slice Ao48 t286.length co48)) (fun _ hk => hk.2) (.slice Ao53 t289.length co53)) (fun _ h_ => h_.1))) (Kd.R_base ho55) hb); have n9_ := Aside0.mk (Kd.V_elder' (by (with_reducible repeat (first | apply Kd.V_alloc | apply Kd.V_drewN | apply Kd.V_drew)); exact (Kd.V_mono (Kd.V_far (p := ⟨gb295, 1, none⟩) (Kd.V_far (p := ⟨gb295, 0, none⟩) (Kd.V_mono HO288.out (fun k_ hk => (⟨hk, hk.2⟩ : _ ∧ k_ ≠ gb295))) (fun _ hk => hk.2) (.slice Ao48 t286.length co48)) (fun _ hk => hk.2) (.slice Ao53 t289.length co53)) (fun _ h_ => h_.1))) (Kd.R_base ho55) hb); have n10_ := Aside0.mk (Kd.V_elder' (by (with_reducible repeat (first | apply Kd.V_alloc | apply Kd.V_drewN | apply Kd.V_drew)); exact (Kd.V_mono (Kd.V_far (p := ⟨gb295, 1, none⟩) (Kd.V_far (p := ⟨gb295, 0, none⟩) (Kd.V_mono HO291.out (fun k_ hk => (⟨hk, hk.2⟩ : _ ∧ k_ ≠ gb295))) (fun _ hk => hk.2) (.slice Ao48 t286.length co48)) (fun _ hk => hk.2) (.slice Ao53 t289.length co53)) (fun _ h_ => h_.1))) (Kd.R_base ho55) hb); have n11_ := Aside0.mk (Kd.V_elder' (by (with_reducible repeat (first | apply Kd.V_alloc | apply Kd.V_drewN | apply Kd.V_drew)); exact (Kd.V_mono (Kd.V_far (p := ⟨gb295, 1, none⟩) (Kd.V_far (p := ⟨gb295, 0, none⟩) (Kd.V_mono HO294.out (fun k_ hk => (⟨hk, hk.2⟩ : _ ∧ k_ ≠ gb295))) (fun _ hk => hk.2) (.slice Ao48 t286.length co48)) (fun _ hk => hk.2) (.slice Ao53 t289.length co53)) (fun _ h_ => h_.1))) (Kd.R_base ho55) hb); have n12_ := Aside0.mk (Kd.R_lower (Kd.R_new' (Kd.R_new' (Kd.R_newM (M := fun k_ => (w.heap.size ≤ k_)) ho55 (below_size (zc4 HB GE264 GE283 GE284 GE295)) (fun k_ h_ => h_)) (Kd.R_lt (by (with_reducible repeat (first | apply Kd.R_alloc | apply Kd.R_drewN | apply Kd.R_drew)); exact (Kd.R_mono (Kd.R_far (p := ⟨gb295, 1, none⟩) (Kd.R_far (p := ⟨gb295, 0, none⟩) (Kd.R_types HO_3.out BK295.out (by decide)) (fun _ hk => hk.2) (.slice Ao48 t286.length co48)) (fun _ hk => hk.2) (.slice Ao53 t289.length co53)) (fun _ h_ => h_.1))))) (Kd.R_lt (by (with_reducible repeat (first | apply Kd.R_alloc | apply Kd.R_drewN | apply Kd.R_drew)); exact (Kd.R_mono (Kd.R_far (p := ⟨gb295, 1, none⟩) (Kd.R_far (p := ⟨gb295, 0, none⟩) (Kd.R_types HO_34.out BK295.out (by decide)) (fun _ hk => hk.2) (.slice Ao48 t286.length co48)) (fun _ hk => hk.2) (.slice Ao53 t289.length co53)) (fun _ h_ => h_.1))))) (below_size (zc4 HB GE264 GE283 GE284 GE295))); have n13_ := Aside0.mk (blk_below (g := gb264) (o := .cells #[.slice A0_0 l0_0.length c0_0, .slice A0_1 l0_1.length c0_1] 24 (0, 0)) (by (with_reducible repeat (first | refine blk_drewN ?_ _ | refine blk_drew ?_ | refine blk_alloc ?_ _)); refine blk_far ?_ NB264_295.out _; (with_reducible repeat (first | refine blk_drewN ?_ _ | refine blk_drew ?_ | refine blk_alloc ?_ _)); refine blk_far ?_ NB264_295.out _; (with_reducible repeat (first | refine blk_drewN ?_ _ | refine blk_drew ?_ | refine blk_alloc ?_ _)); exact BK264.out) hb); have n14_ := Aside0.mk (blk_below (g := gb283) (o := .cells #[.slice Ao25 t274.length co25, .slice Ao28 t277.length co28] 24 (0, 0)) (by (with_reducible repeat (first | refine blk_drewN ?_ _ | refine blk_drew ?_ | refine blk_alloc ?_ _)); refine blk_far ?_ NB283_295.out _; (with_reducible repeat (first | refine blk_drewN ?_ _ | refine blk_drew ?_ | refine blk_alloc ?_ _)); refine blk_far ?_ NB283_295.out _; (with_reducible repeat (first | refine blk_drewN ?_ _ | refine blk_drew ?_ | refine blk_alloc ?_ _)); exact BK283.out) hb); have n15_ := Aside0.mk (blk_below (g := gb284) (o := .cells #[.slice Ao44 x285000_2.length co44, .slice Ao45 x285001_2.length co45] 24 (0, 0)) (by (with_reducible repeat (first | refine blk_drewN ?_ _ | refine blk_drew ?_ | refine blk_alloc ?_ _)); refine blk_far ?_ NB284_295.out _; (with_reducible repeat (first | refine blk_drewN ?_ _ | refine blk_drew ?_ | refine blk_alloc ?_ _)); refine blk_far ?_ NB284_295.out _; (with_reducible repeat (first | refine blk_drewN ?_ _ | refine blk_drew ?_ | refine blk_alloc ?_ _)); exact BK284.out) hb); have n16_ := Aside0.mk (blk_below (g := gb295) (o := .cells #[.slice Ao48 t286.length co48, .slice Ao53 t289.length co53] 24 (0, 0)) (by (with_reducible repeat (first | refine blk_drewN ?_ _ | refine blk_drew ?_ | refine blk_alloc ?_ _)); refine blk_put (cs := #[.slice Ao48 t286.length co48, .slice none 0 0]) ?_ 1 _ rfl; (with_reducible repeat (first | refine blk_drewN ?_ _ | refine blk_drew ?_ | refine blk_alloc ?_ _)); refine blk_put (cs := #[.slice none 0 0, .slice none 0 0]) ?_ 0 _ rfl; (with_reducible repeat (first | refine blk_drewN ?_ _ | refine blk_drew ?_ | refine blk_alloc ?_ _)); exact BK295.out) hb); have n17_ := Aside0.mk (below_step (zc4 HB GE264 GE283 GE284 GE295) hb); clear HO_3; clear HO_5; clear HO_34; clear HO_265000; clear HO_265001; clear HO_284000; clear HO_284001; clear HO_285000; clear HO_285001; clear HO288; clear HO291; clear HO294; clear BK264; clear BK283; clear BK284; clear BK295; clear HB; have HO_3 := n0_; have HO_5 := n1_; have HO_34 := n2_; have HO_265000 := n3_; have HO_265001 := n4_; have HO_284000 := n5_; have HO_284001 := n6_; have HO_285000 := n7_; have HO_285001 := n8_; have HO288 := n9_; have HO291 := n10_; have HO294 := n11_; have HO298 := n12_; have BK264 := n13_; have BK283 := n14_; have BK284 := n15_; have BK295 := n16_; have HB := n17_; clear n0_ n1_ n2_ n3_ n4_ n5_ n6_ n7_ n8_ n9_ n10_ n11_ n12_ n13_ n14_ n15_ n16_ n17_; clear hb ho55; obtain ⟨Ao56, co56, eo56⟩ := Kd.V_slice HO294.out; subst eo56; obtain ⟨Ao57, co57, eo57⟩ := Kd.R_slice HO298.out; subst eo57) | ((with_reducible refine gate_callee (f := 22) rfl ?_); refine goesL_ (some 48) rfl rfl Try.func22 (by kernel_rfl) rfl #[.slice Ao56 t292.length co56, .slice Ao57 y296.length co57] rfl zm ?_; (with_reducible refine (handshakerref03_Numbers.calls k2 _ _ t292 _ _ y296 true _ ?side1 ?side2 ?side3 ?side4 A39.out).mono ?_); (case side1 => repeat (first | exact (Kd.V_reads' HO294.out).2.2 | (with_reducible refine Kd.C_alloc ?_ _) | (with_reducible refine Kd.C_drewN ?_ _) | (with_reducible refine Kd.C_drew ?_))); (case side2 => exact (Kd.V_reads' HO294.out).2.1); (case side3 => repeat (first | exact (Kd.R_reads' HO298.out).2.2 | (with_reducible refine Kd.C_alloc ?_ _) | (with_reducible refine Kd.C_drewN ?_ _) | (with_reducible refine Kd.C_drew ?_))); (case side4 => exact (Kd.R_reads' HO298.out).2.1); rintro e w' ⟨rfl, ⟨nd, rfl⟩⟩; refine ⟨_, rfl, ?_⟩; (try (rw [drewN_self w54]; generalize hq_ : World.drewN w54 _ = w54; have n0_ : Aside0 (Kd.V (Kd.int .i64) 3 w54 w.heap.size (fun k_ => ((P0_0_ k_ ∨ P0_1_ k_) ∨ w.heap.size ≤ k_) ∧ some k_ ≠ (.slice Ao57 y296.length co57 : Value).ownBlock ∧ some k_ ≠ (.slice (some ad285) y271.length co34 : Value).ownBlock ∧ some k_ ≠ (.slice (some ad285) y271.length co34 : Value).ownBlock ∧ k_ ≠ gb264 ∧ k_ ≠ gb283 ∧ k_ ≠ gb284 ∧ k_ ≠ gb295) (.slice Ao48 t286.length co48) t286) := ⟨by rw [← hq_]; exact (by (with_reducible repeat (first | apply Kd.V_alloc | apply Kd.V_drewN | apply Kd.V_drew)); exact Kd.V_mono HO288.out (fun _ hk => ⟨hk.1.1.1, ⟨hk.2, ⟨hk.1.1.2.1, ⟨hk.1.1.2.2.1, ⟨hk.1.1.2.2.2.1, ⟨hk.1.1.2.2.2.2.1, ⟨hk.1.1.2.2.2.2.2, hk.1.2⟩⟩⟩⟩⟩⟩⟩))⟩; have n1_ : Aside0 (Kd.V (Kd.int .i64) 3 w54 w.heap.size (fun k_ => ((P0_0_ k_ ∨ P0_1_ k_) ∨ w.heap.size ≤ k_) ∧ some k_ ≠ (.slice Ao57 y296.length co57 : Value).ownBlock ∧ some k_ ≠ (.slice (some ad285) y271.length co34 : Value).ownBlock ∧ some k_ ≠ (.slice (some ad285) y271.length co34 : Value).ownBlock ∧ k_ ≠ gb264 ∧ k_ ≠ gb283 ∧ k_ ≠ gb284 ∧ k_ ≠ gb295) (.slice Ao53 t289.length co53) t289) := ⟨by rw [← hq_]; exact (by (with_reducible repeat (first | apply Kd.V_alloc | apply Kd.V_drewN | apply Kd.V_drew)); exact Kd.V_mono HO291.out (fun _ hk => ⟨hk.1.1.1, ⟨hk.2, ⟨hk.1.1.2.1, ⟨hk.1.1.2.2.1, ⟨hk.1.1.2.2.2.1, ⟨hk.1.1.2.2.2.2.1, ⟨hk.1.1.2.2.2.2.2, hk.1.2⟩⟩⟩⟩⟩⟩⟩))⟩; have n2_ : Aside0 (Kd.V (Kd.int .i64) 3 w54 w.heap.size (fun k_ => ((P0_0_ k_ ∨ P0_1_ k_) ∨ w.heap.size ≤ k_) ∧ some k_ ≠ (.slice Ao57 y296.length co57 : Value).ownBlock ∧ some k_ ≠ (.slice (some ad285) y271.length co34 : Value).ownBlock ∧ some k_ ≠ (.slice (some ad285) y271.length co34 : Value).ownBlock ∧ k_ ≠ gb264 ∧ k_ ≠ gb283 ∧ k_ ≠ gb284 ∧ k_ ≠ gb295) (.slice Ao56 t292.length co56) t292) := ⟨by rw [← hq_]; exact (by (with_reducible repeat (first | apply Kd.V_alloc | apply Kd.V_drewN | apply Kd.V_drew)); exact Kd.V_mono HO294.out (fun _ hk => ⟨hk.1.1.1, ⟨hk.2, ⟨hk.1.1.2.1, ⟨hk.1.1.2.2.1, ⟨hk.1.1.2.2.2.1, ⟨hk.1.1.2.2.2.2.1, ⟨hk.1.1.2.2.2.2.2, hk.1.2⟩⟩⟩⟩⟩⟩⟩))⟩; have n3_ : Aside0 (Kd.R (Kd.int .i64) 3 w54 w.heap.size (fun k_ => (w.heap.size ≤ k_) ∧ some k_ ≠ (.slice (some ad285) y271.length co34 : Value).ownBlock ∧ some k_ ≠ (.slice (some ad285) y271.length co34 : Value).ownBlock) (.slice Ao57 y296.length co57) y296) := ⟨by rw [← hq_]; exact (by (with_reducible repeat (first | apply Kd.R_alloc | apply Kd.R_drewN | apply Kd.R_drew)); exact Kd.R_mono HO298.out (fun _ hk => ⟨hk.1.1.1, ⟨hk.1.2, hk.2⟩⟩))⟩; have n4_ : Aside0 (Kd.V (Kd.int .i64) 3 w54 w.heap.size (fun k_ => ((P0_0_ k_ ∨ P0_1_ k_) ∨ w.heap.size ≤ k_) ∧ some k_ ≠ (.slice Ao57 y296.length co57 : Value).ownBlock ∧ some k_ ≠ (.slice (some ad285) y271.length co34 : Value).ownBlock ∧ some k_ ≠ (.slice (some ad285) y271.length co34 : Value).ownBlock ∧ k_ ≠ gb264 ∧ k_ ≠ gb283 ∧ k_ ≠ gb284 ∧ k_ ≠ gb295) (.slice A0_0 l0_0.length c0_0) l0_0) := ⟨by rw [← hq_]; exact (by (with_reducible repeat (first | apply Kd.V_alloc | apply Kd.V_drewN | apply Kd.V_drew)); exact Kd.V_mono HO_265000.out (fun _ hk => ⟨hk.1.1.1, ⟨hk.2, ⟨hk.1.1.2.1, ⟨hk.1.1.2.2.1, ⟨hk.1.1.2.2.2.1, ⟨hk.1.1.2.2.2.2.1, ⟨hk.1.1.2.2.2.2.2, hk.1.2⟩⟩⟩⟩⟩⟩⟩))⟩; have n5_ : Aside0 (Kd.V (Kd.int .i64) 3 w54 w.heap.size (fun k_ => ((P0_0_ k_ ∨ P0_1_ k_) ∨ w.heap.size ≤ k_) ∧ some k_ ≠ (.slice Ao57 y296.length co57 : Value).ownBlock ∧ some k_ ≠ (.slice (some ad285) y271.length co34 : Value).ownBlock ∧ some k_ ≠ (.slice (some ad285) y271.length co34 : Value).ownBlock ∧ k_ ≠ gb264 ∧ k_ ≠ gb283 ∧ k_ ≠ gb284 ∧ k_ ≠ gb295) (.slice A0_1 l0_1.length c0_1) l0_1) := ⟨by rw [← hq_]; exact (by (with_reducible repeat (first | apply Kd.V_alloc | apply Kd.V_drewN | apply Kd.V_drew)); exact Kd.V_mono HO_265001.out (fun _ hk => ⟨hk.1.1.1, ⟨hk.2, ⟨hk.1.1.2.1, ⟨hk.1.1.2.2.1, ⟨hk.1.1.2.2.2.1, ⟨hk.1.1.2.2.2.2.1, ⟨hk.1.1.2.2.2.2.2, hk.1.2⟩⟩⟩⟩⟩⟩⟩))⟩; have n6_ : Aside0 (Kd.V (Kd.int .i64) 3 w54 w.heap.size (fun k_ => ((P0_0_ k_ ∨ P0_1_ k_) ∨ w.heap.size ≤ k_) ∧ some k_ ≠ (.slice Ao57 y296.length co57 : Value).ownBlock ∧ some k_ ≠ (.slice (some ad285) y271.length co34 : Value).ownBlock ∧ some k_ ≠ (.slice (some ad285) y271.length co34 : Value).ownBlock ∧ k_ ≠ gb264 ∧ k_ ≠ gb283 ∧ k_ ≠ gb284 ∧ k_ ≠ gb295) (.slice Ao25 t274.length co25) t274) := ⟨by rw [← hq_]; exact (by (with_reducible repeat (first | apply Kd.V_alloc | apply Kd.V_drewN | apply Kd.V_drew)); exact Kd.V_mono HO_284000.out (fun _ hk => ⟨hk.1.1.1, ⟨hk.2, ⟨hk.1.1.2.1, ⟨hk.1.1.2.2.1, ⟨hk.1.1.2.2.2.1, ⟨hk.1.1.2.2.2.2.1, ⟨hk.1.1.2.2.2.2.2, hk.1.2⟩⟩⟩⟩⟩⟩⟩))⟩; have n7_ : Aside0 (Kd.V (Kd.int .i64) 3 w54 w.heap.size (fun k_ => ((P0_0_ k_ ∨ P0_1_ k_) ∨ w.heap.size ≤ k_) ∧ some k_ ≠ (.slice Ao57 y296.length co57 : Value).ownBlock ∧ some k_ ≠ (.slice (some ad285) y271.length co34 : Value).ownBlock ∧ some k_ ≠ (.slice (some ad285) y271.length co34 : Value).ownBlock ∧ k_ ≠ gb264 ∧ k_ ≠ gb283 ∧ k_ ≠ gb284 ∧ k_ ≠ gb295) (.slice Ao28 t277.length co28) t277) := ⟨by rw [← hq_]; exact (by (with_reducible repeat (first | apply Kd.V_alloc | apply Kd.V_drewN | apply Kd.V_drew)); exact Kd.V_mono HO_284001.out (fun _ hk => ⟨hk.1.1.1, ⟨hk.2, ⟨hk.1.1.2.1, ⟨hk.1.1.2.2.1, ⟨hk.1.1.2.2.2.1, ⟨hk.1.1.2.2.2.2.1, ⟨hk.1.1.2.2.2.2.2, hk.1.2⟩⟩⟩⟩⟩⟩⟩))⟩; have n8_ : Aside0 (Kd.V (Kd.int .i64) 3 w54 w.heap.size (fun k_ => ((P0_0_ k_ ∨ P0_1_ k_) ∨ w.heap.size ≤ k_) ∧ some k_ ≠ (.slice Ao57 y296.length co57 : Value).ownBlock ∧ some k_ ≠ (.slice (some ad285) y271.length co34 : Value).ownBlock ∧ some k_ ≠ (.slice (some ad285) y271.length co34 : Value).ownBlock ∧ k_ ≠ gb264 ∧ k_ ≠ gb283 ∧ k_ ≠ gb284 ∧ k_ ≠ gb295) (.slice Ao44 x285000_2.length co44) x285000_2) := ⟨by rw [← hq_]; exact (by (with_reducible repeat (first | apply Kd.V_alloc | apply Kd.V_drewN | apply Kd.V_drew)); exact Kd.V_mono HO_285000.out (fun _ hk => ⟨hk.1.1.1, ⟨hk.2, ⟨hk.1.1.2.1, ⟨hk.1.1.2.2.1, ⟨hk.1.1.2.2.2.1, ⟨hk.1.1.2.2.2.2.1, ⟨hk.1.1.2.2.2.2.2, hk.1.2⟩⟩⟩⟩⟩⟩⟩))⟩; have n9_ : Aside0 (Kd.V (Kd.int .i64) 3 w54 w.heap.size (fun k_ => ((P0_0_ k_ ∨ P0_1_ k_) ∨ w.heap.size ≤ k_) ∧ some k_ ≠ (.slice Ao57 y296.length co57 : Value).ownBlock ∧ some k_ ≠ (.slice (some ad285) y271.length co34 : Value).ownBlock ∧ some k_ ≠ (.slice (some ad285) y271.length co34 : Value).ownBlock ∧ k_ ≠ gb264 ∧ k_ ≠ gb283 ∧ k_ ≠ gb284 ∧ k_ ≠ gb295) (.slice Ao45 x285001_2.length co45) x285001_2) := ⟨by rw [← hq_]; exact (by (with_reducible repeat (first | apply Kd.V_alloc | apply Kd.V_drewN | apply Kd.V_drew)); exact Kd.V_mono HO_285001.out (fun _ hk => ⟨hk.1.1.1, ⟨hk.2, ⟨hk.1.1.2.1, ⟨hk.1.1.2.2.1, ⟨hk.1.1.2.2.2.1, ⟨hk.1.1.2.2.2.2.1, ⟨hk.1.1.2.2.2.2.2, hk.1.2⟩⟩⟩⟩⟩⟩⟩))⟩; have n10_ : Aside0 (Kd.R (Kd.int .i64) 3 w54 w.heap.size (fun k_ => (w.heap.size ≤ k_) ∧ some k_ ≠ (.slice Ao57 y296.length co57 : Value).ownBlock) (.slice (some ad285) y271.length co34) y271) := ⟨by rw [← hq_]; exact (zR HO_3)⟩; have n11_ : Aside0 (Kd.R (Kd.int .i64) 3 w54 w.heap.size (fun k_ => (w.heap.size ≤ k_) ∧ some k_ ≠ (.slice Ao57 y296.length co57 : Value).ownBlock) (.slice (some ad285) y271.length co34) y271) := ⟨by rw [← hq_]; exact (zR HO_34)⟩; have n12_ : Aside0 (Kd.V (Kd.int .i64) 3 w54 w.heap.size (fun k_ => ((P0_0_ k_ ∨ P0_1_ k_) ∨ w.heap.size ≤ k_) ∧ some k_ ≠ (.slice Ao57 y296.length co57 : Value).ownBlock ∧ some k_ ≠ (.slice (some ad285) y271.length co34 : Value).ownBlock ∧ some k_ ≠ (.slice (some ad285) y271.length co34 : Value).ownBlock ∧ k_ ≠ gb264 ∧ k_ ≠ gb283 ∧ k_ ≠ gb284 ∧ k_ ≠ gb295) v281 t280) := ⟨by rw [← hq_]; exact (by (with_reducible repeat (first | apply Kd.V_alloc | apply Kd.V_drewN | apply Kd.V_drew)); exact Kd.V_mono HO_5.out (fun _ hk => ⟨hk.1.1.1, ⟨hk.2, ⟨hk.1.1.2.1, ⟨hk.1.1.2.2.1, ⟨hk.1.1.2.2.2.1, ⟨hk.1.1.2.2.2.2.1, ⟨hk.1.1.2.2.2.2.2, hk.1.2⟩⟩⟩⟩⟩⟩⟩))⟩; have n13_ : Aside0 (w54.heap[gb264]? = some (.cells #[.slice A0_0 l0_0.length c0_0, .slice A0_1 l0_1.length c0_1] 24 (0, 0))) := ⟨by rw [← hq_]; exact (zb BK264)⟩; have n14_ : Aside0 (w54.heap[gb283]? = some (.cells #[.slice Ao25 t274.length co25, .slice Ao28 t277.length co28] 24 (0, 0))) := ⟨by rw [← hq_]; exact (zb BK283)⟩; have n15_ : Aside0 (w54.heap[gb284]? = some (.cells #[.slice Ao44 x285000_2.length co44, .slice Ao45 x285001_2.length co45] 24 (0, 0))) := ⟨by rw [← hq_]; exact (zb BK284)⟩; have n16_ : Aside0 (w54.heap[gb295]? = some (.cells #[.slice Ao48 t286.length co48, .slice Ao53 t289.length co53] 24 (0, 0))) := ⟨by rw [← hq_]; exact (zb BK295)⟩; have n17_ : Aside0 (Below w.heap.size w w54) := ⟨by rw [← hq_]; exact (zc4 HB GE264 GE283 GE284 GE295)⟩; clear HO288 HO291 HO294 HO298 HO_265000 HO_265001 HO_284000 HO_284001 HO_285000 HO_285001 HO_3 HO_34 HO_5 BK264 BK283 BK284 BK295 HB hq_; have HO288 := n0_; have HO291 := n1_; have HO294 := n2_; have HO298 := n3_; have HO_265000 := n4_; have HO_265001 := n5_; have HO_284000 := n6_; have HO_284001 := n7_; have HO_285000 := n8_; have HO_285001 := n9_; have HO_3 := n10_; have HO_34 := n11_; have HO_5 := n12_; have BK264 := n13_; have BK283 := n14_; have BK284 := n15_; have BK295 := n16_; have HB := n17_; clear n0_ n1_ n2_ n3_ n4_ n5_ n6_ n7_ n8_ n9_ n10_ n11_ n12_ n13_ n14_ n15_ n16_ n17_)); have n_ := Aside0.mk (Kd.V_mono (ok' := (fun k_ => ((P0_0_ k_ ∨ P0_1_ k_) ∨ w.heap.size ≤ k_) ∧ some k_ ≠ (.slice Ao57 y296.length co57 : Value).ownBlock ∧ some k_ ≠ (.slice (some ad285) y271.length co34 : Value).ownBlock ∧ some k_ ≠ (.slice (some ad285) y271.length co34 : Value).ownBlock ∧ k_ ≠ gb264 ∧ k_ ≠ gb283 ∧ k_ ≠ gb284 ∧ k_ ≠ gb295)) HO288.out (fun k_ hk => by first | exact hk | exact ⟨hk.1.1.1, ⟨hk.2, ⟨hk.1.1.2.1, ⟨hk.1.1.2.2.1, ⟨hk.1.1.2.2.2.1, ⟨hk.1.1.2.2.2.2.1, ⟨hk.1.1.2.2.2.2.2, hk.1.2⟩⟩⟩⟩⟩⟩⟩)); clear HO288; have HO288 := n_; clear n_; have n_ := Aside0.mk (Kd.V_mono (ok' := (fun k_ => ((P0_0_ k_ ∨ P0_1_ k_) ∨ w.heap.size ≤ k_) ∧ some k_ ≠ (.slice Ao57 y296.length co57 : Value).ownBlock ∧ some k_ ≠ (.slice (some ad285) y271.length co34 : Value).ownBlock ∧ some k_ ≠ (.slice (some ad285) y271.length co34 : Value).ownBlock ∧ k_ ≠ gb264 ∧ k_ ≠ gb283 ∧ k_ ≠ gb284 ∧ k_ ≠ gb295)) HO291.out (fun k_ hk => by first | exact hk | exact ⟨hk.1.1.1, ⟨hk.2, ⟨hk.1.1.2.1, ⟨hk.1.1.2.2.1, ⟨hk.1.1.2.2.2.1, ⟨hk.1.1.2.2.2.2.1, ⟨hk.1.1.2.2.2.2.2, hk.1.2⟩⟩⟩⟩⟩⟩⟩)); clear HO291; have HO291 := n_; clear n_; have n_ := Aside0.mk (Kd.V_mono (ok' := (fun k_ => ((P0_0_ k_ ∨ P0_1_ k_) ∨ w.heap.size ≤ k_) ∧ some k_ ≠ (.slice Ao57 y296.length co57 : Value).ownBlock ∧ some k_ ≠ (.slice (some ad285) y271.length co34 : Value).ownBlock ∧ some k_ ≠ (.slice (some ad285) y271.length co34 : Value).ownBlock ∧ k_ ≠ gb264 ∧ k_ ≠ gb283 ∧ k_ ≠ gb284 ∧ k_ ≠ gb295)) HO294.out (fun k_ hk => by first | exact hk | exact ⟨hk.1.1.1, ⟨hk.2, ⟨hk.1.1.2.1, ⟨hk.1.1.2.2.1, ⟨hk.1.1.2.2.2.1, ⟨hk.1.1.2.2.2.2.1, ⟨hk.1.1.2.2.2.2.2, hk.1.2⟩⟩⟩⟩⟩⟩⟩)); clear HO294; have HO294 := n_; clear n_; have n_ := Aside0.mk (Kd.R_mono (ok' := (fun k_ => (w.heap.size ≤ k_) ∧ some k_ ≠ (.slice (some ad285) y271.length co34 : Value).ownBlock ∧ some k_ ≠ (.slice (some ad285) y271.length co34 : Value).ownBlock)) HO298.out (fun k_ hk => by first | exact hk | exact ⟨hk.1.1.1, ⟨hk.1.2, hk.2⟩⟩)); clear HO298; have HO298 := n_; clear n_; have n_ := Aside0.mk (Kd.V_mono (ok' := (fun k_ => ((P0_0_ k_ ∨ P0_1_ k_) ∨ w.heap.size ≤ k_) ∧ some k_ ≠ (.slice Ao57 y296.length co57 : Value).ownBlock ∧ some k_ ≠ (.slice (some ad285) y271.length co34 : Value).ownBlock ∧ some k_ ≠ (.slice (some ad285) y271.length co34 : Value).ownBlock ∧ k_ ≠ gb264 ∧ k_ ≠ gb283 ∧ k_ ≠ gb284 ∧ k_ ≠ gb295)) HO_265000.out (fun k_ hk => by first | exact hk | exact ⟨hk.1.1.1, ⟨hk.2, ⟨hk.1.1.2.1, ⟨hk.1.1.2.2.1, ⟨hk.1.1.2.2.2.1, ⟨hk.1.1.2.2.2.2.1, ⟨hk.1.1.2.2.2.2.2, hk.1.2⟩⟩⟩⟩⟩⟩⟩)); clear HO_265000; have HO_265000 := n_; clear n_; have n_ := Aside0.mk (Kd.V_mono (ok' := (fun k_ => ((P0_0_ k_ ∨ P0_1_ k_) ∨ w.heap.size ≤ k_) ∧ some k_ ≠ (.slice Ao57 y296.length co57 : Value).ownBlock ∧ some k_ ≠ (.slice (some ad285) y271.length co34 : Value).ownBlock ∧ some k_ ≠ (.slice (some ad285) y271.length co34 : Value).ownBlock ∧ k_ ≠ gb264 ∧ k_ ≠ gb283 ∧ k_ ≠ gb284 ∧ k_ ≠ gb295)) HO_265001.out (fun k_ hk => by first | exact hk | exact ⟨hk.1.1.1, ⟨hk.2, ⟨hk.1.1.2.1, ⟨hk.1.1.2.2.1, ⟨hk.1.1.2.2.2.1, ⟨hk.1.1.2.2.2.2.1, ⟨hk.1.1.2.2.2.2.2, hk.1.2⟩⟩⟩⟩⟩⟩⟩)); clear HO_265001; have HO_265001 := n_; clear n_; have n_ := Aside0.mk (Kd.V_mono (ok' := (fun k_ => ((P0_0_ k_ ∨ P0_1_ k_) ∨ w.heap.size ≤ k_) ∧ some k_ ≠ (.slice Ao57 y296.length co57 : Value).ownBlock ∧ some k_ ≠ (.slice (some ad285) y271.length co34 : Value).ownBlock ∧ some k_ ≠ (.slice (some ad285) y271.length co34 : Value).ownBlock ∧ k_ ≠ gb264 ∧ k_ ≠ gb283 ∧ k_ ≠ gb284 ∧ k_ ≠ gb295)) HO_284000.out (fun k_ hk => by first | exact hk | exact ⟨hk.1.1.1, ⟨hk.2, ⟨hk.1.1.2.1, ⟨hk.1.1.2.2.1, ⟨hk.1.1.2.2.2.1, ⟨hk.1.1.2.2.2.2.1, ⟨hk.1.1.2.2.2.2.2, hk.1.2⟩⟩⟩⟩⟩⟩⟩)); clear HO_284000; have HO_284000 := n_; clear n_; have n_ := Aside0.mk (Kd.V_mono (ok' := (fun k_ => ((P0_0_ k_ ∨ P0_1_ k_) ∨ w.heap.size ≤ k_) ∧ some k_ ≠ (.slice Ao57 y296.length co57 : Value).ownBlock ∧ some k_ ≠ (.slice (some ad285) y271.length co34 : Value).ownBlock ∧ some k_ ≠ (.slice (some ad285) y271.length co34 : Value).ownBlock ∧ k_ ≠ gb264 ∧ k_ ≠ gb283 ∧ k_ ≠ gb284 ∧ k_ ≠ gb295)) HO_284001.out (fun k_ hk => by first | exact hk | exact ⟨hk.1.1.1, ⟨hk.2, ⟨hk.1.1.2.1, ⟨hk.1.1.2.2.1, ⟨hk.1.1.2.2.2.1, ⟨hk.1.1.2.2.2.2.1, ⟨hk.1.1.2.2.2.2.2, hk.1.2⟩⟩⟩⟩⟩⟩⟩)); clear HO_284001; have HO_284001 := n_; clear n_; have n_ := Aside0.mk (Kd.V_mono (ok' := (fun k_ => ((P0_0_ k_ ∨ P0_1_ k_) ∨ w.heap.size ≤ k_) ∧ some k_ ≠ (.slice Ao57 y296.length co57 : Value).ownBlock ∧ some k_ ≠ (.slice (some ad285) y271.length co34 : Value).ownBlock ∧ some k_ ≠ (.slice (some ad285) y271.length co34 : Value).ownBlock ∧ k_ ≠ gb264 ∧ k_ ≠ gb283 ∧ k_ ≠ gb284 ∧ k_ ≠ gb295)) HO_285000.out (fun k_ hk => by first | exact hk | exact ⟨hk.1.1.1, ⟨hk.2, ⟨hk.1.1.2.1, ⟨hk.1.1.2.2.1, ⟨hk.1.1.2.2.2.1, ⟨hk.1.1.2.2.2.2.1, ⟨hk.1.1.2.2.2.2.2, hk.1.2⟩⟩⟩⟩⟩⟩⟩)); clear HO_285000; have HO_285000 := n_; clear n_; have n_ := Aside0.mk (Kd.V_mono (ok' := (fun k_ => ((P0_0_ k_ ∨ P0_1_ k_) ∨ w.heap.size ≤ k_) ∧ some k_ ≠ (.slice Ao57 y296.length co57 : Value).ownBlock ∧ some k_ ≠ (.slice (some ad285) y271.length co34 : Value).ownBlock ∧ some k_ ≠ (.slice (some ad285) y271.length co34 : Value).ownBlock ∧ k_ ≠ gb264 ∧ k_ ≠ gb283 ∧ k_ ≠ gb284 ∧ k_ ≠ gb295)) HO_285001.out (fun k_ hk => by first | exact hk | exact ⟨hk.1.1.1, ⟨hk.2, ⟨hk.1.1.2.1, ⟨hk.1.1.2.2.1, ⟨hk.1.1.2.2.2.1, ⟨hk.1.1.2.2.2.2.1, ⟨hk.1.1.2.2.2.2.2, hk.1.2⟩⟩⟩⟩⟩⟩⟩)); clear HO_285001; have HO_285001 := n_; clear n_; have n_ := Aside0.mk (Kd.V_mono (ok' := (fun k_ => ((P0_0_ k_ ∨ P0_1_ k_) ∨ w.heap.size ≤ k_) ∧ some k_ ≠ (.slice Ao57 y296.length co57 : Value).ownBlock ∧ some k_ ≠ (.slice (some ad285) y271.length co34 : Value).ownBlock ∧ some k_ ≠ (.slice (some ad285) y271.length co34 : Value).ownBlock ∧ k_ ≠ gb264 ∧ k_ ≠ gb283 ∧ k_ ≠ gb284 ∧ k_ ≠ gb295)) HO_5.out (fun k_ hk => by first | exact hk | exact ⟨hk.1.1.1, ⟨hk.2, ⟨hk.1.1.2.1, ⟨hk.1.1.2.2.1, ⟨hk.1.1.2.2.2.1, ⟨hk.1.1.2.2.2.2.1, ⟨hk.1.1.2.2.2.2.2, hk.1.2⟩⟩⟩⟩⟩⟩⟩)); clear HO_5; have HO_5 := n_; clear n_; have hcz58_0 : w54.cell? ⟨gb295, 0, none⟩ = some (.slice Ao48 t286.length co48) := (blk_cell BK295.out 0).trans rfl; have hcz58_1 : w54.cell? ⟨gb295, 1, none⟩ = some (.slice Ao53 t289.length co53) := (blk_cell BK295.out 1).trans rfl; have hfz58_0 := blk_frozen BK295.out 0; have hfz58_1 := blk_frozen BK295.out 1; have hcz59_0 : w54.cell? ⟨gb284, 0, none⟩ = some (.slice Ao44 x285000_2.length co44) := (blk_cell BK284.out 0).trans rfl; have hcz59_1 : w54.cell? ⟨gb284, 1, none⟩ = some (.slice Ao45 x285001_2.length co45) := (blk_cell BK284.out 1).trans rfl; have hfz59_0 := blk_frozen BK284.out 0; have hfz59_1 := blk_frozen BK284.out 1))
           go_roundg k2
           case measure => have := HJ1.out; have := HK2.out; omega
           case rel => exact ⟨(wrap64 (x36_2 + 1)), (t286), (t289), (.slice Ao48 t286.length co48), (.slice Ao53 t289.length co53), (by first | rfl | (simp; done) | (simp [*]; done)), H', ⟨by have := HJ1.out; have := HK2.out; omega⟩, ⟨by (with_reducible repeat (first | apply Kd.R_alloc | apply Kd.R_drewN | apply Kd.R_drew)); exact Kd.R_mono (Kd.R_far (p := ⟨gb284, 1, none⟩) (Kd.R_far (p := ⟨gb284, 0, none⟩) (Kd.R_types HO_3.out BK284.out (by decide)) (fun _ hk => hk.2) (.slice Ao48 t286.length co48)) (fun _ hk => hk.2) (.slice Ao53 t289.length co53)) (fun _ hk => hk.1.1)⟩, ⟨by (with_reducible repeat (first | apply Kd.V_alloc | apply Kd.V_drewN | apply Kd.V_drew)); exact Kd.V_mono (Kd.V_far (p := ⟨gb284, 1, none⟩) (Kd.V_far (p := ⟨gb284, 0, none⟩) (Kd.V_mono HO_5.out (fun k_ hk => (⟨hk, hk.2.2.2.2.2.2.1⟩ : _ ∧ k_ ≠ gb284))) (fun _ hk => hk.2) (.slice Ao48 t286.length co48)) (fun _ hk => hk.2) (.slice Ao53 t289.length co53)) (fun _ hk => ⟨hk.1.1, ⟨hk.1.2.2.1, ⟨hk.1.2.2.2.1, ⟨hk.1.2.2.2.2.1, ⟨hk.1.2.2.2.2.2.1, hk.1.2.2.2.2.2.2.1⟩⟩⟩⟩⟩)⟩, ⟨by (with_reducible repeat (first | apply Kd.R_alloc | apply Kd.R_drewN | apply Kd.R_drew)); exact Kd.R_mono (Kd.R_far (p := ⟨gb284, 1, none⟩) (Kd.R_far (p := ⟨gb284, 0, none⟩) (Kd.R_types HO_34.out BK284.out (by decide)) (fun _ hk => hk.2) (.slice Ao48 t286.length co48)) (fun _ hk => hk.2) (.slice Ao53 t289.length co53)) (fun _ hk => hk.1.1)⟩, ⟨by (with_reducible repeat (first | apply Kd.V_alloc | apply Kd.V_drewN | apply Kd.V_drew)); exact Kd.V_mono (Kd.V_far (p := ⟨gb284, 1, none⟩) (Kd.V_far (p := ⟨gb284, 0, none⟩) (Kd.V_mono HO_265000.out (fun k_ hk => (⟨hk, hk.2.2.2.2.2.2.1⟩ : _ ∧ k_ ≠ gb284))) (fun _ hk => hk.2) (.slice Ao48 t286.length co48)) (fun _ hk => hk.2) (.slice Ao53 t289.length co53)) (fun _ hk => ⟨hk.1.1, ⟨hk.1.2.2.1, ⟨hk.1.2.2.2.1, ⟨hk.1.2.2.2.2.1, ⟨hk.1.2.2.2.2.2.1, hk.1.2.2.2.2.2.2.1⟩⟩⟩⟩⟩)⟩, ⟨by (with_reducible repeat (first | apply Kd.V_alloc | apply Kd.V_drewN | apply Kd.V_drew)); exact Kd.V_mono (Kd.V_far (p := ⟨gb284, 1, none⟩) (Kd.V_far (p := ⟨gb284, 0, none⟩) (Kd.V_mono HO_265001.out (fun k_ hk => (⟨hk, hk.2.2.2.2.2.2.1⟩ : _ ∧ k_ ≠ gb284))) (fun _ hk => hk.2) (.slice Ao48 t286.length co48)) (fun _ hk => hk.2) (.slice Ao53 t289.length co53)) (fun _ hk => ⟨hk.1.1, ⟨hk.1.2.2.1, ⟨hk.1.2.2.2.1, ⟨hk.1.2.2.2.2.1, ⟨hk.1.2.2.2.2.2.1, hk.1.2.2.2.2.2.2.1⟩⟩⟩⟩⟩)⟩, ⟨by (with_reducible repeat (first | apply Kd.V_alloc | apply Kd.V_drewN | apply Kd.V_drew)); exact Kd.V_mono (Kd.V_far (p := ⟨gb284, 1, none⟩) (Kd.V_far (p := ⟨gb284, 0, none⟩) (Kd.V_mono HO_284000.out (fun k_ hk => (⟨hk, hk.2.2.2.2.2.2.1⟩ : _ ∧ k_ ≠ gb284))) (fun _ hk => hk.2) (.slice Ao48 t286.length co48)) (fun _ hk => hk.2) (.slice Ao53 t289.length co53)) (fun _ hk => ⟨hk.1.1, ⟨hk.1.2.2.1, ⟨hk.1.2.2.2.1, ⟨hk.1.2.2.2.2.1, ⟨hk.1.2.2.2.2.2.1, hk.1.2.2.2.2.2.2.1⟩⟩⟩⟩⟩)⟩, ⟨by (with_reducible repeat (first | apply Kd.V_alloc | apply Kd.V_drewN | apply Kd.V_drew)); exact Kd.V_mono (Kd.V_far (p := ⟨gb284, 1, none⟩) (Kd.V_far (p := ⟨gb284, 0, none⟩) (Kd.V_mono HO_284001.out (fun k_ hk => (⟨hk, hk.2.2.2.2.2.2.1⟩ : _ ∧ k_ ≠ gb284))) (fun _ hk => hk.2) (.slice Ao48 t286.length co48)) (fun _ hk => hk.2) (.slice Ao53 t289.length co53)) (fun _ hk => ⟨hk.1.1, ⟨hk.1.2.2.1, ⟨hk.1.2.2.2.1, ⟨hk.1.2.2.2.2.1, ⟨hk.1.2.2.2.2.2.1, hk.1.2.2.2.2.2.2.1⟩⟩⟩⟩⟩)⟩, ⟨by (with_reducible repeat (first | apply Kd.V_alloc | apply Kd.V_drewN | apply Kd.V_drew)); exact Kd.V_mono (Kd.V_far (p := ⟨gb284, 1, none⟩) (Kd.V_far (p := ⟨gb284, 0, none⟩) (Kd.V_mono HO288.out (fun k_ hk => (⟨hk, hk.2.2.2.2.2.2.1⟩ : _ ∧ k_ ≠ gb284))) (fun _ hk => hk.2) (.slice Ao48 t286.length co48)) (fun _ hk => hk.2) (.slice Ao53 t289.length co53)) (fun _ hk => ⟨hk.1.1, ⟨hk.1.2.2.1, ⟨hk.1.2.2.2.1, ⟨hk.1.2.2.2.2.1, ⟨hk.1.2.2.2.2.2.1, hk.1.2.2.2.2.2.2.1⟩⟩⟩⟩⟩)⟩, ⟨by (with_reducible repeat (first | apply Kd.V_alloc | apply Kd.V_drewN | apply Kd.V_drew)); exact Kd.V_mono (Kd.V_far (p := ⟨gb284, 1, none⟩) (Kd.V_far (p := ⟨gb284, 0, none⟩) (Kd.V_mono HO291.out (fun k_ hk => (⟨hk, hk.2.2.2.2.2.2.1⟩ : _ ∧ k_ ≠ gb284))) (fun _ hk => hk.2) (.slice Ao48 t286.length co48)) (fun _ hk => hk.2) (.slice Ao53 t289.length co53)) (fun _ hk => ⟨hk.1.1, ⟨hk.1.2.2.1, ⟨hk.1.2.2.2.1, ⟨hk.1.2.2.2.2.1, ⟨hk.1.2.2.2.2.2.1, hk.1.2.2.2.2.2.2.1⟩⟩⟩⟩⟩)⟩, ⟨by (with_reducible repeat (first | refine blk_drewN ?_ _ | refine blk_drew ?_ | refine blk_alloc ?_ _)); refine blk_far ?_ NB264_284.out _; (with_reducible repeat (first | refine blk_drewN ?_ _ | refine blk_drew ?_ | refine blk_alloc ?_ _)); refine blk_far ?_ NB264_284.out _; (with_reducible repeat (first | refine blk_drewN ?_ _ | refine blk_drew ?_ | refine blk_alloc ?_ _)); exact BK264.out⟩, ⟨by (with_reducible repeat (first | refine blk_drewN ?_ _ | refine blk_drew ?_ | refine blk_alloc ?_ _)); refine blk_far ?_ NB283_284.out _; (with_reducible repeat (first | refine blk_drewN ?_ _ | refine blk_drew ?_ | refine blk_alloc ?_ _)); refine blk_far ?_ NB283_284.out _; (with_reducible repeat (first | refine blk_drewN ?_ _ | refine blk_drew ?_ | refine blk_alloc ?_ _)); exact BK283.out⟩, ⟨by (with_reducible repeat (first | refine blk_drewN ?_ _ | refine blk_drew ?_ | refine blk_alloc ?_ _)); refine blk_put (cs := #[.slice Ao48 t286.length co48, .slice Ao45 x285001_2.length co45]) ?_ 1 _ rfl; (with_reducible repeat (first | refine blk_drewN ?_ _ | refine blk_drew ?_ | refine blk_alloc ?_ _)); refine blk_put (cs := #[.slice Ao44 x285000_2.length co44, .slice Ao45 x285001_2.length co45]) ?_ 0 _ rfl; (with_reducible repeat (first | refine blk_drewN ?_ _ | refine blk_drew ?_ | refine blk_alloc ?_ _)); exact BK284.out⟩, ⟨by repeat (first | (with_reducible first | exact HB.out | apply below_alloc | apply pw_below_drewN | apply below_drew1 | refine below_set ?_ GE264.out | refine below_set ?_ GE283.out | refine below_set ?_ GE284.out | refine below_set ?_ GE295.out) | exact HB.out)⟩⟩
          ·replace c40 := Bool.eq_false_iff.mpr c40
           subst c40
           have H1 : (none) = some r := by rw [if_neg (show ¬ (false = true) by decide)] at H; exact H
           clear H
           have H := H1
           clear H1
           exact absurd H (by simp)
         ·rw [if_neg c37] at H
          exact absurd H (by simp)
        ·rw [if_neg c36] at H
         exact absurd H (by simp)
       ·rw [if_neg c35] at H
        have c35b0 : decide (x36_2 < (y271.length : Int)) = false := decide_eq_false c35
        clear c35
        replace H := Option.bind_eq_some_iff.mp H
        obtain ⟨⟨t300, t303, t306⟩, A600, H⟩ := H
        replace H : ((cond_Signal.f k2 l0_0 l0_1 0).bind fun bt310 => ((handshakerref03_Numbers.f k2 t280 y271).bind fun t320 => (if t320 = true then ((handshakerlaw20_ref.f t274 t277).bind fun bt321 => ((handshakerlaw20_ref.f x285000_2 x285001_2).bind fun bt327 => ((handshakerref20_Same.f k2 bt321.1 bt321.2 bt327.1 bt327.2).bind fun t333 => (if t333 = true then (if (wrap64 ((t306.length : Int) + (bt310.2.2.length : Int))) = 0 then ((handshakerlaw20_ref.f bt310.1 bt310.2.1).bind fun bt334 => ((handshakerlaw20_ref.f l0_0 l0_1).bind fun bt340 => ((handshakerref20_Same.f k2 bt334.1 bt334.2 bt340.1 bt340.2).bind fun t346 => (if t346 = true then ((handshakerlaw20_awake.f k2).bind fun t347 => (some t347)) else (none))))) else (none)) else (none))))) else (none)))) = some r := H
        have A60 := Aside0.mk A600
        clear A600
        replace H := Option.bind_eq_some_iff.mp H
        obtain ⟨⟨t310, t313, t316⟩, A610, H⟩ := H
        replace H : ((handshakerref03_Numbers.f k2 t280 y271).bind fun t320 => (if t320 = true then ((handshakerlaw20_ref.f t274 t277).bind fun bt321 => ((handshakerlaw20_ref.f x285000_2 x285001_2).bind fun bt327 => ((handshakerref20_Same.f k2 bt321.1 bt321.2 bt327.1 bt327.2).bind fun t333 => (if t333 = true then (if (wrap64 ((t306.length : Int) + (t316.length : Int))) = 0 then ((handshakerlaw20_ref.f t310 t313).bind fun bt334 => ((handshakerlaw20_ref.f l0_0 l0_1).bind fun bt340 => ((handshakerref20_Same.f k2 bt334.1 bt334.2 bt340.1 bt340.2).bind fun t346 => (if t346 = true then ((handshakerlaw20_awake.f k2).bind fun t347 => (some t347)) else (none))))) else (none)) else (none))))) else (none))) = some r := H
        have A61 := Aside0.mk A610
        clear A610
        replace H := Option.bind_eq_some_iff.mp H
        obtain ⟨t320, A620, H⟩ := H
        replace H : (if t320 = true then ((handshakerlaw20_ref.f t274 t277).bind fun bt321 => ((handshakerlaw20_ref.f x285000_2 x285001_2).bind fun bt327 => ((handshakerref20_Same.f k2 bt321.1 bt321.2 bt327.1 bt327.2).bind fun t333 => (if t333 = true then (if (wrap64 ((t306.length : Int) + (t316.length : Int))) = 0 then ((handshakerlaw20_ref.f t310 t313).bind fun bt334 => ((handshakerlaw20_ref.f l0_0 l0_1).bind fun bt340 => ((handshakerref20_Same.f k2 bt334.1 bt334.2 bt340.1 bt340.2).bind fun t346 => (if t346 = true then ((handshakerlaw20_awake.f k2).bind fun t347 => (some t347)) else (none))))) else (none)) else (none))))) else (none)) = some r := H
        have A62 := Aside0.mk A620
        clear A620
        by_cases c63 : t320 = true
        ·subst c63
         have H1 : ((handshakerlaw20_ref.f t274 t277).bind fun bt321 => ((handshakerlaw20_ref.f x285000_2 x285001_2).bind fun bt327 => ((handshakerref20_Same.f k2 bt321.1 bt321.2 bt327.1 bt327.2).bind fun t333 => (if t333 = true then (if (wrap64 ((t306.length : Int) + (t316.length : Int))) = 0 then ((handshakerlaw20_ref.f t310 t313).bind fun bt334 => ((handshakerlaw20_ref.f l0_0 l0_1).bind fun bt340 => ((handshakerref20_Same.f k2 bt334.1 bt334.2 bt340.1 bt340.2).bind fun t346 => (if t346 = true then ((handshakerlaw20_awake.f k2).bind fun t347 => (some t347)) else (none))))) else (none)) else (none))))) = some r := by rw [if_pos rfl] at H; exact H
         clear H
         have H := H1
         clear H1
         replace H := Option.bind_eq_some_iff.mp H
         obtain ⟨⟨t321, t324⟩, A640, H⟩ := H
         replace H : ((handshakerlaw20_ref.f x285000_2 x285001_2).bind fun bt327 => ((handshakerref20_Same.f k2 t321 t324 bt327.1 bt327.2).bind fun t333 => (if t333 = true then (if (wrap64 ((t306.length : Int) + (t316.length : Int))) = 0 then ((handshakerlaw20_ref.f t310 t313).bind fun bt334 => ((handshakerlaw20_ref.f l0_0 l0_1).bind fun bt340 => ((handshakerref20_Same.f k2 bt334.1 bt334.2 bt340.1 bt340.2).bind fun t346 => (if t346 = true then ((handshakerlaw20_awake.f k2).bind fun t347 => (some t347)) else (none))))) else (none)) else (none)))) = some r := H
         have A64 := Aside0.mk A640
         clear A640
         replace H := Option.bind_eq_some_iff.mp H
         obtain ⟨⟨t327, t330⟩, A650, H⟩ := H
         replace H : ((handshakerref20_Same.f k2 t321 t324 t327 t330).bind fun t333 => (if t333 = true then (if (wrap64 ((t306.length : Int) + (t316.length : Int))) = 0 then ((handshakerlaw20_ref.f t310 t313).bind fun bt334 => ((handshakerlaw20_ref.f l0_0 l0_1).bind fun bt340 => ((handshakerref20_Same.f k2 bt334.1 bt334.2 bt340.1 bt340.2).bind fun t346 => (if t346 = true then ((handshakerlaw20_awake.f k2).bind fun t347 => (some t347)) else (none))))) else (none)) else (none))) = some r := H
         have A65 := Aside0.mk A650
         clear A650
         replace H := Option.bind_eq_some_iff.mp H
         obtain ⟨t333, A660, H⟩ := H
         replace H : (if t333 = true then (if (wrap64 ((t306.length : Int) + (t316.length : Int))) = 0 then ((handshakerlaw20_ref.f t310 t313).bind fun bt334 => ((handshakerlaw20_ref.f l0_0 l0_1).bind fun bt340 => ((handshakerref20_Same.f k2 bt334.1 bt334.2 bt340.1 bt340.2).bind fun t346 => (if t346 = true then ((handshakerlaw20_awake.f k2).bind fun t347 => (some t347)) else (none))))) else (none)) else (none)) = some r := H
         have A66 := Aside0.mk A660
         clear A660
         by_cases c67 : t333 = true
         ·subst c67
          have H1 : (if (wrap64 ((t306.length : Int) + (t316.length : Int))) = 0 then ((handshakerlaw20_ref.f t310 t313).bind fun bt334 => ((handshakerlaw20_ref.f l0_0 l0_1).bind fun bt340 => ((handshakerref20_Same.f k2 bt334.1 bt334.2 bt340.1 bt340.2).bind fun t346 => (if t346 = true then ((handshakerlaw20_awake.f k2).bind fun t347 => (some t347)) else (none))))) else (none)) = some r := by rw [if_pos rfl] at H; exact H
          clear H
          have H := H1
          clear H1
          by_cases c68 : (wrap64 ((t306.length : Int) + (t316.length : Int))) = 0
          ·rw [if_pos c68] at H
           have c68b0 : ((wrap64 ((t306.length : Int) + (t316.length : Int))) == 0) = true := beq_iff_eq.mpr c68
           have c68b1 : ((wrap64 ((t306.length : Int) + (t316.length : Int))) != 0) = false := bne_eq_false_iff_eq.mpr c68
           clear c68
           replace H := Option.bind_eq_some_iff.mp H
           obtain ⟨⟨t334, t337⟩, A690, H⟩ := H
           replace H : ((handshakerlaw20_ref.f l0_0 l0_1).bind fun bt340 => ((handshakerref20_Same.f k2 t334 t337 bt340.1 bt340.2).bind fun t346 => (if t346 = true then ((handshakerlaw20_awake.f k2).bind fun t347 => (some t347)) else (none)))) = some r := H
           have A69 := Aside0.mk A690
           clear A690
           replace H := Option.bind_eq_some_iff.mp H
           obtain ⟨⟨t340, t343⟩, A700, H⟩ := H
           replace H : ((handshakerref20_Same.f k2 t334 t337 t340 t343).bind fun t346 => (if t346 = true then ((handshakerlaw20_awake.f k2).bind fun t347 => (some t347)) else (none))) = some r := H
           have A70 := Aside0.mk A700
           clear A700
           replace H := Option.bind_eq_some_iff.mp H
           obtain ⟨t346, A710, H⟩ := H
           replace H : (if t346 = true then ((handshakerlaw20_awake.f k2).bind fun t347 => (some t347)) else (none)) = some r := H
           have A71 := Aside0.mk A710
           clear A710
           by_cases c72 : t346 = true
           ·subst c72
            have H1 : ((handshakerlaw20_awake.f k2).bind fun t347 => (some t347)) = some r := by rw [if_pos rfl] at H; exact H
            clear H
            have H := H1
            clear H1
            replace H := Option.bind_eq_some_iff.mp H
            obtain ⟨t347, A730, H⟩ := H
            replace H : (some t347) = some r := H
            have A73 := Aside0.mk A730
            clear A730
            obtain rfl := Option.some.inj H
            have hnb74 := NB284_264.out
            have hnc74 := NB264_284.out
            have hnb75 := NB284_283.out
            have hnc75 := NB283_284.out
            have hcz76_0 : wr.cell? ⟨gb284, 0, none⟩ = some (u285000) := (blk_cell BK284.out 0).trans rfl
            have hcz76_1 : wr.cell? ⟨gb284, 1, none⟩ = some (u285001) := (blk_cell BK284.out 1).trans rfl
            have hfz76_0 := blk_frozen BK284.out 0
            have hfz76_1 := blk_frozen BK284.out 1
            obtain ⟨Ao77, co77, eo77⟩ := Kd.V_slice HO_285000.out
            subst eo77
            obtain ⟨Ao78, co78, eo78⟩ := Kd.V_slice HO_285001.out
            subst eo78
            try go_wp2_with (first | ((with_reducible refine gate_callee (f := 13) rfl ?_); refine goesL_ (some 54) rfl rfl Try.func13 (by kernel_rfl) rfl #[.agg #[.slice Ao77 x285000_2.length co77, .slice Ao78 x285001_2.length co78], .int .i64 1] rfl zm ?_; (with_reducible refine (cond_Signal.calls k2 (fun k_ => (((P0_0_ k_ ∨ P0_1_ k_) ∨ w.heap.size ≤ k_) ∧ (some k_ ≠ (.slice Ao34 y271.length co34 : Value).ownBlock ∧ (some k_ ≠ (.slice Ao34 y271.length co34 : Value).ownBlock ∧ (k_ ≠ gb264 ∧ (k_ ≠ gb283 ∧ k_ ≠ gb284)))))) _ _ x285000_2 (fun k_ => (((P0_0_ k_ ∨ P0_1_ k_) ∨ w.heap.size ≤ k_) ∧ (some k_ ≠ (.slice Ao34 y271.length co34 : Value).ownBlock ∧ (some k_ ≠ (.slice Ao34 y271.length co34 : Value).ownBlock ∧ (k_ ≠ gb264 ∧ (k_ ≠ gb283 ∧ k_ ≠ gb284)))))) _ _ x285001_2 1 t300 t303 t306 _ ?side1 ?side2 A60.out).mono ?_); (case side1 => exact HO_285000.out); (case side2 => exact HO_285001.out); rintro e w79 ⟨v301, v304, v307, rfl, ho0, ho1, ho2, hb⟩; refine ⟨_, rfl, ?_⟩; have n0_ := Aside0.mk (Kd.R_below (zR HO_3) hb); have n1_ := Aside0.mk (Kd.V_below (zV HO_5) hb); have n2_ := Aside0.mk (Kd.R_below (zR HO_34) hb); have n3_ := Aside0.mk (Kd.V_below (zV HO_265000) hb); have n4_ := Aside0.mk (Kd.V_below (zV HO_265001) hb); have n5_ := Aside0.mk (Kd.V_below (zV HO_284000) hb); have n6_ := Aside0.mk (Kd.V_below (zV HO_284001) hb); have n7_ := Aside0.mk (Kd.V_below (zV HO_285000) hb); have n8_ := Aside0.mk (Kd.V_below (zV HO_285001) hb); have n9_ := Aside0.mk (Kd.V_lower (Kd.V_mono (ok' := fun k_ => ((P0_0_ k_ ∨ P0_1_ k_) ∨ w.heap.size ≤ k_) ∧ some k_ ≠ (.slice Ao34 y271.length co34 : Value).ownBlock ∧ some k_ ≠ (.slice Ao34 y271.length co34 : Value).ownBlock ∧ k_ ≠ gb264 ∧ k_ ≠ gb283 ∧ k_ ≠ gb284) ho0 (fun k_ hk_ => ⟨Or.elim hk_ (fun hs_ => Or.elim hs_ (fun hs_ => hs_.1) (fun hs_ => hs_.1)) (fun hn_ => (.inr (Nat.le_trans (below_size (zc3 HB GE264 GE283 GE284)) hn_))), Or.elim hk_ (fun hs_ => Or.elim hs_ (fun hs_ => hs_.2.1) (fun hs_ => hs_.2.1)) (fun hn_ => (Kd.fresh' (Kd.R_lt (zR HO_3)) k_ hn_)), Or.elim hk_ (fun hs_ => Or.elim hs_ (fun hs_ => hs_.2.2.1) (fun hs_ => hs_.2.2.1)) (fun hn_ => (Kd.fresh' (Kd.R_lt (zR HO_34)) k_ hn_)), Or.elim hk_ (fun hs_ => Or.elim hs_ (fun hs_ => hs_.2.2.2.1) (fun hs_ => hs_.2.2.2.1)) (fun hn_ => (Kd.freshB (g := gb264) (o := .cells #[.slice A0_0 l0_0.length c0_0, .slice A0_1 l0_1.length c0_1] 24 (0, 0)) (zb BK264) k_ hn_)), Or.elim hk_ (fun hs_ => Or.elim hs_ (fun hs_ => hs_.2.2.2.2.1) (fun hs_ => hs_.2.2.2.2.1)) (fun hn_ => (Kd.freshB (g := gb283) (o := .cells #[.slice Ao25 t274.length co25, .slice Ao28 t277.length co28] 24 (0, 0)) (zb BK283) k_ hn_)), Or.elim hk_ (fun hs_ => Or.elim hs_ (fun hs_ => hs_.2.2.2.2.2) (fun hs_ => hs_.2.2.2.2.2)) (fun hn_ => (Kd.freshB (g := gb284) (o := .cells #[.slice Ao77 x285000_2.length co77, .slice Ao78 x285001_2.length co78] 24 (0, 0)) (zb BK284) k_ hn_))⟩)) (below_size (zc3 HB GE264 GE283 GE284))); have n10_ := Aside0.mk (Kd.V_lower (Kd.V_mono (ok' := fun k_ => ((P0_0_ k_ ∨ P0_1_ k_) ∨ w.heap.size ≤ k_) ∧ some k_ ≠ (.slice Ao34 y271.length co34 : Value).ownBlock ∧ some k_ ≠ (.slice Ao34 y271.length co34 : Value).ownBlock ∧ k_ ≠ gb264 ∧ k_ ≠ gb283 ∧ k_ ≠ gb284) ho1 (fun k_ hk_ => ⟨Or.elim hk_ (fun hs_ => Or.elim hs_ (fun hs_ => hs_.1) (fun hs_ => hs_.1)) (fun hn_ => (.inr (Nat.le_trans (below_size (zc3 HB GE264 GE283 GE284)) hn_))), Or.elim hk_ (fun hs_ => Or.elim hs_ (fun hs_ => hs_.2.1) (fun hs_ => hs_.2.1)) (fun hn_ => (Kd.fresh' (Kd.R_lt (zR HO_3)) k_ hn_)), Or.elim hk_ (fun hs_ => Or.elim hs_ (fun hs_ => hs_.2.2.1) (fun hs_ => hs_.2.2.1)) (fun hn_ => (Kd.fresh' (Kd.R_lt (zR HO_34)) k_ hn_)), Or.elim hk_ (fun hs_ => Or.elim hs_ (fun hs_ => hs_.2.2.2.1) (fun hs_ => hs_.2.2.2.1)) (fun hn_ => (Kd.freshB (g := gb264) (o := .cells #[.slice A0_0 l0_0.length c0_0, .slice A0_1 l0_1.length c0_1] 24 (0, 0)) (zb BK264) k_ hn_)), Or.elim hk_ (fun hs_ => Or.elim hs_ (fun hs_ => hs_.2.2.2.2.1) (fun hs_ => hs_.2.2.2.2.1)) (fun hn_ => (Kd.freshB (g := gb283) (o := .cells #[.slice Ao25 t274.length co25, .slice Ao28 t277.length co28] 24 (0, 0)) (zb BK283) k_ hn_)), Or.elim hk_ (fun hs_ => Or.elim hs_ (fun hs_ => hs_.2.2.2.2.2) (fun hs_ => hs_.2.2.2.2.2)) (fun hn_ => (Kd.freshB (g := gb284) (o := .cells #[.slice Ao77 x285000_2.length co77, .slice Ao78 x285001_2.length co78] 24 (0, 0)) (zb BK284) k_ hn_))⟩)) (below_size (zc3 HB GE264 GE283 GE284))); have n11_ := Aside0.mk (Kd.V_lower (Kd.V_mono (ok' := fun k_ => ((P0_0_ k_ ∨ P0_1_ k_) ∨ w.heap.size ≤ k_) ∧ some k_ ≠ (.slice Ao34 y271.length co34 : Value).ownBlock ∧ some k_ ≠ (.slice Ao34 y271.length co34 : Value).ownBlock ∧ k_ ≠ gb264 ∧ k_ ≠ gb283 ∧ k_ ≠ gb284) ho2 (fun k_ hk_ => ⟨Or.elim hk_ (fun hs_ => Or.elim hs_ (fun hs_ => hs_.1) (fun hs_ => hs_.1)) (fun hn_ => (.inr (Nat.le_trans (below_size (zc3 HB GE264 GE283 GE284)) hn_))), Or.elim hk_ (fun hs_ => Or.elim hs_ (fun hs_ => hs_.2.1) (fun hs_ => hs_.2.1)) (fun hn_ => (Kd.fresh' (Kd.R_lt (zR HO_3)) k_ hn_)), Or.elim hk_ (fun hs_ => Or.elim hs_ (fun hs_ => hs_.2.2.1) (fun hs_ => hs_.2.2.1)) (fun hn_ => (Kd.fresh' (Kd.R_lt (zR HO_34)) k_ hn_)), Or.elim hk_ (fun hs_ => Or.elim hs_ (fun hs_ => hs_.2.2.2.1) (fun hs_ => hs_.2.2.2.1)) (fun hn_ => (Kd.freshB (g := gb264) (o := .cells #[.slice A0_0 l0_0.length c0_0, .slice A0_1 l0_1.length c0_1] 24 (0, 0)) (zb BK264) k_ hn_)), Or.elim hk_ (fun hs_ => Or.elim hs_ (fun hs_ => hs_.2.2.2.2.1) (fun hs_ => hs_.2.2.2.2.1)) (fun hn_ => (Kd.freshB (g := gb283) (o := .cells #[.slice Ao25 t274.length co25, .slice Ao28 t277.length co28] 24 (0, 0)) (zb BK283) k_ hn_)), Or.elim hk_ (fun hs_ => Or.elim hs_ (fun hs_ => hs_.2.2.2.2.2) (fun hs_ => hs_.2.2.2.2.2)) (fun hn_ => (Kd.freshB (g := gb284) (o := .cells #[.slice Ao77 x285000_2.length co77, .slice Ao78 x285001_2.length co78] 24 (0, 0)) (zb BK284) k_ hn_))⟩)) (below_size (zc3 HB GE264 GE283 GE284))); have n12_ := Aside0.mk (blk_below (g := gb264) (o := .cells #[.slice A0_0 l0_0.length c0_0, .slice A0_1 l0_1.length c0_1] 24 (0, 0)) (zb BK264) hb); have n13_ := Aside0.mk (blk_below (g := gb283) (o := .cells #[.slice Ao25 t274.length co25, .slice Ao28 t277.length co28] 24 (0, 0)) (zb BK283) hb); have n14_ := Aside0.mk (blk_below (g := gb284) (o := .cells #[.slice Ao77 x285000_2.length co77, .slice Ao78 x285001_2.length co78] 24 (0, 0)) (zb BK284) hb); have n15_ := Aside0.mk (below_step (zc3 HB GE264 GE283 GE284) hb); clear HO_3; clear HO_5; clear HO_34; clear HO_265000; clear HO_265001; clear HO_284000; clear HO_284001; clear HO_285000; clear HO_285001; clear BK264; clear BK283; clear BK284; clear HB; have HO_3 := n0_; have HO_5 := n1_; have HO_34 := n2_; have HO_265000 := n3_; have HO_265001 := n4_; have HO_284000 := n5_; have HO_284001 := n6_; have HO_285000 := n7_; have HO_285001 := n8_; have HO302 := n9_; have HO305 := n10_; have HO308 := n11_; have BK264 := n12_; have BK283 := n13_; have BK284 := n14_; have HB := n15_; clear n0_ n1_ n2_ n3_ n4_ n5_ n6_ n7_ n8_ n9_ n10_ n11_ n12_ n13_ n14_ n15_; (try clear hb); (try clear hb2); (try clear hk); (try clear hi); (try clear ho0); (try clear ho1); (try clear ho2)) | ((with_reducible refine gate_dst (N := 11) rfl ?_); (try (refine gate_guard (by rfl) ?_; dsimp only)); refine box_event ?hg (N := 11) ?hd (cs := #[.slice none 0 0, .slice none 0 0]) (t := 24) ?hr ?_; (case hd => rfl); (case hg => rfl); (case hr => first | (go_simp; done) | (go_simp; rfl)); intro gb309 hg w80 hbox hb; have n0_ := Aside0.mk (Kd.R_below (zR HO_3) hb); have n1_ := Aside0.mk (Kd.V_below (Kd.V_elderB (zV HO_5) gb309 (Nat.le_of_eq hg.symm)) hb); have n2_ := Aside0.mk (Kd.R_below (zR HO_34) hb); have n3_ := Aside0.mk (Kd.V_below (Kd.V_elderB (zV HO_265000) gb309 (Nat.le_of_eq hg.symm)) hb); have n4_ := Aside0.mk (Kd.V_below (Kd.V_elderB (zV HO_265001) gb309 (Nat.le_of_eq hg.symm)) hb); have n5_ := Aside0.mk (Kd.V_below (Kd.V_elderB (zV HO_284000) gb309 (Nat.le_of_eq hg.symm)) hb); have n6_ := Aside0.mk (Kd.V_below (Kd.V_elderB (zV HO_284001) gb309 (Nat.le_of_eq hg.symm)) hb); have n7_ := Aside0.mk (Kd.V_below (Kd.V_elderB (zV HO_285000) gb309 (Nat.le_of_eq hg.symm)) hb); have n8_ := Aside0.mk (Kd.V_below (Kd.V_elderB (zV HO_285001) gb309 (Nat.le_of_eq hg.symm)) hb); have n9_ := Aside0.mk (Kd.V_below (Kd.V_elderB (zV HO302) gb309 (Nat.le_of_eq hg.symm)) hb); have n10_ := Aside0.mk (Kd.V_below (Kd.V_elderB (zV HO305) gb309 (Nat.le_of_eq hg.symm)) hb); have n11_ := Aside0.mk (Kd.V_below (Kd.V_elderB (zV HO308) gb309 (Nat.le_of_eq hg.symm)) hb); have n12_ := Aside0.mk (blk_below (g := gb264) (o := .cells #[.slice A0_0 l0_0.length c0_0, .slice A0_1 l0_1.length c0_1] 24 (0, 0)) (zb BK264) hb); have n13_ := Aside0.mk (blk_below (g := gb283) (o := .cells #[.slice Ao25 t274.length co25, .slice Ao28 t277.length co28] 24 (0, 0)) (zb BK283) hb); have n14_ := Aside0.mk (blk_below (g := gb284) (o := .cells #[.slice Ao77 x285000_2.length co77, .slice Ao78 x285001_2.length co78] 24 (0, 0)) (zb BK284) hb); have n15_ := Aside0.mk (below_step (zc3 HB GE264 GE283 GE284) hb); have n16_ := Aside0.mk (hbox); have n17_ := Aside0.mk ((by rw [hg]; exact (below_size (zc3 HB GE264 GE283 GE284)) : w.heap.size ≤ gb309)); have n18_ := Aside0.mk ((by rw [hg]; exact (below_size (zc3 HB GE264 GE283 GE284)) : w.heap.size ≤ gb309)); have n19_ := Aside0.mk ((by rw [hg]; exact Nat.ne_of_lt (blk_lt (g := gb264) (o := .cells #[.slice A0_0 l0_0.length c0_0, .slice A0_1 l0_1.length c0_1] 24 (0, 0)) (zb BK264)) : gb264 ≠ gb309)); have n20_ := Aside0.mk ((by rw [hg]; exact Nat.ne_of_gt (blk_lt (g := gb264) (o := .cells #[.slice A0_0 l0_0.length c0_0, .slice A0_1 l0_1.length c0_1] 24 (0, 0)) (zb BK264)) : gb309 ≠ gb264)); have n21_ := Aside0.mk ((by rw [hg]; exact Nat.ne_of_lt (blk_lt (g := gb283) (o := .cells #[.slice Ao25 t274.length co25, .slice Ao28 t277.length co28] 24 (0, 0)) (zb BK283)) : gb283 ≠ gb309)); have n22_ := Aside0.mk ((by rw [hg]; exact Nat.ne_of_gt (blk_lt (g := gb283) (o := .cells #[.slice Ao25 t274.length co25, .slice Ao28 t277.length co28] 24 (0, 0)) (zb BK283)) : gb309 ≠ gb283)); have n23_ := Aside0.mk ((by rw [hg]; exact Nat.ne_of_lt (blk_lt (g := gb284) (o := .cells #[.slice Ao77 x285000_2.length co77, .slice Ao78 x285001_2.length co78] 24 (0, 0)) (zb BK284)) : gb284 ≠ gb309)); have n24_ := Aside0.mk ((by rw [hg]; exact Nat.ne_of_gt (blk_lt (g := gb284) (o := .cells #[.slice Ao77 x285000_2.length co77, .slice Ao78 x285001_2.length co78] 24 (0, 0)) (zb BK284)) : gb309 ≠ gb284)); clear HO_3; clear HO_5; clear HO_34; clear HO_265000; clear HO_265001; clear HO_284000; clear HO_284001; clear HO_285000; clear HO_285001; clear HO302; clear HO305; clear HO308; clear BK264; clear BK283; clear BK284; clear HB; have HO_3 := n0_; have HO_5 := n1_; have HO_34 := n2_; have HO_265000 := n3_; have HO_265001 := n4_; have HO_284000 := n5_; have HO_284001 := n6_; have HO_285000 := n7_; have HO_285001 := n8_; have HO302 := n9_; have HO305 := n10_; have HO308 := n11_; have BK264 := n12_; have BK283 := n13_; have BK284 := n14_; have HB := n15_; have BK309 := n16_; have GW309 := n17_; have GE309 := n18_; have NB264_309 := n19_; have NB309_264 := n20_; have NB283_309 := n21_; have NB309_283 := n22_; have NB284_309 := n23_; have NB309_284 := n24_; clear n0_ n1_ n2_ n3_ n4_ n5_ n6_ n7_ n8_ n9_ n10_ n11_ n12_ n13_ n14_ n15_ n16_ n17_ n18_ n19_ n20_ n21_ n22_ n23_ n24_; clear hb hbox hg; obtain ⟨Ao81, co81, eo81⟩ := Kd.V_slice HO302.out; subst eo81; have hnb82 := NB309_264.out; have hnc82 := NB264_309.out; have hnb83 := NB309_283.out; have hnc83 := NB283_309.out; have hnb84 := NB309_284.out; have hnc84 := NB284_309.out; have hcz85_0 : w80.cell? ⟨gb309, 0, none⟩ = some (.slice none 0 0) := (blk_cell BK309.out 0).trans rfl; have hcz85_1 : w80.cell? ⟨gb309, 1, none⟩ = some (.slice none 0 0) := (blk_cell BK309.out 1).trans rfl; have hfz85_0 := blk_frozen BK309.out 0; have hfz85_1 := blk_frozen BK309.out 1; obtain ⟨Ao86, co86, eo86⟩ := Kd.V_slice HO305.out; subst eo86) | ((with_reducible refine gate_store (t := 24) (p := 11) rfl ?_); refine store_event (t := 24) (p := 11) (v := ?vo_w87) (w1 := ((w80.setCell ⟨gb309, 0, none⟩ (.slice Ao81 t300.length co81)).setCell ⟨gb309, 1, none⟩ (.slice Ao86 t303.length co86))) ?hg ?ho ?hn ?hr ?_; (case ho => rfl); (case hg => rfl); (case hn => rfl); (case hr => first | (go_simp; done) | (go_simp; rfl)); intro w87 hw; have n0_ : Aside0 (Kd.R (Kd.int .i64) 3 w87 w.heap.size (fun k_ => (w.heap.size ≤ k_)) (.slice Ao34 y271.length co34) y271) := ⟨(by rw [hw]; exact (by (with_reducible repeat (first | apply Kd.R_alloc | apply Kd.R_drewN | apply Kd.R_drew)); exact Kd.R_mono (Kd.R_far (p := ⟨gb309, 1, none⟩) (Kd.R_far (p := ⟨gb309, 0, none⟩) (Kd.R_types HO_3.out BK309.out (by decide)) (fun _ hk => hk.2) (.slice Ao81 t300.length co81)) (fun _ hk => hk.2) (.slice Ao86 t303.length co86)) (fun _ hk => hk.1)))⟩; have n1_ : Aside0 (Kd.V (Kd.int .i64) 3 w87 w.heap.size (fun k_ => ((P0_0_ k_ ∨ P0_1_ k_) ∨ w.heap.size ≤ k_) ∧ some k_ ≠ (.slice Ao34 y271.length co34 : Value).ownBlock ∧ some k_ ≠ (.slice Ao34 y271.length co34 : Value).ownBlock ∧ k_ ≠ gb264 ∧ k_ ≠ gb283 ∧ k_ ≠ gb284 ∧ k_ ≠ gb309) v281 t280) := ⟨(by rw [hw]; exact (by (with_reducible repeat (first | apply Kd.V_alloc | apply Kd.V_drewN | apply Kd.V_drew)); exact Kd.V_mono (Kd.V_far (p := ⟨gb309, 1, none⟩) (Kd.V_far (p := ⟨gb309, 0, none⟩) (Kd.V_mono HO_5.out (fun k_ hk => (⟨hk, hk.2⟩ : _ ∧ k_ ≠ gb309))) (fun _ hk => hk.2) (.slice Ao81 t300.length co81)) (fun _ hk => hk.2) (.slice Ao86 t303.length co86)) (fun _ hk => ⟨hk.1.1.1, ⟨hk.1.1.2.1, ⟨hk.1.1.2.2.1, ⟨hk.1.1.2.2.2.1, ⟨hk.1.1.2.2.2.2.1, ⟨hk.1.1.2.2.2.2.2, hk.1.2⟩⟩⟩⟩⟩⟩)))⟩; have n2_ : Aside0 (Kd.R (Kd.int .i64) 3 w87 w.heap.size (fun k_ => (w.heap.size ≤ k_)) (.slice Ao34 y271.length co34) y271) := ⟨(by rw [hw]; exact (by (with_reducible repeat (first | apply Kd.R_alloc | apply Kd.R_drewN | apply Kd.R_drew)); exact Kd.R_mono (Kd.R_far (p := ⟨gb309, 1, none⟩) (Kd.R_far (p := ⟨gb309, 0, none⟩) (Kd.R_types HO_34.out BK309.out (by decide)) (fun _ hk => hk.2) (.slice Ao81 t300.length co81)) (fun _ hk => hk.2) (.slice Ao86 t303.length co86)) (fun _ hk => hk.1)))⟩; have n3_ : Aside0 (Kd.V (Kd.int .i64) 3 w87 w.heap.size (fun k_ => ((P0_0_ k_ ∨ P0_1_ k_) ∨ w.heap.size ≤ k_) ∧ some k_ ≠ (.slice Ao34 y271.length co34 : Value).ownBlock ∧ some k_ ≠ (.slice Ao34 y271.length co34 : Value).ownBlock ∧ k_ ≠ gb264 ∧ k_ ≠ gb283 ∧ k_ ≠ gb284 ∧ k_ ≠ gb309) (.slice A0_0 l0_0.length c0_0) l0_0) := ⟨(by rw [hw]; exact (by (with_reducible repeat (first | apply Kd.V_alloc | apply Kd.V_drewN | apply Kd.V_drew)); exact Kd.V_mono (Kd.V_far (p := ⟨gb309, 1, none⟩) (Kd.V_far (p := ⟨gb309, 0, none⟩) (Kd.V_mono HO_265000.out (fun k_ hk => (⟨hk, hk.2⟩ : _ ∧ k_ ≠ gb309))) (fun _ hk => hk.2) (.slice Ao81 t300.length co81)) (fun _ hk => hk.2) (.slice Ao86 t303.length co86)) (fun _ hk => ⟨hk.1.1.1, ⟨hk.1.1.2.1, ⟨hk.1.1.2.2.1, ⟨hk.1.1.2.2.2.1, ⟨hk.1.1.2.2.2.2.1, ⟨hk.1.1.2.2.2.2.2, hk.1.2⟩⟩⟩⟩⟩⟩)))⟩; have n4_ : Aside0 (Kd.V (Kd.int .i64) 3 w87 w.heap.size (fun k_ => ((P0_0_ k_ ∨ P0_1_ k_) ∨ w.heap.size ≤ k_) ∧ some k_ ≠ (.slice Ao34 y271.length co34 : Value).ownBlock ∧ some k_ ≠ (.slice Ao34 y271.length co34 : Value).ownBlock ∧ k_ ≠ gb264 ∧ k_ ≠ gb283 ∧ k_ ≠ gb284 ∧ k_ ≠ gb309) (.slice A0_1 l0_1.length c0_1) l0_1) := ⟨(by rw [hw]; exact (by (with_reducible repeat (first | apply Kd.V_alloc | apply Kd.V_drewN | apply Kd.V_drew)); exact Kd.V_mono (Kd.V_far (p := ⟨gb309, 1, none⟩) (Kd.V_far (p := ⟨gb309, 0, none⟩) (Kd.V_mono HO_265001.out (fun k_ hk => (⟨hk, hk.2⟩ : _ ∧ k_ ≠ gb309))) (fun _ hk => hk.2) (.slice Ao81 t300.length co81)) (fun _ hk => hk.2) (.slice Ao86 t303.length co86)) (fun _ hk => ⟨hk.1.1.1, ⟨hk.1.1.2.1, ⟨hk.1.1.2.2.1, ⟨hk.1.1.2.2.2.1, ⟨hk.1.1.2.2.2.2.1, ⟨hk.1.1.2.2.2.2.2, hk.1.2⟩⟩⟩⟩⟩⟩)))⟩; have n5_ : Aside0 (Kd.V (Kd.int .i64) 3 w87 w.heap.size (fun k_ => ((P0_0_ k_ ∨ P0_1_ k_) ∨ w.heap.size ≤ k_) ∧ some k_ ≠ (.slice Ao34 y271.length co34 : Value).ownBlock ∧ some k_ ≠ (.slice Ao34 y271.length co34 : Value).ownBlock ∧ k_ ≠ gb264 ∧ k_ ≠ gb283 ∧ k_ ≠ gb284 ∧ k_ ≠ gb309) (.slice Ao25 t274.length co25) t274) := ⟨(by rw [hw]; exact (by (with_reducible repeat (first | apply Kd.V_alloc | apply Kd.V_drewN | apply Kd.V_drew)); exact Kd.V_mono (Kd.V_far (p := ⟨gb309, 1, none⟩) (Kd.V_far (p := ⟨gb309, 0, none⟩) (Kd.V_mono HO_284000.out (fun k_ hk => (⟨hk, hk.2⟩ : _ ∧ k_ ≠ gb309))) (fun _ hk => hk.2) (.slice Ao81 t300.length co81)) (fun _ hk => hk.2) (.slice Ao86 t303.length co86)) (fun _ hk => ⟨hk.1.1.1, ⟨hk.1.1.2.1, ⟨hk.1.1.2.2.1, ⟨hk.1.1.2.2.2.1, ⟨hk.1.1.2.2.2.2.1, ⟨hk.1.1.2.2.2.2.2, hk.1.2⟩⟩⟩⟩⟩⟩)))⟩; have n6_ : Aside0 (Kd.V (Kd.int .i64) 3 w87 w.heap.size (fun k_ => ((P0_0_ k_ ∨ P0_1_ k_) ∨ w.heap.size ≤ k_) ∧ some k_ ≠ (.slice Ao34 y271.length co34 : Value).ownBlock ∧ some k_ ≠ (.slice Ao34 y271.length co34 : Value).ownBlock ∧ k_ ≠ gb264 ∧ k_ ≠ gb283 ∧ k_ ≠ gb284 ∧ k_ ≠ gb309) (.slice Ao28 t277.length co28) t277) := ⟨(by rw [hw]; exact (by (with_reducible repeat (first | apply Kd.V_alloc | apply Kd.V_drewN | apply Kd.V_drew)); exact Kd.V_mono (Kd.V_far (p := ⟨gb309, 1, none⟩) (Kd.V_far (p := ⟨gb309, 0, none⟩) (Kd.V_mono HO_284001.out (fun k_ hk => (⟨hk, hk.2⟩ : _ ∧ k_ ≠ gb309))) (fun _ hk => hk.2) (.slice Ao81 t300.length co81)) (fun _ hk => hk.2) (.slice Ao86 t303.length co86)) (fun _ hk => ⟨hk.1.1.1, ⟨hk.1.1.2.1, ⟨hk.1.1.2.2.1, ⟨hk.1.1.2.2.2.1, ⟨hk.1.1.2.2.2.2.1, ⟨hk.1.1.2.2.2.2.2, hk.1.2⟩⟩⟩⟩⟩⟩)))⟩; have n7_ : Aside0 (Kd.V (Kd.int .i64) 3 w87 w.heap.size (fun k_ => ((P0_0_ k_ ∨ P0_1_ k_) ∨ w.heap.size ≤ k_) ∧ some k_ ≠ (.slice Ao34 y271.length co34 : Value).ownBlock ∧ some k_ ≠ (.slice Ao34 y271.length co34 : Value).ownBlock ∧ k_ ≠ gb264 ∧ k_ ≠ gb283 ∧ k_ ≠ gb284 ∧ k_ ≠ gb309) (.slice Ao77 x285000_2.length co77) x285000_2) := ⟨(by rw [hw]; exact (by (with_reducible repeat (first | apply Kd.V_alloc | apply Kd.V_drewN | apply Kd.V_drew)); exact Kd.V_mono (Kd.V_far (p := ⟨gb309, 1, none⟩) (Kd.V_far (p := ⟨gb309, 0, none⟩) (Kd.V_mono HO_285000.out (fun k_ hk => (⟨hk, hk.2⟩ : _ ∧ k_ ≠ gb309))) (fun _ hk => hk.2) (.slice Ao81 t300.length co81)) (fun _ hk => hk.2) (.slice Ao86 t303.length co86)) (fun _ hk => ⟨hk.1.1.1, ⟨hk.1.1.2.1, ⟨hk.1.1.2.2.1, ⟨hk.1.1.2.2.2.1, ⟨hk.1.1.2.2.2.2.1, ⟨hk.1.1.2.2.2.2.2, hk.1.2⟩⟩⟩⟩⟩⟩)))⟩; have n8_ : Aside0 (Kd.V (Kd.int .i64) 3 w87 w.heap.size (fun k_ => ((P0_0_ k_ ∨ P0_1_ k_) ∨ w.heap.size ≤ k_) ∧ some k_ ≠ (.slice Ao34 y271.length co34 : Value).ownBlock ∧ some k_ ≠ (.slice Ao34 y271.length co34 : Value).ownBlock ∧ k_ ≠ gb264 ∧ k_ ≠ gb283 ∧ k_ ≠ gb284 ∧ k_ ≠ gb309) (.slice Ao78 x285001_2.length co78) x285001_2) := ⟨(by rw [hw]; exact (by (with_reducible repeat (first | apply Kd.V_alloc | apply Kd.V_drewN | apply Kd.V_drew)); exact Kd.V_mono (Kd.V_far (p := ⟨gb309, 1, none⟩) (Kd.V_far (p := ⟨gb309, 0, none⟩) (Kd.V_mono HO_285001.out (fun k_ hk => (⟨hk, hk.2⟩ : _ ∧ k_ ≠ gb309))) (fun _ hk => hk.2) (.slice Ao81 t300.length co81)) (fun _ hk => hk.2) (.slice Ao86 t303.length co86)) (fun _ hk => ⟨hk.1.1.1, ⟨hk.1.1.2.1, ⟨hk.1.1.2.2.1, ⟨hk.1.1.2.2.2.1, ⟨hk.1.1.2.2.2.2.1, ⟨hk.1.1.2.2.2.2.2, hk.1.2⟩⟩⟩⟩⟩⟩)))⟩; have n9_ : Aside0 (Kd.V (Kd.int .i64) 3 w87 w.heap.size (fun k_ => ((P0_0_ k_ ∨ P0_1_ k_) ∨ w.heap.size ≤ k_) ∧ some k_ ≠ (.slice Ao34 y271.length co34 : Value).ownBlock ∧ some k_ ≠ (.slice Ao34 y271.length co34 : Value).ownBlock ∧ k_ ≠ gb264 ∧ k_ ≠ gb283 ∧ k_ ≠ gb284 ∧ k_ ≠ gb309) (.slice Ao81 t300.length co81) t300) := ⟨(by rw [hw]; exact (by (with_reducible repeat (first | apply Kd.V_alloc | apply Kd.V_drewN | apply Kd.V_drew)); exact Kd.V_mono (Kd.V_far (p := ⟨gb309, 1, none⟩) (Kd.V_far (p := ⟨gb309, 0, none⟩) (Kd.V_mono HO302.out (fun k_ hk => (⟨hk, hk.2⟩ : _ ∧ k_ ≠ gb309))) (fun _ hk => hk.2) (.slice Ao81 t300.length co81)) (fun _ hk => hk.2) (.slice Ao86 t303.length co86)) (fun _ hk => ⟨hk.1.1.1, ⟨hk.1.1.2.1, ⟨hk.1.1.2.2.1, ⟨hk.1.1.2.2.2.1, ⟨hk.1.1.2.2.2.2.1, ⟨hk.1.1.2.2.2.2.2, hk.1.2⟩⟩⟩⟩⟩⟩)))⟩; have n10_ : Aside0 (Kd.V (Kd.int .i64) 3 w87 w.heap.size (fun k_ => ((P0_0_ k_ ∨ P0_1_ k_) ∨ w.heap.size ≤ k_) ∧ some k_ ≠ (.slice Ao34 y271.length co34 : Value).ownBlock ∧ some k_ ≠ (.slice Ao34 y271.length co34 : Value).ownBlock ∧ k_ ≠ gb264 ∧ k_ ≠ gb283 ∧ k_ ≠ gb284 ∧ k_ ≠ gb309) (.slice Ao86 t303.length co86) t303) := ⟨(by rw [hw]; exact (by (with_reducible repeat (first | apply Kd.V_alloc | apply Kd.V_drewN | apply Kd.V_drew)); exact Kd.V_mono (Kd.V_far (p := ⟨gb309, 1, none⟩) (Kd.V_far (p := ⟨gb309, 0, none⟩) (Kd.V_mono HO305.out (fun k_ hk => (⟨hk, hk.2⟩ : _ ∧ k_ ≠ gb309))) (fun _ hk => hk.2) (.slice Ao81 t300.length co81)) (fun _ hk => hk.2) (.slice Ao86 t303.length co86)) (fun _ hk => ⟨hk.1.1.1, ⟨hk.1.1.2.1, ⟨hk.1.1.2.2.1, ⟨hk.1.1.2.2.2.1, ⟨hk.1.1.2.2.2.2.1, ⟨hk.1.1.2.2.2.2.2, hk.1.2⟩⟩⟩⟩⟩⟩)))⟩; have n11_ : Aside0 (Kd.V (Kd.int .i64) 3 w87 w.heap.size (fun k_ => ((P0_0_ k_ ∨ P0_1_ k_) ∨ w.heap.size ≤ k_) ∧ some k_ ≠ (.slice Ao34 y271.length co34 : Value).ownBlock ∧ some k_ ≠ (.slice Ao34 y271.length co34 : Value).ownBlock ∧ k_ ≠ gb264 ∧ k_ ≠ gb283 ∧ k_ ≠ gb284 ∧ k_ ≠ gb309) v307 t306) := ⟨(by rw [hw]; exact (by (with_reducible repeat (first | apply Kd.V_alloc | apply Kd.V_drewN | apply Kd.V_drew)); exact Kd.V_mono (Kd.V_far (p := ⟨gb309, 1, none⟩) (Kd.V_far (p := ⟨gb309, 0, none⟩) (Kd.V_mono HO308.out (fun k_ hk => (⟨hk, hk.2⟩ : _ ∧ k_ ≠ gb309))) (fun _ hk => hk.2) (.slice Ao81 t300.length co81)) (fun _ hk => hk.2) (.slice Ao86 t303.length co86)) (fun _ hk => ⟨hk.1.1.1, ⟨hk.1.1.2.1, ⟨hk.1.1.2.2.1, ⟨hk.1.1.2.2.2.1, ⟨hk.1.1.2.2.2.2.1, ⟨hk.1.1.2.2.2.2.2, hk.1.2⟩⟩⟩⟩⟩⟩)))⟩; have n12_ : Aside0 (w87.heap[gb264]? = some (.cells #[.slice A0_0 l0_0.length c0_0, .slice A0_1 l0_1.length c0_1] 24 (0, 0))) := ⟨(by rw [hw]; exact (by (with_reducible repeat (first | refine blk_drewN ?_ _ | refine blk_drew ?_ | refine blk_alloc ?_ _)); refine blk_far ?_ NB264_309.out _; (with_reducible repeat (first | refine blk_drewN ?_ _ | refine blk_drew ?_ | refine blk_alloc ?_ _)); refine blk_far ?_ NB264_309.out _; (with_reducible repeat (first | refine blk_drewN ?_ _ | refine blk_drew ?_ | refine blk_alloc ?_ _)); exact BK264.out))⟩; have n13_ : Aside0 (w87.heap[gb283]? = some (.cells #[.slice Ao25 t274.length co25, .slice Ao28 t277.length co28] 24 (0, 0))) := ⟨(by rw [hw]; exact (by (with_reducible repeat (first | refine blk_drewN ?_ _ | refine blk_drew ?_ | refine blk_alloc ?_ _)); refine blk_far ?_ NB283_309.out _; (with_reducible repeat (first | refine blk_drewN ?_ _ | refine blk_drew ?_ | refine blk_alloc ?_ _)); refine blk_far ?_ NB283_309.out _; (with_reducible repeat (first | refine blk_drewN ?_ _ | refine blk_drew ?_ | refine blk_alloc ?_ _)); exact BK283.out))⟩; have n14_ : Aside0 (w87.heap[gb284]? = some (.cells #[.slice Ao77 x285000_2.length co77, .slice Ao78 x285001_2.length co78] 24 (0, 0))) := ⟨(by rw [hw]; exact (by (with_reducible repeat (first | refine blk_drewN ?_ _ | refine blk_drew ?_ | refine blk_alloc ?_ _)); refine blk_far ?_ NB284_309.out _; (with_reducible repeat (first | refine blk_drewN ?_ _ | refine blk_drew ?_ | refine blk_alloc ?_ _)); refine blk_far ?_ NB284_309.out _; (with_reducible repeat (first | refine blk_drewN ?_ _ | refine blk_drew ?_ | refine blk_alloc ?_ _)); exact BK284.out))⟩; have n15_ : Aside0 (w87.heap[gb309]? = some (.cells #[.slice Ao81 t300.length co81, .slice Ao86 t303.length co86] 24 (0, 0))) := ⟨(by rw [hw]; exact (by (with_reducible repeat (first | refine blk_drewN ?_ _ | refine blk_drew ?_ | refine blk_alloc ?_ _)); refine blk_put (cs := #[.slice Ao81 t300.length co81, .slice none 0 0]) ?_ 1 _ rfl; (with_reducible repeat (first | refine blk_drewN ?_ _ | refine blk_drew ?_ | refine blk_alloc ?_ _)); refine blk_put (cs := #[.slice none 0 0, .slice none 0 0]) ?_ 0 _ rfl; (with_reducible repeat (first | refine blk_drewN ?_ _ | refine blk_drew ?_ | refine blk_alloc ?_ _)); exact BK309.out))⟩; have n16_ : Aside0 (Below w.heap.size w w87) := ⟨(by rw [hw]; exact (zc4 HB GE264 GE283 GE284 GE309))⟩; clear hw; clear HO_3; clear HO_5; clear HO_34; clear HO_265000; clear HO_265001; clear HO_284000; clear HO_284001; clear HO_285000; clear HO_285001; clear HO302; clear HO305; clear HO308; clear BK264; clear BK283; clear BK284; clear BK309; clear HB; have HO_3 := n0_; have HO_5 := n1_; have HO_34 := n2_; have HO_265000 := n3_; have HO_265001 := n4_; have HO_284000 := n5_; have HO_284001 := n6_; have HO_285000 := n7_; have HO_285001 := n8_; have HO302 := n9_; have HO305 := n10_; have HO308 := n11_; have BK264 := n12_; have BK283 := n13_; have BK284 := n14_; have BK309 := n15_; have HB := n16_; clear n0_ n1_ n2_ n3_ n4_ n5_ n6_ n7_ n8_ n9_ n10_ n11_ n12_ n13_ n14_ n15_ n16_; have hnb88 := NB264_283.out; have hnc88 := NB283_264.out; have hcz89_0 : w87.cell? ⟨gb264, 0, none⟩ = some (.slice A0_0 l0_0.length c0_0) := (blk_cell BK264.out 0).trans rfl; have hcz89_1 : w87.cell? ⟨gb264, 1, none⟩ = some (.slice A0_1 l0_1.length c0_1) := (blk_cell BK264.out 1).trans rfl; have hfz89_0 := blk_frozen BK264.out 0; have hfz89_1 := blk_frozen BK264.out 1) | ((with_reducible refine gate_callee (f := 13) rfl ?_); refine goesL_ (some 59) rfl rfl Try.func13 (by kernel_rfl) rfl #[.agg #[.slice A0_0 l0_0.length c0_0, .slice A0_1 l0_1.length c0_1], .int .i64 0] rfl zm ?_; (with_reducible refine (cond_Signal.calls k2 (fun k_ => (((P0_0_ k_ ∨ P0_1_ k_) ∨ w.heap.size ≤ k_) ∧ (some k_ ≠ (.slice Ao34 y271.length co34 : Value).ownBlock ∧ (some k_ ≠ (.slice Ao34 y271.length co34 : Value).ownBlock ∧ (k_ ≠ gb264 ∧ (k_ ≠ gb283 ∧ (k_ ≠ gb284 ∧ k_ ≠ gb309))))))) _ _ l0_0 (fun k_ => (((P0_0_ k_ ∨ P0_1_ k_) ∨ w.heap.size ≤ k_) ∧ (some k_ ≠ (.slice Ao34 y271.length co34 : Value).ownBlock ∧ (some k_ ≠ (.slice Ao34 y271.length co34 : Value).ownBlock ∧ (k_ ≠ gb264 ∧ (k_ ≠ gb283 ∧ (k_ ≠ gb284 ∧ k_ ≠ gb309))))))) _ _ l0_1 0 t310 t313 t316 _ ?side1 ?side2 A61.out).mono ?_); (case side1 => exact HO_265000.out); (case side2 => exact HO_265001.out); rintro e w90 ⟨v311, v314, v317, rfl, ho0, ho1, ho2, hb⟩; refine ⟨_, rfl, ?_⟩; have n0_ := Aside0.mk (Kd.R_below (zR HO_3) hb); have n1_ := Aside0.mk (Kd.V_below (zV HO_5) hb); have n2_ := Aside0.mk (Kd.R_below (zR HO_34) hb); have n3_ := Aside0.mk (Kd.V_below (zV HO_265000) hb); have n4_ := Aside0.mk (Kd.V_below (zV HO_265001) hb); have n5_ := Aside0.mk (Kd.V_below (zV HO_284000) hb); have n6_ := Aside0.mk (Kd.V_below (zV HO_284001) hb); have n7_ := Aside0.mk (Kd.V_below (zV HO_285000) hb); have n8_ := Aside0.mk (Kd.V_below (zV HO_285001) hb); have n9_ := Aside0.mk (Kd.V_below (zV HO302) hb); have n10_ := Aside0.mk (Kd.V_below (zV HO305) hb); have n11_ := Aside0.mk (Kd.V_below (zV HO308) hb); have n12_ := Aside0.mk (Kd.V_lower (Kd.V_mono (ok' := fun k_ => ((P0_0_ k_ ∨ P0_1_ k_) ∨ w.heap.size ≤ k_) ∧ some k_ ≠ (.slice Ao34 y271.length co34 : Value).ownBlock ∧ some k_ ≠ (.slice Ao34 y271.length co34 : Value).ownBlock ∧ k_ ≠ gb264 ∧ k_ ≠ gb283 ∧ k_ ≠ gb284 ∧ k_ ≠ gb309) ho0 (fun k_ hk_ => ⟨Or.elim hk_ (fun hs_ => Or.elim hs_ (fun hs_ => hs_.1) (fun hs_ => hs_.1)) (fun hn_ => (.inr (Nat.le_trans (below_size (zc4 HB GE264 GE283 GE284 GE309)) hn_))), Or.elim hk_ (fun hs_ => Or.elim hs_ (fun hs_ => hs_.2.1) (fun hs_ => hs_.2.1)) (fun hn_ => (Kd.fresh' (Kd.R_lt (zR HO_3)) k_ hn_)), Or.elim hk_ (fun hs_ => Or.elim hs_ (fun hs_ => hs_.2.2.1) (fun hs_ => hs_.2.2.1)) (fun hn_ => (Kd.fresh' (Kd.R_lt (zR HO_34)) k_ hn_)), Or.elim hk_ (fun hs_ => Or.elim hs_ (fun hs_ => hs_.2.2.2.1) (fun hs_ => hs_.2.2.2.1)) (fun hn_ => (Kd.freshB (g := gb264) (o := .cells #[.slice A0_0 l0_0.length c0_0, .slice A0_1 l0_1.length c0_1] 24 (0, 0)) (zb BK264) k_ hn_)), Or.elim hk_ (fun hs_ => Or.elim hs_ (fun hs_ => hs_.2.2.2.2.1) (fun hs_ => hs_.2.2.2.2.1)) (fun hn_ => (Kd.freshB (g := gb283) (o := .cells #[.slice Ao25 t274.length co25, .slice Ao28 t277.length co28] 24 (0, 0)) (zb BK283) k_ hn_)), Or.elim hk_ (fun hs_ => Or.elim hs_ (fun hs_ => hs_.2.2.2.2.2.1) (fun hs_ => hs_.2.2.2.2.2.1)) (fun hn_ => (Kd.freshB (g := gb284) (o := .cells #[.slice Ao77 x285000_2.length co77, .slice Ao78 x285001_2.length co78] 24 (0, 0)) (zb BK284) k_ hn_)), Or.elim hk_ (fun hs_ => Or.elim hs_ (fun hs_ => hs_.2.2.2.2.2.2) (fun hs_ => hs_.2.2.2.2.2.2)) (fun hn_ => (Kd.freshB (g := gb309) (o := .cells #[.slice Ao81 t300.length co81, .slice Ao86 t303.length co86] 24 (0, 0)) (zb BK309) k_ hn_))⟩)) (below_size (zc4 HB GE264 GE283 GE284 GE309))); have n13_ := Aside0.mk (Kd.V_lower (Kd.V_mono (ok' := fun k_ => ((P0_0_ k_ ∨ P0_1_ k_) ∨ w.heap.size ≤ k_) ∧ some k_ ≠ (.slice Ao34 y271.length co34 : Value).ownBlock ∧ some k_ ≠ (.slice Ao34 y271.length co34 : Value).ownBlock ∧ k_ ≠ gb264 ∧ k_ ≠ gb283 ∧ k_ ≠ gb284 ∧ k_ ≠ gb309) ho1 (fun k_ hk_ => ⟨Or.elim hk_ (fun hs_ => Or.elim hs_ (fun hs_ => hs_.1) (fun hs_ => hs_.1)) (fun hn_ => (.inr (Nat.le_trans (below_size (zc4 HB GE264 GE283 GE284 GE309)) hn_))), Or.elim hk_ (fun hs_ => Or.elim hs_ (fun hs_ => hs_.2.1) (fun hs_ => hs_.2.1)) (fun hn_ => (Kd.fresh' (Kd.R_lt (zR HO_3)) k_ hn_)), Or.elim hk_ (fun hs_ => Or.elim hs_ (fun hs_ => hs_.2.2.1) (fun hs_ => hs_.2.2.1)) (fun hn_ => (Kd.fresh' (Kd.R_lt (zR HO_34)) k_ hn_)), Or.elim hk_ (fun hs_ => Or.elim hs_ (fun hs_ => hs_.2.2.2.1) (fun hs_ => hs_.2.2.2.1)) (fun hn_ => (Kd.freshB (g := gb264) (o := .cells #[.slice A0_0 l0_0.length c0_0, .slice A0_1 l0_1.length c0_1] 24 (0, 0)) (zb BK264) k_ hn_)), Or.elim hk_ (fun hs_ => Or.elim hs_ (fun hs_ => hs_.2.2.2.2.1) (fun hs_ => hs_.2.2.2.2.1)) (fun hn_ => (Kd.freshB (g := gb283) (o := .cells #[.slice Ao25 t274.length co25, .slice Ao28 t277.length co28] 24 (0, 0)) (zb BK283) k_ hn_)), Or.elim hk_ (fun hs_ => Or.elim hs_ (fun hs_ => hs_.2.2.2.2.2.1) (fun hs_ => hs_.2.2.2.2.2.1)) (fun hn_ => (Kd.freshB (g := gb284) (o := .cells #[.slice Ao77 x285000_2.length co77, .slice Ao78 x285001_2.length co78] 24 (0, 0)) (zb BK284) k_ hn_)), Or.elim hk_ (fun hs_ => Or.elim hs_ (fun hs_ => hs_.2.2.2.2.2.2) (fun hs_ => hs_.2.2.2.2.2.2)) (fun hn_ => (Kd.freshB (g := gb309) (o := .cells #[.slice Ao81 t300.length co81, .slice Ao86 t303.length co86] 24 (0, 0)) (zb BK309) k_ hn_))⟩)) (below_size (zc4 HB GE264 GE283 GE284 GE309))); have n14_ := Aside0.mk (Kd.V_lower (Kd.V_mono (ok' := fun k_ => ((P0_0_ k_ ∨ P0_1_ k_) ∨ w.heap.size ≤ k_) ∧ some k_ ≠ (.slice Ao34 y271.length co34 : Value).ownBlock ∧ some k_ ≠ (.slice Ao34 y271.length co34 : Value).ownBlock ∧ k_ ≠ gb264 ∧ k_ ≠ gb283 ∧ k_ ≠ gb284 ∧ k_ ≠ gb309) ho2 (fun k_ hk_ => ⟨Or.elim hk_ (fun hs_ => Or.elim hs_ (fun hs_ => hs_.1) (fun hs_ => hs_.1)) (fun hn_ => (.inr (Nat.le_trans (below_size (zc4 HB GE264 GE283 GE284 GE309)) hn_))), Or.elim hk_ (fun hs_ => Or.elim hs_ (fun hs_ => hs_.2.1) (fun hs_ => hs_.2.1)) (fun hn_ => (Kd.fresh' (Kd.R_lt (zR HO_3)) k_ hn_)), Or.elim hk_ (fun hs_ => Or.elim hs_ (fun hs_ => hs_.2.2.1) (fun hs_ => hs_.2.2.1)) (fun hn_ => (Kd.fresh' (Kd.R_lt (zR HO_34)) k_ hn_)), Or.elim hk_ (fun hs_ => Or.elim hs_ (fun hs_ => hs_.2.2.2.1) (fun hs_ => hs_.2.2.2.1)) (fun hn_ => (Kd.freshB (g := gb264) (o := .cells #[.slice A0_0 l0_0.length c0_0, .slice A0_1 l0_1.length c0_1] 24 (0, 0)) (zb BK264) k_ hn_)), Or.elim hk_ (fun hs_ => Or.elim hs_ (fun hs_ => hs_.2.2.2.2.1) (fun hs_ => hs_.2.2.2.2.1)) (fun hn_ => (Kd.freshB (g := gb283) (o := .cells #[.slice Ao25 t274.length co25, .slice Ao28 t277.length co28] 24 (0, 0)) (zb BK283) k_ hn_)), Or.elim hk_ (fun hs_ => Or.elim hs_ (fun hs_ => hs_.2.2.2.2.2.1) (fun hs_ => hs_.2.2.2.2.2.1)) (fun hn_ => (Kd.freshB (g := gb284) (o := .cells #[.slice Ao77 x285000_2.length co77, .slice Ao78 x285001_2.length co78] 24 (0, 0)) (zb BK284) k_ hn_)), Or.elim hk_ (fun hs_ => Or.elim hs_ (fun hs_ => hs_.2.2.2.2.2.2) (fun hs_ => hs_.2.2.2.2.2.2)) (fun hn_ => (Kd.freshB (g := gb309) (o := .cells #[.slice Ao81 t300.length co81, .slice Ao86 t303.length co86] 24 (0, 0)) (zb BK309) k_ hn_))⟩)) (below_size (zc4 HB GE264 GE283 GE284 GE309))); have n15_ := Aside0.mk (blk_below (g := gb264) (o := .cells #[.slice A0_0 l0_0.length c0_0, .slice A0_1 l0_1.length c0_1] 24 (0, 0)) (zb BK264) hb); have n16_ := Aside0.mk (blk_below (g := gb283) (o := .cells #[.slice Ao25 t274.length co25, .slice Ao28 t277.length co28] 24 (0, 0)) (zb BK283) hb); have n17_ := Aside0.mk (blk_below (g := gb284) (o := .cells #[.slice Ao77 x285000_2.length co77, .slice Ao78 x285001_2.length co78] 24 (0, 0)) (zb BK284) hb); have n18_ := Aside0.mk (blk_below (g := gb309) (o := .cells #[.slice Ao81 t300.length co81, .slice Ao86 t303.length co86] 24 (0, 0)) (zb BK309) hb); have n19_ := Aside0.mk (below_step (zc4 HB GE264 GE283 GE284 GE309) hb); clear HO_3; clear HO_5; clear HO_34; clear HO_265000; clear HO_265001; clear HO_284000; clear HO_284001; clear HO_285000; clear HO_285001; clear HO302; clear HO305; clear HO308; clear BK264; clear BK283; clear BK284; clear BK309; clear HB; have HO_3 := n0_; have HO_5 := n1_; have HO_34 := n2_; have HO_265000 := n3_; have HO_265001 := n4_; have HO_284000 := n5_; have HO_284001 := n6_; have HO_285000 := n7_; have HO_285001 := n8_; have HO302 := n9_; have HO305 := n10_; have HO308 := n11_; have HO312 := n12_; have HO315 := n13_; have HO318 := n14_; have BK264 := n15_; have BK283 := n16_; have BK284 := n17_; have BK309 := n18_; have HB := n19_; clear n0_ n1_ n2_ n3_ n4_ n5_ n6_ n7_ n8_ n9_ n10_ n11_ n12_ n13_ n14_ n15_ n16_ n17_ n18_ n19_; (try clear hb); (try clear hb2); (try clear hk); (try clear hi); (try clear ho0); (try clear ho1); (try clear ho2)) | ((with_reducible refine gate_dst (N := 13) rfl ?_); (try (refine gate_guard (by rfl) ?_; dsimp only)); refine box_event ?hg (N := 13) ?hd (cs := #[.slice none 0 0, .slice none 0 0]) (t := 24) ?hr ?_; (case hd => rfl); (case hg => rfl); (case hr => first | (go_simp; done) | (go_simp; rfl)); intro gb319 hg w91 hbox hb; have n0_ := Aside0.mk (Kd.R_below (zR HO_3) hb); have n1_ := Aside0.mk (Kd.V_below (Kd.V_elderB (zV HO_5) gb319 (Nat.le_of_eq hg.symm)) hb); have n2_ := Aside0.mk (Kd.R_below (zR HO_34) hb); have n3_ := Aside0.mk (Kd.V_below (Kd.V_elderB (zV HO_265000) gb319 (Nat.le_of_eq hg.symm)) hb); have n4_ := Aside0.mk (Kd.V_below (Kd.V_elderB (zV HO_265001) gb319 (Nat.le_of_eq hg.symm)) hb); have n5_ := Aside0.mk (Kd.V_below (Kd.V_elderB (zV HO_284000) gb319 (Nat.le_of_eq hg.symm)) hb); have n6_ := Aside0.mk (Kd.V_below (Kd.V_elderB (zV HO_284001) gb319 (Nat.le_of_eq hg.symm)) hb); have n7_ := Aside0.mk (Kd.V_below (Kd.V_elderB (zV HO_285000) gb319 (Nat.le_of_eq hg.symm)) hb); have n8_ := Aside0.mk (Kd.V_below (Kd.V_elderB (zV HO_285001) gb319 (Nat.le_of_eq hg.symm)) hb); have n9_ := Aside0.mk (Kd.V_below (Kd.V_elderB (zV HO302) gb319 (Nat.le_of_eq hg.symm)) hb); have n10_ := Aside0.mk (Kd.V_below (Kd.V_elderB (zV HO305) gb319 (Nat.le_of_eq hg.symm)) hb); have n11_ := Aside0.mk (Kd.V_below (Kd.V_elderB (zV HO308) gb319 (Nat.le_of_eq hg.symm)) hb); have n12_ := Aside0.mk (Kd.V_below (Kd.V_elderB (zV HO312) gb319 (Nat.le_of_eq hg.symm)) hb); have n13_ := Aside0.mk (Kd.V_below (Kd.V_elderB (zV HO315) gb319 (Nat.le_of_eq hg.symm)) hb); have n14_ := Aside0.mk (Kd.V_below (Kd.V_elderB (zV HO318) gb319 (Nat.le_of_eq hg.symm)) hb); have n15_ := Aside0.mk (blk_below (g := gb264) (o := .cells #[.slice A0_0 l0_0.length c0_0, .slice A0_1 l0_1.length c0_1] 24 (0, 0)) (zb BK264) hb); have n16_ := Aside0.mk (blk_below (g := gb283) (o := .cells #[.slice Ao25 t274.length co25, .slice Ao28 t277.length co28] 24 (0, 0)) (zb BK283) hb); have n17_ := Aside0.mk (blk_below (g := gb284) (o := .cells #[.slice Ao77 x285000_2.length co77, .slice Ao78 x285001_2.length co78] 24 (0, 0)) (zb BK284) hb); have n18_ := Aside0.mk (blk_below (g := gb309) (o := .cells #[.slice Ao81 t300.length co81, .slice Ao86 t303.length co86] 24 (0, 0)) (zb BK309) hb); have n19_ := Aside0.mk (below_step (zc4 HB GE264 GE283 GE284 GE309) hb); have n20_ := Aside0.mk (hbox); have n21_ := Aside0.mk ((by rw [hg]; exact (below_size (zc4 HB GE264 GE283 GE284 GE309)) : w.heap.size ≤ gb319)); have n22_ := Aside0.mk ((by rw [hg]; exact (below_size (zc4 HB GE264 GE283 GE284 GE309)) : w.heap.size ≤ gb319)); have n23_ := Aside0.mk ((by rw [hg]; exact Nat.ne_of_lt (blk_lt (g := gb264) (o := .cells #[.slice A0_0 l0_0.length c0_0, .slice A0_1 l0_1.length c0_1] 24 (0, 0)) (zb BK264)) : gb264 ≠ gb319)); have n24_ := Aside0.mk ((by rw [hg]; exact Nat.ne_of_gt (blk_lt (g := gb264) (o := .cells #[.slice A0_0 l0_0.length c0_0, .slice A0_1 l0_1.length c0_1] 24 (0, 0)) (zb BK264)) : gb319 ≠ gb264)); have n25_ := Aside0.mk ((by rw [hg]; exact Nat.ne_of_lt (blk_lt (g := gb283) (o := .cells #[.slice Ao25 t274.length co25, .slice Ao28 t277.length co28] 24 (0, 0)) (zb BK283)) : gb283 ≠ gb319)); have n26_ := Aside0.mk ((by rw [hg]; exact Nat.ne_of_gt (blk_lt (g := gb283) (o := .cells #[.slice Ao25 t274.length co25, .slice Ao28 t277.length co28] 24 (0, 0)) (zb BK283)) : gb319 ≠ gb283)); have n27_ := Aside0.mk ((by rw [hg]; exact Nat.ne_of_lt (blk_lt (g := gb284) (o := .cells #[.slice Ao77 x285000_2.length co77, .slice Ao78 x285001_2.length co78] 24 (0, 0)) (zb BK284)) : gb284 ≠ gb319)); have n28_ := Aside0.mk ((by rw [hg]; exact Nat.ne_of_gt (blk_lt (g := gb284) (o := .cells #[.slice Ao77 x285000_2.length co77, .slice Ao78 x285001_2.length co78] 24 (0, 0)) (zb BK284)) : gb319 ≠ gb284)); have n29_ := Aside0.mk ((by rw [hg]; exact Nat.ne_of_lt (blk_lt (g := gb309) (o := .cells #[.slice Ao81 t300.length co81, .slice Ao86 t303.length co86] 24 (0, 0)) (zb BK309)) : gb309 ≠ gb319)); have n30_ := Aside0.mk ((by rw [hg]; exact Nat.ne_of_gt (blk_lt (g := gb309) (o := .cells #[.slice Ao81 t300.length co81, .slice Ao86 t303.length co86] 24 (0, 0)) (zb BK309)) : gb319 ≠ gb309)); clear HO_3; clear HO_5; clear HO_34; clear HO_265000; clear HO_265001; clear HO_284000; clear HO_284001; clear HO_285000; clear HO_285001; clear HO302; clear HO305; clear HO308; clear HO312; clear HO315; clear HO318; clear BK264; clear BK283; clear BK284; clear BK309; clear HB; have HO_3 := n0_; have HO_5 := n1_; have HO_34 := n2_; have HO_265000 := n3_; have HO_265001 := n4_; have HO_284000 := n5_; have HO_284001 := n6_; have HO_285000 := n7_; have HO_285001 := n8_; have HO302 := n9_; have HO305 := n10_; have HO308 := n11_; have HO312 := n12_; have HO315 := n13_; have HO318 := n14_; have BK264 := n15_; have BK283 := n16_; have BK284 := n17_; have BK309 := n18_; have HB := n19_; have BK319 := n20_; have GW319 := n21_; have GE319 := n22_; have NB264_319 := n23_; have NB319_264 := n24_; have NB283_319 := n25_; have NB319_283 := n26_; have NB284_319 := n27_; have NB319_284 := n28_; have NB309_319 := n29_; have NB319_309 := n30_; clear n0_ n1_ n2_ n3_ n4_ n5_ n6_ n7_ n8_ n9_ n10_ n11_ n12_ n13_ n14_ n15_ n16_ n17_ n18_ n19_ n20_ n21_ n22_ n23_ n24_ n25_ n26_ n27_ n28_ n29_ n30_; clear hb hbox hg; obtain ⟨Ao92, co92, eo92⟩ := Kd.V_slice HO312.out; subst eo92; have hnb93 := NB319_264.out; have hnc93 := NB264_319.out; have hnb94 := NB319_283.out; have hnc94 := NB283_319.out; have hnb95 := NB319_284.out; have hnc95 := NB284_319.out; have hnb96 := NB319_309.out; have hnc96 := NB309_319.out; have hcz97_0 : w91.cell? ⟨gb319, 0, none⟩ = some (.slice none 0 0) := (blk_cell BK319.out 0).trans rfl; have hcz97_1 : w91.cell? ⟨gb319, 1, none⟩ = some (.slice none 0 0) := (blk_cell BK319.out 1).trans rfl; have hfz97_0 := blk_frozen BK319.out 0; have hfz97_1 := blk_frozen BK319.out 1; obtain ⟨Ao98, co98, eo98⟩ := Kd.V_slice HO315.out; subst eo98))
            have n0_ : Aside0 (Kd.R (Kd.int .i64) 3 ((w91.setCell ⟨gb319, 0, none⟩ (.slice Ao92 t310.length co92)).setCell ⟨gb319, 1, none⟩ (.slice Ao98 t313.length co98)) w.heap.size (fun k_ => (w.heap.size ≤ k_)) (.slice Ao34 y271.length co34) y271) := ⟨by (with_reducible repeat (first | apply Kd.R_alloc | apply Kd.R_drewN | apply Kd.R_drew)); exact Kd.R_mono (Kd.R_far (p := ⟨gb319, 1, none⟩) (Kd.R_far (p := ⟨gb319, 0, none⟩) (Kd.R_types HO_3.out BK319.out (by decide)) (fun _ hk => hk.2) (.slice Ao92 t310.length co92)) (fun _ hk => hk.2) (.slice Ao98 t313.length co98)) (fun _ hk => hk.1)⟩
            have n1_ : Aside0 (Kd.V (Kd.int .i64) 3 ((w91.setCell ⟨gb319, 0, none⟩ (.slice Ao92 t310.length co92)).setCell ⟨gb319, 1, none⟩ (.slice Ao98 t313.length co98)) w.heap.size (fun k_ => ((P0_0_ k_ ∨ P0_1_ k_) ∨ w.heap.size ≤ k_) ∧ some k_ ≠ (.slice Ao34 y271.length co34 : Value).ownBlock ∧ some k_ ≠ (.slice Ao34 y271.length co34 : Value).ownBlock ∧ k_ ≠ gb264 ∧ k_ ≠ gb283 ∧ k_ ≠ gb284 ∧ k_ ≠ gb309 ∧ k_ ≠ gb319) v281 t280) := ⟨by (with_reducible repeat (first | apply Kd.V_alloc | apply Kd.V_drewN | apply Kd.V_drew)); exact Kd.V_mono (Kd.V_far (p := ⟨gb319, 1, none⟩) (Kd.V_far (p := ⟨gb319, 0, none⟩) (Kd.V_mono HO_5.out (fun k_ hk => (⟨hk, hk.2⟩ : _ ∧ k_ ≠ gb319))) (fun _ hk => hk.2) (.slice Ao92 t310.length co92)) (fun _ hk => hk.2) (.slice Ao98 t313.length co98)) (fun _ hk => ⟨hk.1.1.1, ⟨hk.1.1.2.1, ⟨hk.1.1.2.2.1, ⟨hk.1.1.2.2.2.1, ⟨hk.1.1.2.2.2.2.1, ⟨hk.1.1.2.2.2.2.2.1, ⟨hk.1.1.2.2.2.2.2.2, hk.1.2⟩⟩⟩⟩⟩⟩⟩)⟩
            have n2_ : Aside0 (Kd.R (Kd.int .i64) 3 ((w91.setCell ⟨gb319, 0, none⟩ (.slice Ao92 t310.length co92)).setCell ⟨gb319, 1, none⟩ (.slice Ao98 t313.length co98)) w.heap.size (fun k_ => (w.heap.size ≤ k_)) (.slice Ao34 y271.length co34) y271) := ⟨by (with_reducible repeat (first | apply Kd.R_alloc | apply Kd.R_drewN | apply Kd.R_drew)); exact Kd.R_mono (Kd.R_far (p := ⟨gb319, 1, none⟩) (Kd.R_far (p := ⟨gb319, 0, none⟩) (Kd.R_types HO_34.out BK319.out (by decide)) (fun _ hk => hk.2) (.slice Ao92 t310.length co92)) (fun _ hk => hk.2) (.slice Ao98 t313.length co98)) (fun _ hk => hk.1)⟩
            have n3_ : Aside0 (Kd.V (Kd.int .i64) 3 ((w91.setCell ⟨gb319, 0, none⟩ (.slice Ao92 t310.length co92)).setCell ⟨gb319, 1, none⟩ (.slice Ao98 t313.length co98)) w.heap.size (fun k_ => ((P0_0_ k_ ∨ P0_1_ k_) ∨ w.heap.size ≤ k_) ∧ some k_ ≠ (.slice Ao34 y271.length co34 : Value).ownBlock ∧ some k_ ≠ (.slice Ao34 y271.length co34 : Value).ownBlock ∧ k_ ≠ gb264 ∧ k_ ≠ gb283 ∧ k_ ≠ gb284 ∧ k_ ≠ gb309 ∧ k_ ≠ gb319) (.slice A0_0 l0_0.length c0_0) l0_0) := ⟨by (with_reducible repeat (first | apply Kd.V_alloc | apply Kd.V_drewN | apply Kd.V_drew)); exact Kd.V_mono (Kd.V_far (p := ⟨gb319, 1, none⟩) (Kd.V_far (p := ⟨gb319, 0, none⟩) (Kd.V_mono HO_265000.out (fun k_ hk => (⟨hk, hk.2⟩ : _ ∧ k_ ≠ gb319))) (fun _ hk => hk.2) (.slice Ao92 t310.length co92)) (fun _ hk => hk.2) (.slice Ao98 t313.length co98)) (fun _ hk => ⟨hk.1.1.1, ⟨hk.1.1.2.1, ⟨hk.1.1.2.2.1, ⟨hk.1.1.2.2.2.1, ⟨hk.1.1.2.2.2.2.1, ⟨hk.1.1.2.2.2.2.2.1, ⟨hk.1.1.2.2.2.2.2.2, hk.1.2⟩⟩⟩⟩⟩⟩⟩)⟩
            have n4_ : Aside0 (Kd.V (Kd.int .i64) 3 ((w91.setCell ⟨gb319, 0, none⟩ (.slice Ao92 t310.length co92)).setCell ⟨gb319, 1, none⟩ (.slice Ao98 t313.length co98)) w.heap.size (fun k_ => ((P0_0_ k_ ∨ P0_1_ k_) ∨ w.heap.size ≤ k_) ∧ some k_ ≠ (.slice Ao34 y271.length co34 : Value).ownBlock ∧ some k_ ≠ (.slice Ao34 y271.length co34 : Value).ownBlock ∧ k_ ≠ gb264 ∧ k_ ≠ gb283 ∧ k_ ≠ gb284 ∧ k_ ≠ gb309 ∧ k_ ≠ gb319) (.slice A0_1 l0_1.length c0_1) l0_1) := ⟨by (with_reducible repeat (first | apply Kd.V_alloc | apply Kd.V_drewN | apply Kd.V_drew)); exact Kd.V_mono (Kd.V_far (p := ⟨gb319, 1, none⟩) (Kd.V_far (p := ⟨gb319, 0, none⟩) (Kd.V_mono HO_265001.out (fun k_ hk => (⟨hk, hk.2⟩ : _ ∧ k_ ≠ gb319))) (fun _ hk => hk.2) (.slice Ao92 t310.length co92)) (fun _ hk => hk.2) (.slice Ao98 t313.length co98)) (fun _ hk => ⟨hk.1.1.1, ⟨hk.1.1.2.1, ⟨hk.1.1.2.2.1, ⟨hk.1.1.2.2.2.1, ⟨hk.1.1.2.2.2.2.1, ⟨hk.1.1.2.2.2.2.2.1, ⟨hk.1.1.2.2.2.2.2.2, hk.1.2⟩⟩⟩⟩⟩⟩⟩)⟩
            have n5_ : Aside0 (Kd.V (Kd.int .i64) 3 ((w91.setCell ⟨gb319, 0, none⟩ (.slice Ao92 t310.length co92)).setCell ⟨gb319, 1, none⟩ (.slice Ao98 t313.length co98)) w.heap.size (fun k_ => ((P0_0_ k_ ∨ P0_1_ k_) ∨ w.heap.size ≤ k_) ∧ some k_ ≠ (.slice Ao34 y271.length co34 : Value).ownBlock ∧ some k_ ≠ (.slice Ao34 y271.length co34 : Value).ownBlock ∧ k_ ≠ gb264 ∧ k_ ≠ gb283 ∧ k_ ≠ gb284 ∧ k_ ≠ gb309 ∧ k_ ≠ gb319) (.slice Ao25 t274.length co25) t274) := ⟨by (with_reducible repeat (first | apply Kd.V_alloc | apply Kd.V_drewN | apply Kd.V_drew)); exact Kd.V_mono (Kd.V_far (p := ⟨gb319, 1, none⟩) (Kd.V_far (p := ⟨gb319, 0, none⟩) (Kd.V_mono HO_284000.out (fun k_ hk => (⟨hk, hk.2⟩ : _ ∧ k_ ≠ gb319))) (fun _ hk => hk.2) (.slice Ao92 t310.length co92)) (fun _ hk => hk.2) (.slice Ao98 t313.length co98)) (fun _ hk => ⟨hk.1.1.1, ⟨hk.1.1.2.1, ⟨hk.1.1.2.2.1, ⟨hk.1.1.2.2.2.1, ⟨hk.1.1.2.2.2.2.1, ⟨hk.1.1.2.2.2.2.2.1, ⟨hk.1.1.2.2.2.2.2.2, hk.1.2⟩⟩⟩⟩⟩⟩⟩)⟩
            have n6_ : Aside0 (Kd.V (Kd.int .i64) 3 ((w91.setCell ⟨gb319, 0, none⟩ (.slice Ao92 t310.length co92)).setCell ⟨gb319, 1, none⟩ (.slice Ao98 t313.length co98)) w.heap.size (fun k_ => ((P0_0_ k_ ∨ P0_1_ k_) ∨ w.heap.size ≤ k_) ∧ some k_ ≠ (.slice Ao34 y271.length co34 : Value).ownBlock ∧ some k_ ≠ (.slice Ao34 y271.length co34 : Value).ownBlock ∧ k_ ≠ gb264 ∧ k_ ≠ gb283 ∧ k_ ≠ gb284 ∧ k_ ≠ gb309 ∧ k_ ≠ gb319) (.slice Ao28 t277.length co28) t277) := ⟨by (with_reducible repeat (first | apply Kd.V_alloc | apply Kd.V_drewN | apply Kd.V_drew)); exact Kd.V_mono (Kd.V_far (p := ⟨gb319, 1, none⟩) (Kd.V_far (p := ⟨gb319, 0, none⟩) (Kd.V_mono HO_284001.out (fun k_ hk => (⟨hk, hk.2⟩ : _ ∧ k_ ≠ gb319))) (fun _ hk => hk.2) (.slice Ao92 t310.length co92)) (fun _ hk => hk.2) (.slice Ao98 t313.length co98)) (fun _ hk => ⟨hk.1.1.1, ⟨hk.1.1.2.1, ⟨hk.1.1.2.2.1, ⟨hk.1.1.2.2.2.1, ⟨hk.1.1.2.2.2.2.1, ⟨hk.1.1.2.2.2.2.2.1, ⟨hk.1.1.2.2.2.2.2.2, hk.1.2⟩⟩⟩⟩⟩⟩⟩)⟩
            have n7_ : Aside0 (Kd.V (Kd.int .i64) 3 ((w91.setCell ⟨gb319, 0, none⟩ (.slice Ao92 t310.length co92)).setCell ⟨gb319, 1, none⟩ (.slice Ao98 t313.length co98)) w.heap.size (fun k_ => ((P0_0_ k_ ∨ P0_1_ k_) ∨ w.heap.size ≤ k_) ∧ some k_ ≠ (.slice Ao34 y271.length co34 : Value).ownBlock ∧ some k_ ≠ (.slice Ao34 y271.length co34 : Value).ownBlock ∧ k_ ≠ gb264 ∧ k_ ≠ gb283 ∧ k_ ≠ gb284 ∧ k_ ≠ gb309 ∧ k_ ≠ gb319) (.slice Ao77 x285000_2.length co77) x285000_2) := ⟨by (with_reducible repeat (first | apply Kd.V_alloc | apply Kd.V_drewN | apply Kd.V_drew)); exact Kd.V_mono (Kd.V_far (p := ⟨gb319, 1, none⟩) (Kd.V_far (p := ⟨gb319, 0, none⟩) (Kd.V_mono HO_285000.out (fun k_ hk => (⟨hk, hk.2⟩ : _ ∧ k_ ≠ gb319))) (fun _ hk => hk.2) (.slice Ao92 t310.length co92)) (fun _ hk => hk.2) (.slice Ao98 t313.length co98)) (fun _ hk => ⟨hk.1.1.1, ⟨hk.1.1.2.1, ⟨hk.1.1.2.2.1, ⟨hk.1.1.2.2.2.1, ⟨hk.1.1.2.2.2.2.1, ⟨hk.1.1.2.2.2.2.2.1, ⟨hk.1.1.2.2.2.2.2.2, hk.1.2⟩⟩⟩⟩⟩⟩⟩)⟩
            have n8_ : Aside0 (Kd.V (Kd.int .i64) 3 ((w91.setCell ⟨gb319, 0, none⟩ (.slice Ao92 t310.length co92)).setCell ⟨gb319, 1, none⟩ (.slice Ao98 t313.length co98)) w.heap.size (fun k_ => ((P0_0_ k_ ∨ P0_1_ k_) ∨ w.heap.size ≤ k_) ∧ some k_ ≠ (.slice Ao34 y271.length co34 : Value).ownBlock ∧ some k_ ≠ (.slice Ao34 y271.length co34 : Value).ownBlock ∧ k_ ≠ gb264 ∧ k_ ≠ gb283 ∧ k_ ≠ gb284 ∧ k_ ≠ gb309 ∧ k_ ≠ gb319) (.slice Ao78 x285001_2.length co78) x285001_2) := ⟨by (with_reducible repeat (first | apply Kd.V_alloc | apply Kd.V_drewN | apply Kd.V_drew)); exact Kd.V_mono (Kd.V_far (p := ⟨gb319, 1, none⟩) (Kd.V_far (p := ⟨gb319, 0, none⟩) (Kd.V_mono HO_285001.out (fun k_ hk => (⟨hk, hk.2⟩ : _ ∧ k_ ≠ gb319))) (fun _ hk => hk.2) (.slice Ao92 t310.length co92)) (fun _ hk => hk.2) (.slice Ao98 t313.length co98)) (fun _ hk => ⟨hk.1.1.1, ⟨hk.1.1.2.1, ⟨hk.1.1.2.2.1, ⟨hk.1.1.2.2.2.1, ⟨hk.1.1.2.2.2.2.1, ⟨hk.1.1.2.2.2.2.2.1, ⟨hk.1.1.2.2.2.2.2.2, hk.1.2⟩⟩⟩⟩⟩⟩⟩)⟩
            have n9_ : Aside0 (Kd.V (Kd.int .i64) 3 ((w91.setCell ⟨gb319, 0, none⟩ (.slice Ao92 t310.length co92)).setCell ⟨gb319, 1, none⟩ (.slice Ao98 t313.length co98)) w.heap.size (fun k_ => ((P0_0_ k_ ∨ P0_1_ k_) ∨ w.heap.size ≤ k_) ∧ some k_ ≠ (.slice Ao34 y271.length co34 : Value).ownBlock ∧ some k_ ≠ (.slice Ao34 y271.length co34 : Value).ownBlock ∧ k_ ≠ gb264 ∧ k_ ≠ gb283 ∧ k_ ≠ gb284 ∧ k_ ≠ gb309 ∧ k_ ≠ gb319) (.slice Ao81 t300.length co81) t300) := ⟨by (with_reducible repeat (first | apply Kd.V_alloc | apply Kd.V_drewN | apply Kd.V_drew)); exact Kd.V_mono (Kd.V_far (p := ⟨gb319, 1, none⟩) (Kd.V_far (p := ⟨gb319, 0, none⟩) (Kd.V_mono HO302.out (fun k_ hk => (⟨hk, hk.2⟩ : _ ∧ k_ ≠ gb319))) (fun _ hk => hk.2) (.slice Ao92 t310.length co92)) (fun _ hk => hk.2) (.slice Ao98 t313.length co98)) (fun _ hk => ⟨hk.1.1.1, ⟨hk.1.1.2.1, ⟨hk.1.1.2.2.1, ⟨hk.1.1.2.2.2.1, ⟨hk.1.1.2.2.2.2.1, ⟨hk.1.1.2.2.2.2.2.1, ⟨hk.1.1.2.2.2.2.2.2, hk.1.2⟩⟩⟩⟩⟩⟩⟩)⟩
            have n10_ : Aside0 (Kd.V (Kd.int .i64) 3 ((w91.setCell ⟨gb319, 0, none⟩ (.slice Ao92 t310.length co92)).setCell ⟨gb319, 1, none⟩ (.slice Ao98 t313.length co98)) w.heap.size (fun k_ => ((P0_0_ k_ ∨ P0_1_ k_) ∨ w.heap.size ≤ k_) ∧ some k_ ≠ (.slice Ao34 y271.length co34 : Value).ownBlock ∧ some k_ ≠ (.slice Ao34 y271.length co34 : Value).ownBlock ∧ k_ ≠ gb264 ∧ k_ ≠ gb283 ∧ k_ ≠ gb284 ∧ k_ ≠ gb309 ∧ k_ ≠ gb319) (.slice Ao86 t303.length co86) t303) := ⟨by (with_reducible repeat (first | apply Kd.V_alloc | apply Kd.V_drewN | apply Kd.V_drew)); exact Kd.V_mono (Kd.V_far (p := ⟨gb319, 1, none⟩) (Kd.V_far (p := ⟨gb319, 0, none⟩) (Kd.V_mono HO305.out (fun k_ hk => (⟨hk, hk.2⟩ : _ ∧ k_ ≠ gb319))) (fun _ hk => hk.2) (.slice Ao92 t310.length co92)) (fun _ hk => hk.2) (.slice Ao98 t313.length co98)) (fun _ hk => ⟨hk.1.1.1, ⟨hk.1.1.2.1, ⟨hk.1.1.2.2.1, ⟨hk.1.1.2.2.2.1, ⟨hk.1.1.2.2.2.2.1, ⟨hk.1.1.2.2.2.2.2.1, ⟨hk.1.1.2.2.2.2.2.2, hk.1.2⟩⟩⟩⟩⟩⟩⟩)⟩
            have n11_ : Aside0 (Kd.V (Kd.int .i64) 3 ((w91.setCell ⟨gb319, 0, none⟩ (.slice Ao92 t310.length co92)).setCell ⟨gb319, 1, none⟩ (.slice Ao98 t313.length co98)) w.heap.size (fun k_ => ((P0_0_ k_ ∨ P0_1_ k_) ∨ w.heap.size ≤ k_) ∧ some k_ ≠ (.slice Ao34 y271.length co34 : Value).ownBlock ∧ some k_ ≠ (.slice Ao34 y271.length co34 : Value).ownBlock ∧ k_ ≠ gb264 ∧ k_ ≠ gb283 ∧ k_ ≠ gb284 ∧ k_ ≠ gb309 ∧ k_ ≠ gb319) v307 t306) := ⟨by (with_reducible repeat (first | apply Kd.V_alloc | apply Kd.V_drewN | apply Kd.V_drew)); exact Kd.V_mono (Kd.V_far (p := ⟨gb319, 1, none⟩) (Kd.V_far (p := ⟨gb319, 0, none⟩) (Kd.V_mono HO308.out (fun k_ hk => (⟨hk, hk.2⟩ : _ ∧ k_ ≠ gb319))) (fun _ hk => hk.2) (.slice Ao92 t310.length co92)) (fun _ hk => hk.2) (.slice Ao98 t313.length co98)) (fun _ hk => ⟨hk.1.1.1, ⟨hk.1.1.2.1, ⟨hk.1.1.2.2.1, ⟨hk.1.1.2.2.2.1, ⟨hk.1.1.2.2.2.2.1, ⟨hk.1.1.2.2.2.2.2.1, ⟨hk.1.1.2.2.2.2.2.2, hk.1.2⟩⟩⟩⟩⟩⟩⟩)⟩
            have n12_ : Aside0 (Kd.V (Kd.int .i64) 3 ((w91.setCell ⟨gb319, 0, none⟩ (.slice Ao92 t310.length co92)).setCell ⟨gb319, 1, none⟩ (.slice Ao98 t313.length co98)) w.heap.size (fun k_ => ((P0_0_ k_ ∨ P0_1_ k_) ∨ w.heap.size ≤ k_) ∧ some k_ ≠ (.slice Ao34 y271.length co34 : Value).ownBlock ∧ some k_ ≠ (.slice Ao34 y271.length co34 : Value).ownBlock ∧ k_ ≠ gb264 ∧ k_ ≠ gb283 ∧ k_ ≠ gb284 ∧ k_ ≠ gb309 ∧ k_ ≠ gb319) (.slice Ao92 t310.length co92) t310) := ⟨by (with_reducible repeat (first | apply Kd.V_alloc | apply Kd.V_drewN | apply Kd.V_drew)); exact Kd.V_mono (Kd.V_far (p := ⟨gb319, 1, none⟩) (Kd.V_far (p := ⟨gb319, 0, none⟩) (Kd.V_mono HO312.out (fun k_ hk => (⟨hk, hk.2⟩ : _ ∧ k_ ≠ gb319))) (fun _ hk => hk.2) (.slice Ao92 t310.length co92)) (fun _ hk => hk.2) (.slice Ao98 t313.length co98)) (fun _ hk => ⟨hk.1.1.1, ⟨hk.1.1.2.1, ⟨hk.1.1.2.2.1, ⟨hk.1.1.2.2.2.1, ⟨hk.1.1.2.2.2.2.1, ⟨hk.1.1.2.2.2.2.2.1, ⟨hk.1.1.2.2.2.2.2.2, hk.1.2⟩⟩⟩⟩⟩⟩⟩)⟩
            have n13_ : Aside0 (Kd.V (Kd.int .i64) 3 ((w91.setCell ⟨gb319, 0, none⟩ (.slice Ao92 t310.length co92)).setCell ⟨gb319, 1, none⟩ (.slice Ao98 t313.length co98)) w.heap.size (fun k_ => ((P0_0_ k_ ∨ P0_1_ k_) ∨ w.heap.size ≤ k_) ∧ some k_ ≠ (.slice Ao34 y271.length co34 : Value).ownBlock ∧ some k_ ≠ (.slice Ao34 y271.length co34 : Value).ownBlock ∧ k_ ≠ gb264 ∧ k_ ≠ gb283 ∧ k_ ≠ gb284 ∧ k_ ≠ gb309 ∧ k_ ≠ gb319) (.slice Ao98 t313.length co98) t313) := ⟨by (with_reducible repeat (first | apply Kd.V_alloc | apply Kd.V_drewN | apply Kd.V_drew)); exact Kd.V_mono (Kd.V_far (p := ⟨gb319, 1, none⟩) (Kd.V_far (p := ⟨gb319, 0, none⟩) (Kd.V_mono HO315.out (fun k_ hk => (⟨hk, hk.2⟩ : _ ∧ k_ ≠ gb319))) (fun _ hk => hk.2) (.slice Ao92 t310.length co92)) (fun _ hk => hk.2) (.slice Ao98 t313.length co98)) (fun _ hk => ⟨hk.1.1.1, ⟨hk.1.1.2.1, ⟨hk.1.1.2.2.1, ⟨hk.1.1.2.2.2.1, ⟨hk.1.1.2.2.2.2.1, ⟨hk.1.1.2.2.2.2.2.1, ⟨hk.1.1.2.2.2.2.2.2, hk.1.2⟩⟩⟩⟩⟩⟩⟩)⟩
            have n14_ : Aside0 (Kd.V (Kd.int .i64) 3 ((w91.setCell ⟨gb319, 0, none⟩ (.slice Ao92 t310.length co92)).setCell ⟨gb319, 1, none⟩ (.slice Ao98 t313.length co98)) w.heap.size (fun k_ => ((P0_0_ k_ ∨ P0_1_ k_) ∨ w.heap.size ≤ k_) ∧ some k_ ≠ (.slice Ao34 y271.length co34 : Value).ownBlock ∧ some k_ ≠ (.slice Ao34 y271.length co34 : Value).ownBlock ∧ k_ ≠ gb264 ∧ k_ ≠ gb283 ∧ k_ ≠ gb284 ∧ k_ ≠ gb309 ∧ k_ ≠ gb319) v317 t316) := ⟨by (with_reducible repeat (first | apply Kd.V_alloc | apply Kd.V_drewN | apply Kd.V_drew)); exact Kd.V_mono (Kd.V_far (p := ⟨gb319, 1, none⟩) (Kd.V_far (p := ⟨gb319, 0, none⟩) (Kd.V_mono HO318.out (fun k_ hk => (⟨hk, hk.2⟩ : _ ∧ k_ ≠ gb319))) (fun _ hk => hk.2) (.slice Ao92 t310.length co92)) (fun _ hk => hk.2) (.slice Ao98 t313.length co98)) (fun _ hk => ⟨hk.1.1.1, ⟨hk.1.1.2.1, ⟨hk.1.1.2.2.1, ⟨hk.1.1.2.2.2.1, ⟨hk.1.1.2.2.2.2.1, ⟨hk.1.1.2.2.2.2.2.1, ⟨hk.1.1.2.2.2.2.2.2, hk.1.2⟩⟩⟩⟩⟩⟩⟩)⟩
            have n15_ : Aside0 (((w91.setCell ⟨gb319, 0, none⟩ (.slice Ao92 t310.length co92)).setCell ⟨gb319, 1, none⟩ (.slice Ao98 t313.length co98)).heap[gb264]? = some (.cells #[.slice A0_0 l0_0.length c0_0, .slice A0_1 l0_1.length c0_1] 24 (0, 0))) := ⟨by (with_reducible repeat (first | refine blk_drewN ?_ _ | refine blk_drew ?_ | refine blk_alloc ?_ _)); refine blk_far ?_ NB264_319.out _; (with_reducible repeat (first | refine blk_drewN ?_ _ | refine blk_drew ?_ | refine blk_alloc ?_ _)); refine blk_far ?_ NB264_319.out _; (with_reducible repeat (first | refine blk_drewN ?_ _ | refine blk_drew ?_ | refine blk_alloc ?_ _)); exact BK264.out⟩
            have n16_ : Aside0 (((w91.setCell ⟨gb319, 0, none⟩ (.slice Ao92 t310.length co92)).setCell ⟨gb319, 1, none⟩ (.slice Ao98 t313.length co98)).heap[gb283]? = some (.cells #[.slice Ao25 t274.length co25, .slice Ao28 t277.length co28] 24 (0, 0))) := ⟨by (with_reducible repeat (first | refine blk_drewN ?_ _ | refine blk_drew ?_ | refine blk_alloc ?_ _)); refine blk_far ?_ NB283_319.out _; (with_reducible repeat (first | refine blk_drewN ?_ _ | refine blk_drew ?_ | refine blk_alloc ?_ _)); refine blk_far ?_ NB283_319.out _; (with_reducible repeat (first | refine blk_drewN ?_ _ | refine blk_drew ?_ | refine blk_alloc ?_ _)); exact BK283.out⟩
            have n17_ : Aside0 (((w91.setCell ⟨gb319, 0, none⟩ (.slice Ao92 t310.length co92)).setCell ⟨gb319, 1, none⟩ (.slice Ao98 t313.length co98)).heap[gb284]? = some (.cells #[.slice Ao77 x285000_2.length co77, .slice Ao78 x285001_2.length co78] 24 (0, 0))) := ⟨by (with_reducible repeat (first | refine blk_drewN ?_ _ | refine blk_drew ?_ | refine blk_alloc ?_ _)); refine blk_far ?_ NB284_319.out _; (with_reducible repeat (first | refine blk_drewN ?_ _ | refine blk_drew ?_ | refine blk_alloc ?_ _)); refine blk_far ?_ NB284_319.out _; (with_reducible repeat (first | refine blk_drewN ?_ _ | refine blk_drew ?_ | refine blk_alloc ?_ _)); exact BK284.out⟩
            have n18_ : Aside0 (((w91.setCell ⟨gb319, 0, none⟩ (.slice Ao92 t310.length co92)).setCell ⟨gb319, 1, none⟩ (.slice Ao98 t313.length co98)).heap[gb309]? = some (.cells #[.slice Ao81 t300.length co81, .slice Ao86 t303.length co86] 24 (0, 0))) := ⟨by (with_reducible repeat (first | refine blk_drewN ?_ _ | refine blk_drew ?_ | refine blk_alloc ?_ _)); refine blk_far ?_ NB309_319.out _; (with_reducible repeat (first | refine blk_drewN ?_ _ | refine blk_drew ?_ | refine blk_alloc ?_ _)); refine blk_far ?_ NB309_319.out _; (with_reducible repeat (first | refine blk_drewN ?_ _ | refine blk_drew ?_ | refine blk_alloc ?_ _)); exact BK309.out⟩
            have n19_ : Aside0 (((w91.setCell ⟨gb319, 0, none⟩ (.slice Ao92 t310.length co92)).setCell ⟨gb319, 1, none⟩ (.slice Ao98 t313.length co98)).heap[gb319]? = some (.cells #[.slice Ao92 t310.length co92, .slice Ao98 t313.length co98] 24 (0, 0))) := ⟨by (with_reducible repeat (first | refine blk_drewN ?_ _ | refine blk_drew ?_ | refine blk_alloc ?_ _)); refine blk_put (cs := #[.slice Ao92 t310.length co92, .slice none 0 0]) ?_ 1 _ rfl; (with_reducible repeat (first | refine blk_drewN ?_ _ | refine blk_drew ?_ | refine blk_alloc ?_ _)); refine blk_put (cs := #[.slice none 0 0, .slice none 0 0]) ?_ 0 _ rfl; (with_reducible repeat (first | refine blk_drewN ?_ _ | refine blk_drew ?_ | refine blk_alloc ?_ _)); exact BK319.out⟩
            have n20_ : Aside0 (Below w.heap.size w ((w91.setCell ⟨gb319, 0, none⟩ (.slice Ao92 t310.length co92)).setCell ⟨gb319, 1, none⟩ (.slice Ao98 t313.length co98))) := ⟨by repeat (first | (with_reducible first | exact HB.out | apply below_alloc | apply pw_below_drewN | apply below_drew1 | refine below_set ?_ GE264.out | refine below_set ?_ GE283.out | refine below_set ?_ GE284.out | refine below_set ?_ GE309.out | refine below_set ?_ GE319.out) | exact HB.out)⟩
            (try clear HO_3)
            (try clear HO_5)
            (try clear HO_34)
            (try clear HO_265000)
            (try clear HO_265001)
            (try clear HO_284000)
            (try clear HO_284001)
            (try clear HO_285000)
            (try clear HO_285001)
            (try clear HO302)
            (try clear HO305)
            (try clear HO308)
            (try clear HO312)
            (try clear HO315)
            (try clear HO318)
            (try clear BK264)
            (try clear BK283)
            (try clear BK284)
            (try clear BK309)
            (try clear BK319)
            (try clear HB)
            generalize ((w91.setCell ⟨gb319, 0, none⟩ (.slice Ao92 t310.length co92)).setCell ⟨gb319, 1, none⟩ (.slice Ao98 t313.length co98)) = w99 at n0_ n1_ n2_ n3_ n4_ n5_ n6_ n7_ n8_ n9_ n10_ n11_ n12_ n13_ n14_ n15_ n16_ n17_ n18_ n19_ n20_ ⊢
            have HO_3 := n0_
            have HO_5 := n1_
            have HO_34 := n2_
            have HO_265000 := n3_
            have HO_265001 := n4_
            have HO_284000 := n5_
            have HO_284001 := n6_
            have HO_285000 := n7_
            have HO_285001 := n8_
            have HO302 := n9_
            have HO305 := n10_
            have HO308 := n11_
            have HO312 := n12_
            have HO315 := n13_
            have HO318 := n14_
            have BK264 := n15_
            have BK283 := n16_
            have BK284 := n17_
            have BK309 := n18_
            have BK319 := n19_
            have HB := n20_
            clear n0_ n1_ n2_ n3_ n4_ n5_ n6_ n7_ n8_ n9_ n10_ n11_ n12_ n13_ n14_ n15_ n16_ n17_ n18_ n19_ n20_
            have n0_ := Aside0.mk (Kd.R_drew HO_3.out)
            have n1_ := Aside0.mk (Kd.V_drew HO_5.out)
            have n2_ := Aside0.mk (Kd.R_drew HO_34.out)
            have n3_ := Aside0.mk (Kd.V_drew HO_265000.out)
            have n4_ := Aside0.mk (Kd.V_drew HO_265001.out)
            have n5_ := Aside0.mk (Kd.V_drew HO_284000.out)
            have n6_ := Aside0.mk (Kd.V_drew HO_284001.out)
            have n7_ := Aside0.mk (Kd.V_drew HO_285000.out)
            have n8_ := Aside0.mk (Kd.V_drew HO_285001.out)
            have n9_ := Aside0.mk (Kd.V_drew HO302.out)
            have n10_ := Aside0.mk (Kd.V_drew HO305.out)
            have n11_ := Aside0.mk (Kd.V_drew HO308.out)
            have n12_ := Aside0.mk (Kd.V_drew HO312.out)
            have n13_ := Aside0.mk (Kd.V_drew HO315.out)
            have n14_ := Aside0.mk (Kd.V_drew HO318.out)
            have n15_ := Aside0.mk (blk_drew BK264.out)
            have n16_ := Aside0.mk (blk_drew BK283.out)
            have n17_ := Aside0.mk (blk_drew BK284.out)
            have n18_ := Aside0.mk (blk_drew BK309.out)
            have n19_ := Aside0.mk (blk_drew BK319.out)
            have n20_ := Aside0.mk (below_drew1 HB.out)
            clear HO_3
            clear HO_5
            clear HO_34
            clear HO_265000
            clear HO_265001
            clear HO_284000
            clear HO_284001
            clear HO_285000
            clear HO_285001
            clear HO302
            clear HO305
            clear HO308
            clear HO312
            clear HO315
            clear HO318
            clear BK264
            clear BK283
            clear BK284
            clear BK309
            clear BK319
            clear HB
            have HO_3 := n0_
            have HO_5 := n1_
            have HO_34 := n2_
            have HO_265000 := n3_
            have HO_265001 := n4_
            have HO_284000 := n5_
            have HO_284001 := n6_
            have HO_285000 := n7_
            have HO_285001 := n8_
            have HO302 := n9_
            have HO305 := n10_
            have HO308 := n11_
            have HO312 := n12_
            have HO315 := n13_
            have HO318 := n14_
            have BK264 := n15_
            have BK283 := n16_
            have BK284 := n17_
            have BK309 := n18_
            have BK319 := n19_
            have HB := n20_
            clear n0_ n1_ n2_ n3_ n4_ n5_ n6_ n7_ n8_ n9_ n10_ n11_ n12_ n13_ n14_ n15_ n16_ n17_ n18_ n19_ n20_
            obtain ⟨Ao101, co101, eo101⟩ := Kd.V_slice HO_5.out
            (first | subst eo101 | (injection eo101 with f1_ f2_ f3_; have f4_ := f1_.symm; have f5_ := f3_.symm; clear f1_ f2_ f3_; subst f4_; subst f5_))
            refine start_ (n := 29) (S := fun w' => w'.cell? ⟨gb283, 0, none⟩ = some (.slice Ao25 t274.length co25) ∧ w'.cell? ⟨gb283, 1, none⟩ = some (.slice Ao28 t277.length co28) ∧ w'.cell? ⟨gb284, 0, none⟩ = some (.slice Ao77 x285000_2.length co77) ∧ w'.cell? ⟨gb284, 1, none⟩ = some (.slice Ao78 x285001_2.length co78) ∧ w'.cell? ⟨gb319, 0, none⟩ = some (.slice Ao92 t310.length co92) ∧ w'.cell? ⟨gb319, 1, none⟩ = some (.slice Ao98 t313.length co98) ∧ w'.cell? ⟨gb264, 0, none⟩ = some (.slice A0_0 l0_0.length c0_0) ∧ w'.cell? ⟨gb264, 1, none⟩ = some (.slice A0_1 l0_1.length c0_1)) (ds := []) #[false, false, false, false, false, false, false, false, false, false, false, false, false, false, false, false, false, false, false, false, false, false, false, false, false, false, false, false, false] (by kernel_rfl) rfl rfl ⟨(blk_cell BK283.out 0).trans rfl, (blk_cell BK283.out 1).trans rfl, (blk_cell BK284.out 0).trans rfl, (blk_cell BK284.out 1).trans rfl, (blk_cell BK319.out 0).trans rfl, (blk_cell BK319.out 1).trans rfl, (blk_cell BK264.out 0).trans rfl, (blk_cell BK264.out 1).trans rfl⟩ (fun hHeld => ?_); refine with_tabW handshakerlaw20_CondAll.tab16 handshakerlaw20_CondAll.bits16 (fun HT_ HW_ => ?_)
            generalize w99.drew = w100 at HO_3 HO_5 HO_34 HO_265000 HO_265001 HO_284000 HO_284001 HO_285000 HO_285001 HO302 HO305 HO308 HO312 HO315 HO318 BK264 BK283 BK284 BK309 BK319 HB hHeld ⊢
            refine pure_ (i := 0) (N := some 62) (v := ?_) (a' := ?_) #[true, false, false, false, false, false, false, false, false, false, false, false, false, false, false, false, false, false, false, false, false, false, false, false, false, false, false, false, false] rfl rfl (any_of HT_.out (by kernel_rfl)) (fun _ _ _ h => h) (Or.inl ⟨by rfl, ?_⟩) ?_ ?_
            rotate_left
            ·intro w'
             go_simp
             with_reducible rfl
            rotate_left
            ·simp only [Act.put, List.setIfInBounds_toArray, List.set_cons_zero, List.set_cons_succ, i64_w, i32_w]
             rfl
            refine pure_ (i := 1) (N := some 63) (v := ?_) (a' := ?_) #[true, true, false, false, false, false, false, false, false, false, false, false, false, false, false, false, false, false, false, false, false, false, false, false, false, false, false, false, false] rfl rfl (any_of HT_.out (by kernel_rfl)) (fun _ _ _ h => h) (Or.inl ⟨by rfl, ?_⟩) ?_ ?_
            rotate_left
            ·intro w'
             go_simp
             with_reducible rfl
            rotate_left
            ·simp only [Act.put, List.setIfInBounds_toArray, List.set_cons_zero, List.set_cons_succ, i64_w, i32_w]
             rfl
            refine one_ (i := 2) (N := some 64) #[true, true, true, false, false, false, false, false, false, false, false, false, false, false, false, false, false, false, false, false, false, false, false, false, false, false, false, false, false] rfl rfl (one_of HT_.out (by kernel_rfl)) (by decide) (fun K hK => ?_)
            refine goes_ Try.func22 (by kernel_rfl) rfl #[.slice Ao101 t280.length co101, .slice Ao34 y271.length co34] (by rfl) rfl rfl zm ?_
            with_reducible refine (handshakerref03_Numbers.calls k2 _ _ t280 _ _ y271 true _ ?side1 ?side2 ?side3 ?side4 A62.out).mono ?_
            (case side1 => repeat (first | exact (Kd.V_reads' HO_5.out).2.2 | (with_reducible refine Kd.C_alloc ?_ _) | (with_reducible refine Kd.C_drewN ?_ _) | (with_reducible refine Kd.C_drew ?_)))
            (case side2 => exact (Kd.V_reads' HO_5.out).2.1)
            (case side3 => repeat (first | exact (Kd.R_reads' HO_3.out).2.2 | (with_reducible refine Kd.C_alloc ?_ _) | (with_reducible refine Kd.C_drewN ?_ _) | (with_reducible refine Kd.C_drew ?_)))
            (case side4 => exact (Kd.R_reads' HO_3.out).2.1)
            rintro e w' ⟨rfl, ⟨nd, rfl⟩⟩
            refine ⟨_, rfl, ?_⟩
            refine hK.out _ _ ⟨(blk_cell BK283.out 0).trans rfl, (blk_cell BK283.out 1).trans rfl, (blk_cell BK284.out 0).trans rfl, (blk_cell BK284.out 1).trans rfl, (blk_cell BK319.out 0).trans rfl, (blk_cell BK319.out 1).trans rfl, (blk_cell BK264.out 0).trans rfl, (blk_cell BK264.out 1).trans rfl⟩ (fun hHeld => ?_)
            clear hK K
            refine norm_ (a' := ?_) ?_ ?_
            rotate_left
            ·show Act.put _ (some 64) _ = _
             simp only [Act.put, List.setIfInBounds_toArray, List.set_cons_zero, List.set_cons_succ, i64_w, i32_w]
             rfl
            refine pure_ (i := 3) (N := some 65) (v := ?_) (a' := ?_) #[true, true, true, true, false, false, false, false, false, false, false, false, false, false, false, false, false, false, false, false, false, false, false, false, false, false, false, false, false] rfl rfl (any_of HT_.out (by kernel_rfl)) (fun _ _ _ h => h) (Or.inl ⟨by rfl, ?_⟩) ?_ ?_
            rotate_left
            ·intro w'
             go_simp
             with_reducible rfl
            rotate_left
            ·simp only [Act.put, List.setIfInBounds_toArray, List.set_cons_zero, List.set_cons_succ, i64_w, i32_w]
             rfl
            refine take_ (i := 4) (N := some 66) (v := ?_) (a' := ?_) #[true, true, true, true, true, false, false, false, false, false, false, false, false, false, false, false, false, false, false, false, false, false, false, false, false, false, false, false, false] rfl rfl (take_ofW HT_.out HW_.out (by kernel_rfl)) (fun _ _ _ h => h) (Or.inl ⟨by rfl, ?_⟩) hHeld ?_ ?_
            rotate_left
            ·rintro w' ⟨s0, s1, s2, s3, s4, s5, s6, s7⟩
             go_simp
             with_reducible rfl
            rotate_left
            ·simp only [Act.put, List.setIfInBounds_toArray, List.set_cons_zero, List.set_cons_succ, i64_w, i32_w]
             rfl
            refine take_ (i := 6) (N := some 68) (v := ?_) (a' := ?_) #[true, true, true, true, true, false, true, false, false, false, false, false, false, false, false, false, false, false, false, false, false, false, false, false, false, false, false, false, false] rfl rfl (take_ofW HT_.out HW_.out (by kernel_rfl)) (fun _ _ _ h => h) (Or.inl ⟨by rfl, ?_⟩) hHeld ?_ ?_
            rotate_left
            ·rintro w' ⟨s0, s1, s2, s3, s4, s5, s6, s7⟩
             go_simp
             with_reducible rfl
            rotate_left
            ·simp only [Act.put, List.setIfInBounds_toArray, List.set_cons_zero, List.set_cons_succ, i64_w, i32_w]
             rfl
            refine one_ (i := 5) (N := some 67) #[true, true, true, true, true, true, true, false, false, false, false, false, false, false, false, false, false, false, false, false, false, false, false, false, false, false, false, false, false] rfl rfl (one_of HT_.out (by kernel_rfl)) (by decide) (fun K hK => ?_)
            refine goes_ Try.func12 (by kernel_rfl) rfl #[.agg #[.slice Ao25 t274.length co25, .slice Ao28 t277.length co28]] (by rfl) rfl rfl zm ?_
            with_reducible refine (handshakerlaw20_ref.calls (fun k_ => (((P0_0_ k_ ∨ P0_1_ k_) ∨ w.heap.size ≤ k_) ∧ (some k_ ≠ (.slice Ao34 y271.length co34 : Value).ownBlock ∧ (some k_ ≠ (.slice Ao34 y271.length co34 : Value).ownBlock ∧ (k_ ≠ gb264 ∧ (k_ ≠ gb283 ∧ (k_ ≠ gb284 ∧ (k_ ≠ gb309 ∧ k_ ≠ gb319)))))))) _ _ t274 (fun k_ => (((P0_0_ k_ ∨ P0_1_ k_) ∨ w.heap.size ≤ k_) ∧ (some k_ ≠ (.slice Ao34 y271.length co34 : Value).ownBlock ∧ (some k_ ≠ (.slice Ao34 y271.length co34 : Value).ownBlock ∧ (k_ ≠ gb264 ∧ (k_ ≠ gb283 ∧ (k_ ≠ gb284 ∧ (k_ ≠ gb309 ∧ k_ ≠ gb319)))))))) _ _ t277 t321 t324 _ ?side1 ?side2 A64.out).mono ?_
            (case side1 => exact HO_284000.out)
            (case side2 => exact HO_284001.out)
            rintro e w102 ⟨v322, v325, rfl, ho0, ho1, hb⟩
            refine ⟨_, rfl, ?_⟩
            have n0_ := Aside0.mk (Kd.R_below (zR HO_3) hb)
            have n1_ := Aside0.mk (Kd.V_below (zV HO_5) hb)
            have n2_ := Aside0.mk (Kd.R_below (zR HO_34) hb)
            have n3_ := Aside0.mk (Kd.V_below (zV HO_265000) hb)
            have n4_ := Aside0.mk (Kd.V_below (zV HO_265001) hb)
            have n5_ := Aside0.mk (Kd.V_below (zV HO_284000) hb)
            have n6_ := Aside0.mk (Kd.V_below (zV HO_284001) hb)
            have n7_ := Aside0.mk (Kd.V_below (zV HO_285000) hb)
            have n8_ := Aside0.mk (Kd.V_below (zV HO_285001) hb)
            have n9_ := Aside0.mk (Kd.V_below (zV HO302) hb)
            have n10_ := Aside0.mk (Kd.V_below (zV HO305) hb)
            have n11_ := Aside0.mk (Kd.V_below (zV HO308) hb)
            have n12_ := Aside0.mk (Kd.V_below (zV HO312) hb)
            have n13_ := Aside0.mk (Kd.V_below (zV HO315) hb)
            have n14_ := Aside0.mk (Kd.V_below (zV HO318) hb)
            have n15_ := Aside0.mk (Kd.V_lower (Kd.V_mono (ok' := fun k_ => ((P0_0_ k_ ∨ P0_1_ k_) ∨ w.heap.size ≤ k_) ∧ some k_ ≠ (.slice Ao34 y271.length co34 : Value).ownBlock ∧ some k_ ≠ (.slice Ao34 y271.length co34 : Value).ownBlock ∧ k_ ≠ gb264 ∧ k_ ≠ gb283 ∧ k_ ≠ gb284 ∧ k_ ≠ gb309 ∧ k_ ≠ gb319) ho0 (fun k_ hk_ => ⟨Or.elim hk_ (fun hs_ => Or.elim hs_ (fun hs_ => hs_.1) (fun hs_ => hs_.1)) (fun hn_ => (.inr (Nat.le_trans (below_size (zc5 HB GE264 GE283 GE284 GE309 GE319)) hn_))), Or.elim hk_ (fun hs_ => Or.elim hs_ (fun hs_ => hs_.2.1) (fun hs_ => hs_.2.1)) (fun hn_ => (Kd.fresh' (Kd.R_lt (zR HO_3)) k_ hn_)), Or.elim hk_ (fun hs_ => Or.elim hs_ (fun hs_ => hs_.2.2.1) (fun hs_ => hs_.2.2.1)) (fun hn_ => (Kd.fresh' (Kd.R_lt (zR HO_34)) k_ hn_)), Or.elim hk_ (fun hs_ => Or.elim hs_ (fun hs_ => hs_.2.2.2.1) (fun hs_ => hs_.2.2.2.1)) (fun hn_ => (Kd.freshB (g := gb264) (o := .cells #[.slice A0_0 l0_0.length c0_0, .slice A0_1 l0_1.length c0_1] 24 (0, 0)) (zb BK264) k_ hn_)), Or.elim hk_ (fun hs_ => Or.elim hs_ (fun hs_ => hs_.2.2.2.2.1) (fun hs_ => hs_.2.2.2.2.1)) (fun hn_ => (Kd.freshB (g := gb283) (o := .cells #[.slice Ao25 t274.length co25, .slice Ao28 t277.length co28] 24 (0, 0)) (zb BK283) k_ hn_)), Or.elim hk_ (fun hs_ => Or.elim hs_ (fun hs_ => hs_.2.2.2.2.2.1) (fun hs_ => hs_.2.2.2.2.2.1)) (fun hn_ => (Kd.freshB (g := gb284) (o := .cells #[.slice Ao77 x285000_2.length co77, .slice Ao78 x285001_2.length co78] 24 (0, 0)) (zb BK284) k_ hn_)), Or.elim hk_ (fun hs_ => Or.elim hs_ (fun hs_ => hs_.2.2.2.2.2.2.1) (fun hs_ => hs_.2.2.2.2.2.2.1)) (fun hn_ => (Kd.freshB (g := gb309) (o := .cells #[.slice Ao81 t300.length co81, .slice Ao86 t303.length co86] 24 (0, 0)) (zb BK309) k_ hn_)), Or.elim hk_ (fun hs_ => Or.elim hs_ (fun hs_ => hs_.2.2.2.2.2.2.2) (fun hs_ => hs_.2.2.2.2.2.2.2)) (fun hn_ => (Kd.freshB (g := gb319) (o := .cells #[.slice Ao92 t310.length co92, .slice Ao98 t313.length co98] 24 (0, 0)) (zb BK319) k_ hn_))⟩)) (below_size (zc5 HB GE264 GE283 GE284 GE309 GE319)))
            have n16_ := Aside0.mk (Kd.V_lower (Kd.V_mono (ok' := fun k_ => ((P0_0_ k_ ∨ P0_1_ k_) ∨ w.heap.size ≤ k_) ∧ some k_ ≠ (.slice Ao34 y271.length co34 : Value).ownBlock ∧ some k_ ≠ (.slice Ao34 y271.length co34 : Value).ownBlock ∧ k_ ≠ gb264 ∧ k_ ≠ gb283 ∧ k_ ≠ gb284 ∧ k_ ≠ gb309 ∧ k_ ≠ gb319) ho1 (fun k_ hk_ => ⟨Or.elim hk_ (fun hs_ => Or.elim hs_ (fun hs_ => hs_.1) (fun hs_ => hs_.1)) (fun hn_ => (.inr (Nat.le_trans (below_size (zc5 HB GE264 GE283 GE284 GE309 GE319)) hn_))), Or.elim hk_ (fun hs_ => Or.elim hs_ (fun hs_ => hs_.2.1) (fun hs_ => hs_.2.1)) (fun hn_ => (Kd.fresh' (Kd.R_lt (zR HO_3)) k_ hn_)), Or.elim hk_ (fun hs_ => Or.elim hs_ (fun hs_ => hs_.2.2.1) (fun hs_ => hs_.2.2.1)) (fun hn_ => (Kd.fresh' (Kd.R_lt (zR HO_34)) k_ hn_)), Or.elim hk_ (fun hs_ => Or.elim hs_ (fun hs_ => hs_.2.2.2.1) (fun hs_ => hs_.2.2.2.1)) (fun hn_ => (Kd.freshB (g := gb264) (o := .cells #[.slice A0_0 l0_0.length c0_0, .slice A0_1 l0_1.length c0_1] 24 (0, 0)) (zb BK264) k_ hn_)), Or.elim hk_ (fun hs_ => Or.elim hs_ (fun hs_ => hs_.2.2.2.2.1) (fun hs_ => hs_.2.2.2.2.1)) (fun hn_ => (Kd.freshB (g := gb283) (o := .cells #[.slice Ao25 t274.length co25, .slice Ao28 t277.length co28] 24 (0, 0)) (zb BK283) k_ hn_)), Or.elim hk_ (fun hs_ => Or.elim hs_ (fun hs_ => hs_.2.2.2.2.2.1) (fun hs_ => hs_.2.2.2.2.2.1)) (fun hn_ => (Kd.freshB (g := gb284) (o := .cells #[.slice Ao77 x285000_2.length co77, .slice Ao78 x285001_2.length co78] 24 (0, 0)) (zb BK284) k_ hn_)), Or.elim hk_ (fun hs_ => Or.elim hs_ (fun hs_ => hs_.2.2.2.2.2.2.1) (fun hs_ => hs_.2.2.2.2.2.2.1)) (fun hn_ => (Kd.freshB (g := gb309) (o := .cells #[.slice Ao81 t300.length co81, .slice Ao86 t303.length co86] 24 (0, 0)) (zb BK309) k_ hn_)), Or.elim hk_ (fun hs_ => Or.elim hs_ (fun hs_ => hs_.2.2.2.2.2.2.2) (fun hs_ => hs_.2.2.2.2.2.2.2)) (fun hn_ => (Kd.freshB (g := gb319) (o := .cells #[.slice Ao92 t310.length co92, .slice Ao98 t313.length co98] 24 (0, 0)) (zb BK319) k_ hn_))⟩)) (below_size (zc5 HB GE264 GE283 GE284 GE309 GE319)))
            have n17_ := Aside0.mk (blk_below (g := gb264) (o := .cells #[.slice A0_0 l0_0.length c0_0, .slice A0_1 l0_1.length c0_1] 24 (0, 0)) (zb BK264) hb)
            have n18_ := Aside0.mk (blk_below (g := gb283) (o := .cells #[.slice Ao25 t274.length co25, .slice Ao28 t277.length co28] 24 (0, 0)) (zb BK283) hb)
            have n19_ := Aside0.mk (blk_below (g := gb284) (o := .cells #[.slice Ao77 x285000_2.length co77, .slice Ao78 x285001_2.length co78] 24 (0, 0)) (zb BK284) hb)
            have n20_ := Aside0.mk (blk_below (g := gb309) (o := .cells #[.slice Ao81 t300.length co81, .slice Ao86 t303.length co86] 24 (0, 0)) (zb BK309) hb)
            have n21_ := Aside0.mk (blk_below (g := gb319) (o := .cells #[.slice Ao92 t310.length co92, .slice Ao98 t313.length co98] 24 (0, 0)) (zb BK319) hb)
            have n22_ := Aside0.mk (below_step (zc5 HB GE264 GE283 GE284 GE309 GE319) hb)
            clear HO_3
            clear HO_5
            clear HO_34
            clear HO_265000
            clear HO_265001
            clear HO_284000
            clear HO_284001
            clear HO_285000
            clear HO_285001
            clear HO302
            clear HO305
            clear HO308
            clear HO312
            clear HO315
            clear HO318
            clear BK264
            clear BK283
            clear BK284
            clear BK309
            clear BK319
            clear HB
            have HO_3 := n0_
            have HO_5 := n1_
            have HO_34 := n2_
            have HO_265000 := n3_
            have HO_265001 := n4_
            have HO_284000 := n5_
            have HO_284001 := n6_
            have HO_285000 := n7_
            have HO_285001 := n8_
            have HO302 := n9_
            have HO305 := n10_
            have HO308 := n11_
            have HO312 := n12_
            have HO315 := n13_
            have HO318 := n14_
            have HO323 := n15_
            have HO326 := n16_
            have BK264 := n17_
            have BK283 := n18_
            have BK284 := n19_
            have BK309 := n20_
            have BK319 := n21_
            have HB := n22_
            clear n0_ n1_ n2_ n3_ n4_ n5_ n6_ n7_ n8_ n9_ n10_ n11_ n12_ n13_ n14_ n15_ n16_ n17_ n18_ n19_ n20_ n21_ n22_
            (try clear hb)
            (try clear hb2)
            (try clear hk)
            (try clear hi)
            (try clear ho0)
            (try clear ho1)
            refine hK.out _ _ ⟨(blk_cell BK283.out 0).trans rfl, (blk_cell BK283.out 1).trans rfl, (blk_cell BK284.out 0).trans rfl, (blk_cell BK284.out 1).trans rfl, (blk_cell BK319.out 0).trans rfl, (blk_cell BK319.out 1).trans rfl, (blk_cell BK264.out 0).trans rfl, (blk_cell BK264.out 1).trans rfl⟩ (fun hHeld => ?_)
            clear hK K
            refine norm_ (a' := ?_) ?_ ?_
            rotate_left
            ·show Act.put _ (some 67) _ = _
             simp only [Act.put, List.setIfInBounds_toArray, List.set_cons_zero, List.set_cons_succ, i64_w, i32_w]
             rfl
            refine one_ (i := 7) (N := some 69) #[true, true, true, true, true, true, true, true, false, false, false, false, false, false, false, false, false, false, false, false, false, false, false, false, false, false, false, false, false] rfl rfl (one_of HT_.out (by kernel_rfl)) (by decide) (fun K hK => ?_)
            refine goes_ Try.func12 (by kernel_rfl) rfl #[.agg #[.slice Ao77 x285000_2.length co77, .slice Ao78 x285001_2.length co78]] (by rfl) rfl rfl zm ?_
            with_reducible refine (handshakerlaw20_ref.calls (fun k_ => (((P0_0_ k_ ∨ P0_1_ k_) ∨ w.heap.size ≤ k_) ∧ (some k_ ≠ (.slice Ao34 y271.length co34 : Value).ownBlock ∧ (some k_ ≠ (.slice Ao34 y271.length co34 : Value).ownBlock ∧ (k_ ≠ gb264 ∧ (k_ ≠ gb283 ∧ (k_ ≠ gb284 ∧ (k_ ≠ gb309 ∧ k_ ≠ gb319)))))))) _ _ x285000_2 (fun k_ => (((P0_0_ k_ ∨ P0_1_ k_) ∨ w.heap.size ≤ k_) ∧ (some k_ ≠ (.slice Ao34 y271.length co34 : Value).ownBlock ∧ (some k_ ≠ (.slice Ao34 y271.length co34 : Value).ownBlock ∧ (k_ ≠ gb264 ∧ (k_ ≠ gb283 ∧ (k_ ≠ gb284 ∧ (k_ ≠ gb309 ∧ k_ ≠ gb319)))))))) _ _ x285001_2 t327 t330 _ ?side1 ?side2 A65.out).mono ?_
            (case side1 => exact HO_285000.out)
            (case side2 => exact HO_285001.out)
            rintro e w103 ⟨v328, v331, rfl, ho0, ho1, hb⟩
            refine ⟨_, rfl, ?_⟩
            have n0_ := Aside0.mk (Kd.R_below (zR HO_3) hb)
            have n1_ := Aside0.mk (Kd.V_below (zV HO_5) hb)
            have n2_ := Aside0.mk (Kd.R_below (zR HO_34) hb)
            have n3_ := Aside0.mk (Kd.V_below (zV HO_265000) hb)
            have n4_ := Aside0.mk (Kd.V_below (zV HO_265001) hb)
            have n5_ := Aside0.mk (Kd.V_below (zV HO_284000) hb)
            have n6_ := Aside0.mk (Kd.V_below (zV HO_284001) hb)
            have n7_ := Aside0.mk (Kd.V_below (zV HO_285000) hb)
            have n8_ := Aside0.mk (Kd.V_below (zV HO_285001) hb)
            have n9_ := Aside0.mk (Kd.V_below (zV HO302) hb)
            have n10_ := Aside0.mk (Kd.V_below (zV HO305) hb)
            have n11_ := Aside0.mk (Kd.V_below (zV HO308) hb)
            have n12_ := Aside0.mk (Kd.V_below (zV HO312) hb)
            have n13_ := Aside0.mk (Kd.V_below (zV HO315) hb)
            have n14_ := Aside0.mk (Kd.V_below (zV HO318) hb)
            have n15_ := Aside0.mk (Kd.V_below (zV HO323) hb)
            have n16_ := Aside0.mk (Kd.V_below (zV HO326) hb)
            have n17_ := Aside0.mk (Kd.V_lower (Kd.V_mono (ok' := fun k_ => ((P0_0_ k_ ∨ P0_1_ k_) ∨ w.heap.size ≤ k_) ∧ some k_ ≠ (.slice Ao34 y271.length co34 : Value).ownBlock ∧ some k_ ≠ (.slice Ao34 y271.length co34 : Value).ownBlock ∧ k_ ≠ gb264 ∧ k_ ≠ gb283 ∧ k_ ≠ gb284 ∧ k_ ≠ gb309 ∧ k_ ≠ gb319) ho0 (fun k_ hk_ => ⟨Or.elim hk_ (fun hs_ => Or.elim hs_ (fun hs_ => hs_.1) (fun hs_ => hs_.1)) (fun hn_ => (.inr (Nat.le_trans (below_size (zc5 HB GE264 GE283 GE284 GE309 GE319)) hn_))), Or.elim hk_ (fun hs_ => Or.elim hs_ (fun hs_ => hs_.2.1) (fun hs_ => hs_.2.1)) (fun hn_ => (Kd.fresh' (Kd.R_lt (zR HO_3)) k_ hn_)), Or.elim hk_ (fun hs_ => Or.elim hs_ (fun hs_ => hs_.2.2.1) (fun hs_ => hs_.2.2.1)) (fun hn_ => (Kd.fresh' (Kd.R_lt (zR HO_34)) k_ hn_)), Or.elim hk_ (fun hs_ => Or.elim hs_ (fun hs_ => hs_.2.2.2.1) (fun hs_ => hs_.2.2.2.1)) (fun hn_ => (Kd.freshB (g := gb264) (o := .cells #[.slice A0_0 l0_0.length c0_0, .slice A0_1 l0_1.length c0_1] 24 (0, 0)) (zb BK264) k_ hn_)), Or.elim hk_ (fun hs_ => Or.elim hs_ (fun hs_ => hs_.2.2.2.2.1) (fun hs_ => hs_.2.2.2.2.1)) (fun hn_ => (Kd.freshB (g := gb283) (o := .cells #[.slice Ao25 t274.length co25, .slice Ao28 t277.length co28] 24 (0, 0)) (zb BK283) k_ hn_)), Or.elim hk_ (fun hs_ => Or.elim hs_ (fun hs_ => hs_.2.2.2.2.2.1) (fun hs_ => hs_.2.2.2.2.2.1)) (fun hn_ => (Kd.freshB (g := gb284) (o := .cells #[.slice Ao77 x285000_2.length co77, .slice Ao78 x285001_2.length co78] 24 (0, 0)) (zb BK284) k_ hn_)), Or.elim hk_ (fun hs_ => Or.elim hs_ (fun hs_ => hs_.2.2.2.2.2.2.1) (fun hs_ => hs_.2.2.2.2.2.2.1)) (fun hn_ => (Kd.freshB (g := gb309) (o := .cells #[.slice Ao81 t300.length co81, .slice Ao86 t303.length co86] 24 (0, 0)) (zb BK309) k_ hn_)), Or.elim hk_ (fun hs_ => Or.elim hs_ (fun hs_ => hs_.2.2.2.2.2.2.2) (fun hs_ => hs_.2.2.2.2.2.2.2)) (fun hn_ => (Kd.freshB (g := gb319) (o := .cells #[.slice Ao92 t310.length co92, .slice Ao98 t313.length co98] 24 (0, 0)) (zb BK319) k_ hn_))⟩)) (below_size (zc5 HB GE264 GE283 GE284 GE309 GE319)))
            have n18_ := Aside0.mk (Kd.V_lower (Kd.V_mono (ok' := fun k_ => ((P0_0_ k_ ∨ P0_1_ k_) ∨ w.heap.size ≤ k_) ∧ some k_ ≠ (.slice Ao34 y271.length co34 : Value).ownBlock ∧ some k_ ≠ (.slice Ao34 y271.length co34 : Value).ownBlock ∧ k_ ≠ gb264 ∧ k_ ≠ gb283 ∧ k_ ≠ gb284 ∧ k_ ≠ gb309 ∧ k_ ≠ gb319) ho1 (fun k_ hk_ => ⟨Or.elim hk_ (fun hs_ => Or.elim hs_ (fun hs_ => hs_.1) (fun hs_ => hs_.1)) (fun hn_ => (.inr (Nat.le_trans (below_size (zc5 HB GE264 GE283 GE284 GE309 GE319)) hn_))), Or.elim hk_ (fun hs_ => Or.elim hs_ (fun hs_ => hs_.2.1) (fun hs_ => hs_.2.1)) (fun hn_ => (Kd.fresh' (Kd.R_lt (zR HO_3)) k_ hn_)), Or.elim hk_ (fun hs_ => Or.elim hs_ (fun hs_ => hs_.2.2.1) (fun hs_ => hs_.2.2.1)) (fun hn_ => (Kd.fresh' (Kd.R_lt (zR HO_34)) k_ hn_)), Or.elim hk_ (fun hs_ => Or.elim hs_ (fun hs_ => hs_.2.2.2.1) (fun hs_ => hs_.2.2.2.1)) (fun hn_ => (Kd.freshB (g := gb264) (o := .cells #[.slice A0_0 l0_0.length c0_0, .slice A0_1 l0_1.length c0_1] 24 (0, 0)) (zb BK264) k_ hn_)), Or.elim hk_ (fun hs_ => Or.elim hs_ (fun hs_ => hs_.2.2.2.2.1) (fun hs_ => hs_.2.2.2.2.1)) (fun hn_ => (Kd.freshB (g := gb283) (o := .cells #[.slice Ao25 t274.length co25, .slice Ao28 t277.length co28] 24 (0, 0)) (zb BK283) k_ hn_)), Or.elim hk_ (fun hs_ => Or.elim hs_ (fun hs_ => hs_.2.2.2.2.2.1) (fun hs_ => hs_.2.2.2.2.2.1)) (fun hn_ => (Kd.freshB (g := gb284) (o := .cells #[.slice Ao77 x285000_2.length co77, .slice Ao78 x285001_2.length co78] 24 (0, 0)) (zb BK284) k_ hn_)), Or.elim hk_ (fun hs_ => Or.elim hs_ (fun hs_ => hs_.2.2.2.2.2.2.1) (fun hs_ => hs_.2.2.2.2.2.2.1)) (fun hn_ => (Kd.freshB (g := gb309) (o := .cells #[.slice Ao81 t300.length co81, .slice Ao86 t303.length co86] 24 (0, 0)) (zb BK309) k_ hn_)), Or.elim hk_ (fun hs_ => Or.elim hs_ (fun hs_ => hs_.2.2.2.2.2.2.2) (fun hs_ => hs_.2.2.2.2.2.2.2)) (fun hn_ => (Kd.freshB (g := gb319) (o := .cells #[.slice Ao92 t310.length co92, .slice Ao98 t313.length co98] 24 (0, 0)) (zb BK319) k_ hn_))⟩)) (below_size (zc5 HB GE264 GE283 GE284 GE309 GE319)))
            have n19_ := Aside0.mk (blk_below (g := gb264) (o := .cells #[.slice A0_0 l0_0.length c0_0, .slice A0_1 l0_1.length c0_1] 24 (0, 0)) (zb BK264) hb)
            have n20_ := Aside0.mk (blk_below (g := gb283) (o := .cells #[.slice Ao25 t274.length co25, .slice Ao28 t277.length co28] 24 (0, 0)) (zb BK283) hb)
            have n21_ := Aside0.mk (blk_below (g := gb284) (o := .cells #[.slice Ao77 x285000_2.length co77, .slice Ao78 x285001_2.length co78] 24 (0, 0)) (zb BK284) hb)
            have n22_ := Aside0.mk (blk_below (g := gb309) (o := .cells #[.slice Ao81 t300.length co81, .slice Ao86 t303.length co86] 24 (0, 0)) (zb BK309) hb)
            have n23_ := Aside0.mk (blk_below (g := gb319) (o := .cells #[.slice Ao92 t310.length co92, .slice Ao98 t313.length co98] 24 (0, 0)) (zb BK319) hb)
            have n24_ := Aside0.mk (below_step (zc5 HB GE264 GE283 GE284 GE309 GE319) hb)
            clear HO_3
            clear HO_5
            clear HO_34
            clear HO_265000
            clear HO_265001
            clear HO_284000
            clear HO_284001
            clear HO_285000
            clear HO_285001
            clear HO302
            clear HO305
            clear HO308
            clear HO312
            clear HO315
            clear HO318
            clear HO323
            clear HO326
            clear BK264
            clear BK283
            clear BK284
            clear BK309
            clear BK319
            clear HB
            have HO_3 := n0_
            have HO_5 := n1_
            have HO_34 := n2_
            have HO_265000 := n3_
            have HO_265001 := n4_
            have HO_284000 := n5_
            have HO_284001 := n6_
            have HO_285000 := n7_
            have HO_285001 := n8_
            have HO302 := n9_
            have HO305 := n10_
            have HO308 := n11_
            have HO312 := n12_
            have HO315 := n13_
            have HO318 := n14_
            have HO323 := n15_
            have HO326 := n16_
            have HO329 := n17_
            have HO332 := n18_
            have BK264 := n19_
            have BK283 := n20_
            have BK284 := n21_
            have BK309 := n22_
            have BK319 := n23_
            have HB := n24_
            clear n0_ n1_ n2_ n3_ n4_ n5_ n6_ n7_ n8_ n9_ n10_ n11_ n12_ n13_ n14_ n15_ n16_ n17_ n18_ n19_ n20_ n21_ n22_ n23_ n24_
            (try clear hb)
            (try clear hb2)
            (try clear hk)
            (try clear hi)
            (try clear ho0)
            (try clear ho1)
            obtain ⟨Ao104, co104, eo104⟩ := Kd.V_slice HO323.out
            (first | subst eo104 | (injection eo104 with f1_ f2_ f3_; have f4_ := f1_.symm; have f5_ := f3_.symm; clear f1_ f2_ f3_; subst f4_; subst f5_))
            obtain ⟨Ao105, co105, eo105⟩ := Kd.V_slice HO326.out
            (first | subst eo105 | (injection eo105 with f1_ f2_ f3_; have f4_ := f1_.symm; have f5_ := f3_.symm; clear f1_ f2_ f3_; subst f4_; subst f5_))
            obtain ⟨Ao106, co106, eo106⟩ := Kd.V_slice HO329.out
            (first | subst eo106 | (injection eo106 with f1_ f2_ f3_; have f4_ := f1_.symm; have f5_ := f3_.symm; clear f1_ f2_ f3_; subst f4_; subst f5_))
            obtain ⟨Ao107, co107, eo107⟩ := Kd.V_slice HO332.out
            (first | subst eo107 | (injection eo107 with f1_ f2_ f3_; have f4_ := f1_.symm; have f5_ := f3_.symm; clear f1_ f2_ f3_; subst f4_; subst f5_))
            refine hK.out _ _ ⟨(blk_cell BK283.out 0).trans rfl, (blk_cell BK283.out 1).trans rfl, (blk_cell BK284.out 0).trans rfl, (blk_cell BK284.out 1).trans rfl, (blk_cell BK319.out 0).trans rfl, (blk_cell BK319.out 1).trans rfl, (blk_cell BK264.out 0).trans rfl, (blk_cell BK264.out 1).trans rfl⟩ (fun hHeld => ?_)
            clear hK K
            refine norm_ (a' := ?_) ?_ ?_
            rotate_left
            ·show Act.put _ (some 69) _ = _
             simp only [Act.put, List.setIfInBounds_toArray, List.set_cons_zero, List.set_cons_succ, i64_w, i32_w]
             rfl
            refine one_ (i := 8) (N := some 70) #[true, true, true, true, true, true, true, true, true, false, false, false, false, false, false, false, false, false, false, false, false, false, false, false, false, false, false, false, false] rfl rfl (one_of HT_.out (by kernel_rfl)) (by decide) (fun K hK => ?_)
            refine goes_ Try.func21 (by kernel_rfl) rfl #[.agg #[.slice Ao104 t321.length co104, .slice Ao105 t324.length co105], .agg #[.slice Ao106 t327.length co106, .slice Ao107 t330.length co107]] (by rfl) rfl rfl zm ?_
            with_reducible refine (handshakerref20_Same.calls k2 _ _ t321 _ _ t324 _ _ t327 _ _ t330 true _ ?side1 ?side2 ?side3 ?side4 ?side5 ?side6 ?side7 ?side8 A66.out).mono ?_
            (case side1 => repeat (first | exact (Kd.V_reads' HO323.out).2.2 | (with_reducible refine Kd.C_alloc ?_ _) | (with_reducible refine Kd.C_drewN ?_ _) | (with_reducible refine Kd.C_drew ?_)))
            (case side2 => exact (Kd.V_reads' HO323.out).2.1)
            (case side3 => repeat (first | exact (Kd.V_reads' HO326.out).2.2 | (with_reducible refine Kd.C_alloc ?_ _) | (with_reducible refine Kd.C_drewN ?_ _) | (with_reducible refine Kd.C_drew ?_)))
            (case side4 => exact (Kd.V_reads' HO326.out).2.1)
            (case side5 => repeat (first | exact (Kd.V_reads' HO329.out).2.2 | (with_reducible refine Kd.C_alloc ?_ _) | (with_reducible refine Kd.C_drewN ?_ _) | (with_reducible refine Kd.C_drew ?_)))
            (case side6 => exact (Kd.V_reads' HO329.out).2.1)
            (case side7 => repeat (first | exact (Kd.V_reads' HO332.out).2.2 | (with_reducible refine Kd.C_alloc ?_ _) | (with_reducible refine Kd.C_drewN ?_ _) | (with_reducible refine Kd.C_drew ?_)))
            (case side8 => exact (Kd.V_reads' HO332.out).2.1)
            rintro e w108 ⟨rfl, hb⟩
            refine ⟨_, rfl, ?_⟩
            have n0_ := Aside0.mk (Kd.R_below (zR HO_3) hb)
            have n1_ := Aside0.mk (Kd.V_below (zV HO_5) hb)
            have n2_ := Aside0.mk (Kd.R_below (zR HO_34) hb)
            have n3_ := Aside0.mk (Kd.V_below (zV HO_265000) hb)
            have n4_ := Aside0.mk (Kd.V_below (zV HO_265001) hb)
            have n5_ := Aside0.mk (Kd.V_below (zV HO_284000) hb)
            have n6_ := Aside0.mk (Kd.V_below (zV HO_284001) hb)
            have n7_ := Aside0.mk (Kd.V_below (zV HO_285000) hb)
            have n8_ := Aside0.mk (Kd.V_below (zV HO_285001) hb)
            have n9_ := Aside0.mk (Kd.V_below (zV HO302) hb)
            have n10_ := Aside0.mk (Kd.V_below (zV HO305) hb)
            have n11_ := Aside0.mk (Kd.V_below (zV HO308) hb)
            have n12_ := Aside0.mk (Kd.V_below (zV HO312) hb)
            have n13_ := Aside0.mk (Kd.V_below (zV HO315) hb)
            have n14_ := Aside0.mk (Kd.V_below (zV HO318) hb)
            have n15_ := Aside0.mk (Kd.V_below (zV HO323) hb)
            have n16_ := Aside0.mk (Kd.V_below (zV HO326) hb)
            have n17_ := Aside0.mk (Kd.V_below (zV HO329) hb)
            have n18_ := Aside0.mk (Kd.V_below (zV HO332) hb)
            have n19_ := Aside0.mk (blk_below (g := gb264) (o := .cells #[.slice A0_0 l0_0.length c0_0, .slice A0_1 l0_1.length c0_1] 24 (0, 0)) (zb BK264) hb)
            have n20_ := Aside0.mk (blk_below (g := gb283) (o := .cells #[.slice Ao25 t274.length co25, .slice Ao28 t277.length co28] 24 (0, 0)) (zb BK283) hb)
            have n21_ := Aside0.mk (blk_below (g := gb284) (o := .cells #[.slice Ao77 x285000_2.length co77, .slice Ao78 x285001_2.length co78] 24 (0, 0)) (zb BK284) hb)
            have n22_ := Aside0.mk (blk_below (g := gb309) (o := .cells #[.slice Ao81 t300.length co81, .slice Ao86 t303.length co86] 24 (0, 0)) (zb BK309) hb)
            have n23_ := Aside0.mk (blk_below (g := gb319) (o := .cells #[.slice Ao92 t310.length co92, .slice Ao98 t313.length co98] 24 (0, 0)) (zb BK319) hb)
            have n24_ := Aside0.mk (below_step (zc5 HB GE264 GE283 GE284 GE309 GE319) hb)
            clear HO_3
            clear HO_5
            clear HO_34
            clear HO_265000
            clear HO_265001
            clear HO_284000
            clear HO_284001
            clear HO_285000
            clear HO_285001
            clear HO302
            clear HO305
            clear HO308
            clear HO312
            clear HO315
            clear HO318
            clear HO323
            clear HO326
            clear HO329
            clear HO332
            clear BK264
            clear BK283
            clear BK284
            clear BK309
            clear BK319
            clear HB
            have HO_3 := n0_
            have HO_5 := n1_
            have HO_34 := n2_
            have HO_265000 := n3_
            have HO_265001 := n4_
            have HO_284000 := n5_
            have HO_284001 := n6_
            have HO_285000 := n7_
            have HO_285001 := n8_
            have HO302 := n9_
            have HO305 := n10_
            have HO308 := n11_
            have HO312 := n12_
            have HO315 := n13_
            have HO318 := n14_
            have HO323 := n15_
            have HO326 := n16_
            have HO329 := n17_
            have HO332 := n18_
            have BK264 := n19_
            have BK283 := n20_
            have BK284 := n21_
            have BK309 := n22_
            have BK319 := n23_
            have HB := n24_
            clear n0_ n1_ n2_ n3_ n4_ n5_ n6_ n7_ n8_ n9_ n10_ n11_ n12_ n13_ n14_ n15_ n16_ n17_ n18_ n19_ n20_ n21_ n22_ n23_ n24_
            (try clear hb)
            (try clear hb2)
            (try clear hk)
            (try clear hi)
            obtain ⟨Ao109, co109, eo109⟩ := Kd.V_slice HO308.out
            (first | subst eo109 | (injection eo109 with f1_ f2_ f3_; have f4_ := f1_.symm; have f5_ := f3_.symm; clear f1_ f2_ f3_; subst f4_; subst f5_))
            obtain ⟨Ao110, co110, eo110⟩ := Kd.V_slice HO318.out
            (first | subst eo110 | (injection eo110 with f1_ f2_ f3_; have f4_ := f1_.symm; have f5_ := f3_.symm; clear f1_ f2_ f3_; subst f4_; subst f5_))
            refine hK.out _ _ ⟨(blk_cell BK283.out 0).trans rfl, (blk_cell BK283.out 1).trans rfl, (blk_cell BK284.out 0).trans rfl, (blk_cell BK284.out 1).trans rfl, (blk_cell BK319.out 0).trans rfl, (blk_cell BK319.out 1).trans rfl, (blk_cell BK264.out 0).trans rfl, (blk_cell BK264.out 1).trans rfl⟩ (fun hHeld => ?_)
            clear hK K
            refine norm_ (a' := ?_) ?_ ?_
            rotate_left
            ·show Act.put _ (some 70) _ = _
             simp only [Act.put, List.setIfInBounds_toArray, List.set_cons_zero, List.set_cons_succ, i64_w, i32_w]
             rfl
            refine pure_ (i := 9) (N := some 71) (v := ?_) (a' := ?_) #[true, true, true, true, true, true, true, true, true, true, false, false, false, false, false, false, false, false, false, false, false, false, false, false, false, false, false, false, false] rfl rfl (any_of HT_.out (by kernel_rfl)) (fun _ _ _ h => h) (Or.inl ⟨by rfl, ?_⟩) ?_ ?_
            rotate_left
            ·intro w'
             go_simp
             with_reducible rfl
            rotate_left
            ·simp only [Act.put, List.setIfInBounds_toArray, List.set_cons_zero, List.set_cons_succ, i64_w, i32_w]
             rfl
            refine pure_ (i := 10) (N := some 72) (v := ?_) (a' := ?_) #[true, true, true, true, true, true, true, true, true, true, true, false, false, false, false, false, false, false, false, false, false, false, false, false, false, false, false, false, false] rfl rfl (any_of HT_.out (by kernel_rfl)) (fun _ _ _ h => h) (Or.inl ⟨by rfl, ?_⟩) ?_ ?_
            rotate_left
            ·intro w'
             go_simp
             with_reducible rfl
            rotate_left
            ·simp only [Act.put, List.setIfInBounds_toArray, List.set_cons_zero, List.set_cons_succ, i64_w, i32_w]
             rfl
            refine pure_ (i := 11) (N := some 73) (v := ?_) (a' := ?_) #[true, true, true, true, true, true, true, true, true, true, true, true, false, false, false, false, false, false, false, false, false, false, false, false, false, false, false, false, false] rfl rfl (any_of HT_.out (by kernel_rfl)) (fun _ _ _ h => h) (Or.inl ⟨by rfl, ?_⟩) ?_ ?_
            rotate_left
            ·intro w'
             go_simp
             with_reducible rfl
            rotate_left
            ·simp only [Act.put, List.setIfInBounds_toArray, List.set_cons_zero, List.set_cons_succ, i64_w, i32_w]
             rfl
            refine pure_ (i := 12) (N := some 74) (v := ?_) (a' := ?_) #[true, true, true, true, true, true, true, true, true, true, true, true, true, false, false, false, false, false, false, false, false, false, false, false, false, false, false, false, false] rfl rfl (any_of HT_.out (by kernel_rfl)) (fun _ _ _ h => h) (Or.inl ⟨by rfl, ?_⟩) ?_ ?_
            rotate_left
            ·intro w'
             go_simp
             with_reducible rfl
            rotate_left
            ·simp only [Act.put, List.setIfInBounds_toArray, List.set_cons_zero, List.set_cons_succ, i64_w, i32_w]
             rfl
            refine pure_ (i := 13) (N := some 75) (v := ?_) (a' := ?_) #[true, true, true, true, true, true, true, true, true, true, true, true, true, true, false, false, false, false, false, false, false, false, false, false, false, false, false, false, false] rfl rfl (any_of HT_.out (by kernel_rfl)) (fun _ _ _ h => h) (Or.inl ⟨by rfl, ?_⟩) ?_ ?_
            rotate_left
            ·intro w'
             go_simp
             with_reducible rfl
            rotate_left
            ·simp only [Act.put, List.setIfInBounds_toArray, List.set_cons_zero, List.set_cons_succ, i64_w, i32_w]
             rfl
            refine pure_ (i := 14) (N := some 76) (v := ?_) (a' := ?_) #[true, true, true, true, true, true, true, true, true, true, true, true, true, true, true, false, false, false, false, false, false, false, false, false, false, false, false, false, false] rfl rfl (any_of HT_.out (by kernel_rfl)) (fun _ _ _ h => h) (Or.inl ⟨by rfl, ?_⟩) ?_ ?_
            rotate_left
            ·intro w'
             go_simp
             with_reducible rfl
            rotate_left
            ·simp only [Act.put, List.setIfInBounds_toArray, List.set_cons_zero, List.set_cons_succ, i64_w, i32_w]
             rfl
            refine pure_ (i := 15) (N := some 77) (v := ?_) (a' := ?_) #[true, true, true, true, true, true, true, true, true, true, true, true, true, true, true, true, false, false, false, false, false, false, false, false, false, false, false, false, false] rfl rfl (any_of HT_.out (by kernel_rfl)) (fun _ _ _ h => h) (Or.inl ⟨by rfl, ?_⟩) ?_ ?_
            rotate_left
            ·intro w'
             go_simp
             with_reducible rfl
            rotate_left
            ·simp only [Act.put, List.setIfInBounds_toArray, List.set_cons_zero, List.set_cons_succ, i64_w, i32_w]
             rfl
            refine pure_ (i := 16) (N := some 78) (v := ?_) (a' := ?_) #[true, true, true, true, true, true, true, true, true, true, true, true, true, true, true, true, true, false, false, false, false, false, false, false, false, false, false, false, false] rfl rfl (any_of HT_.out (by kernel_rfl)) (fun _ _ _ h => h) (Or.inl ⟨by rfl, ?_⟩) ?_ ?_
            rotate_left
            ·intro w'
             go_simp
             with_reducible rfl
            rotate_left
            ·simp only [Act.put, List.setIfInBounds_toArray, List.set_cons_zero, List.set_cons_succ, i64_w, i32_w]
             rfl
            refine pure_ (i := 17) (N := some 79) (v := ?_) (a' := ?_) #[true, true, true, true, true, true, true, true, true, true, true, true, true, true, true, true, true, true, false, false, false, false, false, false, false, false, false, false, false] rfl rfl (any_of HT_.out (by kernel_rfl)) (fun _ _ _ h => h) (Or.inl ⟨by rfl, ?_⟩) ?_ ?_
            rotate_left
            ·intro w'
             go_simp
             with_reducible rfl
            rotate_left
            ·simp only [Act.put, List.setIfInBounds_toArray, List.set_cons_zero, List.set_cons_succ, i64_w, i32_w]
             rfl
            refine pure_ (i := 18) (N := some 80) (v := ?_) (a' := ?_) #[true, true, true, true, true, true, true, true, true, true, true, true, true, true, true, true, true, true, true, false, false, false, false, false, false, false, false, false, false] rfl rfl (any_of HT_.out (by kernel_rfl)) (fun _ _ _ h => h) (Or.inl ⟨by rfl, ?_⟩) ?_ ?_
            rotate_left
            ·intro w'
             go_simp
             with_reducible rfl
            rotate_left
            ·simp only [Act.put, List.setIfInBounds_toArray, List.set_cons_zero, List.set_cons_succ, i64_w, i32_w]
             rfl
            refine take_ (i := 19) (N := some 81) (v := ?_) (a' := ?_) #[true, true, true, true, true, true, true, true, true, true, true, true, true, true, true, true, true, true, true, true, false, false, false, false, false, false, false, false, false] rfl rfl (take_ofW HT_.out HW_.out (by kernel_rfl)) (fun _ _ _ h => h) (Or.inl ⟨by rfl, ?_⟩) hHeld ?_ ?_
            rotate_left
            ·rintro w' ⟨s0, s1, s2, s3, s4, s5, s6, s7⟩
             go_simp
             with_reducible rfl
            rotate_left
            ·simp only [Act.put, List.setIfInBounds_toArray, List.set_cons_zero, List.set_cons_succ, i64_w, i32_w]
             rfl
            refine take_ (i := 21) (N := some 83) (v := ?_) (a' := ?_) #[true, true, true, true, true, true, true, true, true, true, true, true, true, true, true, true, true, true, true, true, false, true, false, false, false, false, false, false, false] rfl rfl (take_ofW HT_.out HW_.out (by kernel_rfl)) (fun _ _ _ h => h) (Or.inl ⟨by rfl, ?_⟩) hHeld ?_ ?_
            rotate_left
            ·rintro w' ⟨s0, s1, s2, s3, s4, s5, s6, s7⟩
             go_simp
             with_reducible rfl
            rotate_left
            ·simp only [Act.put, List.setIfInBounds_toArray, List.set_cons_zero, List.set_cons_succ, i64_w, i32_w]
             rfl
            refine one_ (i := 20) (N := some 82) #[true, true, true, true, true, true, true, true, true, true, true, true, true, true, true, true, true, true, true, true, true, true, false, false, false, false, false, false, false] rfl rfl (one_of HT_.out (by kernel_rfl)) (by decide) (fun K hK => ?_)
            refine goes_ Try.func12 (by kernel_rfl) rfl #[.agg #[.slice Ao92 t310.length co92, .slice Ao98 t313.length co98]] (by rfl) rfl rfl zm ?_
            with_reducible refine (handshakerlaw20_ref.calls (fun k_ => (((P0_0_ k_ ∨ P0_1_ k_) ∨ w.heap.size ≤ k_) ∧ (some k_ ≠ (.slice Ao34 y271.length co34 : Value).ownBlock ∧ (some k_ ≠ (.slice Ao34 y271.length co34 : Value).ownBlock ∧ (k_ ≠ gb264 ∧ (k_ ≠ gb283 ∧ (k_ ≠ gb284 ∧ (k_ ≠ gb309 ∧ k_ ≠ gb319)))))))) _ _ t310 (fun k_ => (((P0_0_ k_ ∨ P0_1_ k_) ∨ w.heap.size ≤ k_) ∧ (some k_ ≠ (.slice Ao34 y271.length co34 : Value).ownBlock ∧ (some k_ ≠ (.slice Ao34 y271.length co34 : Value).ownBlock ∧ (k_ ≠ gb264 ∧ (k_ ≠ gb283 ∧ (k_ ≠ gb284 ∧ (k_ ≠ gb309 ∧ k_ ≠ gb319)))))))) _ _ t313 t334 t337 _ ?side1 ?side2 A69.out).mono ?_
            (case side1 => exact HO312.out)
            (case side2 => exact HO315.out)
            rintro e w111 ⟨v335, v338, rfl, ho0, ho1, hb⟩
            refine ⟨_, rfl, ?_⟩
            have n0_ := Aside0.mk (Kd.R_below (zR HO_3) hb)
            have n1_ := Aside0.mk (Kd.V_below (zV HO_5) hb)
            have n2_ := Aside0.mk (Kd.R_below (zR HO_34) hb)
            have n3_ := Aside0.mk (Kd.V_below (zV HO_265000) hb)
            have n4_ := Aside0.mk (Kd.V_below (zV HO_265001) hb)
            have n5_ := Aside0.mk (Kd.V_below (zV HO_284000) hb)
            have n6_ := Aside0.mk (Kd.V_below (zV HO_284001) hb)
            have n7_ := Aside0.mk (Kd.V_below (zV HO_285000) hb)
            have n8_ := Aside0.mk (Kd.V_below (zV HO_285001) hb)
            have n9_ := Aside0.mk (Kd.V_below (zV HO302) hb)
            have n10_ := Aside0.mk (Kd.V_below (zV HO305) hb)
            have n11_ := Aside0.mk (Kd.V_below (zV HO308) hb)
            have n12_ := Aside0.mk (Kd.V_below (zV HO312) hb)
            have n13_ := Aside0.mk (Kd.V_below (zV HO315) hb)
            have n14_ := Aside0.mk (Kd.V_below (zV HO318) hb)
            have n15_ := Aside0.mk (Kd.V_below (zV HO323) hb)
            have n16_ := Aside0.mk (Kd.V_below (zV HO326) hb)
            have n17_ := Aside0.mk (Kd.V_below (zV HO329) hb)
            have n18_ := Aside0.mk (Kd.V_below (zV HO332) hb)
            have n19_ := Aside0.mk (Kd.V_lower (Kd.V_mono (ok' := fun k_ => ((P0_0_ k_ ∨ P0_1_ k_) ∨ w.heap.size ≤ k_) ∧ some k_ ≠ (.slice Ao34 y271.length co34 : Value).ownBlock ∧ some k_ ≠ (.slice Ao34 y271.length co34 : Value).ownBlock ∧ k_ ≠ gb264 ∧ k_ ≠ gb283 ∧ k_ ≠ gb284 ∧ k_ ≠ gb309 ∧ k_ ≠ gb319) ho0 (fun k_ hk_ => ⟨Or.elim hk_ (fun hs_ => Or.elim hs_ (fun hs_ => hs_.1) (fun hs_ => hs_.1)) (fun hn_ => (.inr (Nat.le_trans (below_size (zc5 HB GE264 GE283 GE284 GE309 GE319)) hn_))), Or.elim hk_ (fun hs_ => Or.elim hs_ (fun hs_ => hs_.2.1) (fun hs_ => hs_.2.1)) (fun hn_ => (Kd.fresh' (Kd.R_lt (zR HO_3)) k_ hn_)), Or.elim hk_ (fun hs_ => Or.elim hs_ (fun hs_ => hs_.2.2.1) (fun hs_ => hs_.2.2.1)) (fun hn_ => (Kd.fresh' (Kd.R_lt (zR HO_34)) k_ hn_)), Or.elim hk_ (fun hs_ => Or.elim hs_ (fun hs_ => hs_.2.2.2.1) (fun hs_ => hs_.2.2.2.1)) (fun hn_ => (Kd.freshB (g := gb264) (o := .cells #[.slice A0_0 l0_0.length c0_0, .slice A0_1 l0_1.length c0_1] 24 (0, 0)) (zb BK264) k_ hn_)), Or.elim hk_ (fun hs_ => Or.elim hs_ (fun hs_ => hs_.2.2.2.2.1) (fun hs_ => hs_.2.2.2.2.1)) (fun hn_ => (Kd.freshB (g := gb283) (o := .cells #[.slice Ao25 t274.length co25, .slice Ao28 t277.length co28] 24 (0, 0)) (zb BK283) k_ hn_)), Or.elim hk_ (fun hs_ => Or.elim hs_ (fun hs_ => hs_.2.2.2.2.2.1) (fun hs_ => hs_.2.2.2.2.2.1)) (fun hn_ => (Kd.freshB (g := gb284) (o := .cells #[.slice Ao77 x285000_2.length co77, .slice Ao78 x285001_2.length co78] 24 (0, 0)) (zb BK284) k_ hn_)), Or.elim hk_ (fun hs_ => Or.elim hs_ (fun hs_ => hs_.2.2.2.2.2.2.1) (fun hs_ => hs_.2.2.2.2.2.2.1)) (fun hn_ => (Kd.freshB (g := gb309) (o := .cells #[.slice Ao81 t300.length co81, .slice Ao86 t303.length co86] 24 (0, 0)) (zb BK309) k_ hn_)), Or.elim hk_ (fun hs_ => Or.elim hs_ (fun hs_ => hs_.2.2.2.2.2.2.2) (fun hs_ => hs_.2.2.2.2.2.2.2)) (fun hn_ => (Kd.freshB (g := gb319) (o := .cells #[.slice Ao92 t310.length co92, .slice Ao98 t313.length co98] 24 (0, 0)) (zb BK319) k_ hn_))⟩)) (below_size (zc5 HB GE264 GE283 GE284 GE309 GE319)))
            have n20_ := Aside0.mk (Kd.V_lower (Kd.V_mono (ok' := fun k_ => ((P0_0_ k_ ∨ P0_1_ k_) ∨ w.heap.size ≤ k_) ∧ some k_ ≠ (.slice Ao34 y271.length co34 : Value).ownBlock ∧ some k_ ≠ (.slice Ao34 y271.length co34 : Value).ownBlock ∧ k_ ≠ gb264 ∧ k_ ≠ gb283 ∧ k_ ≠ gb284 ∧ k_ ≠ gb309 ∧ k_ ≠ gb319) ho1 (fun k_ hk_ => ⟨Or.elim hk_ (fun hs_ => Or.elim hs_ (fun hs_ => hs_.1) (fun hs_ => hs_.1)) (fun hn_ => (.inr (Nat.le_trans (below_size (zc5 HB GE264 GE283 GE284 GE309 GE319)) hn_))), Or.elim hk_ (fun hs_ => Or.elim hs_ (fun hs_ => hs_.2.1) (fun hs_ => hs_.2.1)) (fun hn_ => (Kd.fresh' (Kd.R_lt (zR HO_3)) k_ hn_)), Or.elim hk_ (fun hs_ => Or.elim hs_ (fun hs_ => hs_.2.2.1) (fun hs_ => hs_.2.2.1)) (fun hn_ => (Kd.fresh' (Kd.R_lt (zR HO_34)) k_ hn_)), Or.elim hk_ (fun hs_ => Or.elim hs_ (fun hs_ => hs_.2.2.2.1) (fun hs_ => hs_.2.2.2.1)) (fun hn_ => (Kd.freshB (g := gb264) (o := .cells #[.slice A0_0 l0_0.length c0_0, .slice A0_1 l0_1.length c0_1] 24 (0, 0)) (zb BK264) k_ hn_)), Or.elim hk_ (fun hs_ => Or.elim hs_ (fun hs_ => hs_.2.2.2.2.1) (fun hs_ => hs_.2.2.2.2.1)) (fun hn_ => (Kd.freshB (g := gb283) (o := .cells #[.slice Ao25 t274.length co25, .slice Ao28 t277.length co28] 24 (0, 0)) (zb BK283) k_ hn_)), Or.elim hk_ (fun hs_ => Or.elim hs_ (fun hs_ => hs_.2.2.2.2.2.1) (fun hs_ => hs_.2.2.2.2.2.1)) (fun hn_ => (Kd.freshB (g := gb284) (o := .cells #[.slice Ao77 x285000_2.length co77, .slice Ao78 x285001_2.length co78] 24 (0, 0)) (zb BK284) k_ hn_)), Or.elim hk_ (fun hs_ => Or.elim hs_ (fun hs_ => hs_.2.2.2.2.2.2.1) (fun hs_ => hs_.2.2.2.2.2.2.1)) (fun hn_ => (Kd.freshB (g := gb309) (o := .cells #[.slice Ao81 t300.length co81, .slice Ao86 t303.length co86] 24 (0, 0)) (zb BK309) k_ hn_)), Or.elim hk_ (fun hs_ => Or.elim hs_ (fun hs_ => hs_.2.2.2.2.2.2.2) (fun hs_ => hs_.2.2.2.2.2.2.2)) (fun hn_ => (Kd.freshB (g := gb319) (o := .cells #[.slice Ao92 t310.length co92, .slice Ao98 t313.length co98] 24 (0, 0)) (zb BK319) k_ hn_))⟩)) (below_size (zc5 HB GE264 GE283 GE284 GE309 GE319)))
            have n21_ := Aside0.mk (blk_below (g := gb264) (o := .cells #[.slice A0_0 l0_0.length c0_0, .slice A0_1 l0_1.length c0_1] 24 (0, 0)) (zb BK264) hb)
            have n22_ := Aside0.mk (blk_below (g := gb283) (o := .cells #[.slice Ao25 t274.length co25, .slice Ao28 t277.length co28] 24 (0, 0)) (zb BK283) hb)
            have n23_ := Aside0.mk (blk_below (g := gb284) (o := .cells #[.slice Ao77 x285000_2.length co77, .slice Ao78 x285001_2.length co78] 24 (0, 0)) (zb BK284) hb)
            have n24_ := Aside0.mk (blk_below (g := gb309) (o := .cells #[.slice Ao81 t300.length co81, .slice Ao86 t303.length co86] 24 (0, 0)) (zb BK309) hb)
            have n25_ := Aside0.mk (blk_below (g := gb319) (o := .cells #[.slice Ao92 t310.length co92, .slice Ao98 t313.length co98] 24 (0, 0)) (zb BK319) hb)
            have n26_ := Aside0.mk (below_step (zc5 HB GE264 GE283 GE284 GE309 GE319) hb)
            clear HO_3
            clear HO_5
            clear HO_34
            clear HO_265000
            clear HO_265001
            clear HO_284000
            clear HO_284001
            clear HO_285000
            clear HO_285001
            clear HO302
            clear HO305
            clear HO308
            clear HO312
            clear HO315
            clear HO318
            clear HO323
            clear HO326
            clear HO329
            clear HO332
            clear BK264
            clear BK283
            clear BK284
            clear BK309
            clear BK319
            clear HB
            have HO_3 := n0_
            have HO_5 := n1_
            have HO_34 := n2_
            have HO_265000 := n3_
            have HO_265001 := n4_
            have HO_284000 := n5_
            have HO_284001 := n6_
            have HO_285000 := n7_
            have HO_285001 := n8_
            have HO302 := n9_
            have HO305 := n10_
            have HO308 := n11_
            have HO312 := n12_
            have HO315 := n13_
            have HO318 := n14_
            have HO323 := n15_
            have HO326 := n16_
            have HO329 := n17_
            have HO332 := n18_
            have HO336 := n19_
            have HO339 := n20_
            have BK264 := n21_
            have BK283 := n22_
            have BK284 := n23_
            have BK309 := n24_
            have BK319 := n25_
            have HB := n26_
            clear n0_ n1_ n2_ n3_ n4_ n5_ n6_ n7_ n8_ n9_ n10_ n11_ n12_ n13_ n14_ n15_ n16_ n17_ n18_ n19_ n20_ n21_ n22_ n23_ n24_ n25_ n26_
            (try clear hb)
            (try clear hb2)
            (try clear hk)
            (try clear hi)
            (try clear ho0)
            (try clear ho1)
            refine hK.out _ _ ⟨(blk_cell BK283.out 0).trans rfl, (blk_cell BK283.out 1).trans rfl, (blk_cell BK284.out 0).trans rfl, (blk_cell BK284.out 1).trans rfl, (blk_cell BK319.out 0).trans rfl, (blk_cell BK319.out 1).trans rfl, (blk_cell BK264.out 0).trans rfl, (blk_cell BK264.out 1).trans rfl⟩ (fun hHeld => ?_)
            clear hK K
            refine norm_ (a' := ?_) ?_ ?_
            rotate_left
            ·show Act.put _ (some 82) _ = _
             simp only [Act.put, List.setIfInBounds_toArray, List.set_cons_zero, List.set_cons_succ, i64_w, i32_w]
             rfl
            refine one_ (i := 22) (N := some 84) #[true, true, true, true, true, true, true, true, true, true, true, true, true, true, true, true, true, true, true, true, true, true, true, false, false, false, false, false, false] rfl rfl (one_of HT_.out (by kernel_rfl)) (by decide) (fun K hK => ?_)
            refine goes_ Try.func12 (by kernel_rfl) rfl #[.agg #[.slice A0_0 l0_0.length c0_0, .slice A0_1 l0_1.length c0_1]] (by rfl) rfl rfl zm ?_
            with_reducible refine (handshakerlaw20_ref.calls (fun k_ => (((P0_0_ k_ ∨ P0_1_ k_) ∨ w.heap.size ≤ k_) ∧ (some k_ ≠ (.slice Ao34 y271.length co34 : Value).ownBlock ∧ (some k_ ≠ (.slice Ao34 y271.length co34 : Value).ownBlock ∧ (k_ ≠ gb264 ∧ (k_ ≠ gb283 ∧ (k_ ≠ gb284 ∧ (k_ ≠ gb309 ∧ k_ ≠ gb319)))))))) _ _ l0_0 (fun k_ => (((P0_0_ k_ ∨ P0_1_ k_) ∨ w.heap.size ≤ k_) ∧ (some k_ ≠ (.slice Ao34 y271.length co34 : Value).ownBlock ∧ (some k_ ≠ (.slice Ao34 y271.length co34 : Value).ownBlock ∧ (k_ ≠ gb264 ∧ (k_ ≠ gb283 ∧ (k_ ≠ gb284 ∧ (k_ ≠ gb309 ∧ k_ ≠ gb319)))))))) _ _ l0_1 t340 t343 _ ?side1 ?side2 A70.out).mono ?_
            (case side1 => exact HO_265000.out)
            (case side2 => exact HO_265001.out)
            rintro e w112 ⟨v341, v344, rfl, ho0, ho1, hb⟩
            refine ⟨_, rfl, ?_⟩
            have n0_ := Aside0.mk (Kd.R_below (zR HO_3) hb)
            have n1_ := Aside0.mk (Kd.V_below (zV HO_5) hb)
            have n2_ := Aside0.mk (Kd.R_below (zR HO_34) hb)
            have n3_ := Aside0.mk (Kd.V_below (zV HO_265000) hb)
            have n4_ := Aside0.mk (Kd.V_below (zV HO_265001) hb)
            have n5_ := Aside0.mk (Kd.V_below (zV HO_284000) hb)
            have n6_ := Aside0.mk (Kd.V_below (zV HO_284001) hb)
            have n7_ := Aside0.mk (Kd.V_below (zV HO_285000) hb)
            have n8_ := Aside0.mk (Kd.V_below (zV HO_285001) hb)
            have n9_ := Aside0.mk (Kd.V_below (zV HO302) hb)
            have n10_ := Aside0.mk (Kd.V_below (zV HO305) hb)
            have n11_ := Aside0.mk (Kd.V_below (zV HO308) hb)
            have n12_ := Aside0.mk (Kd.V_below (zV HO312) hb)
            have n13_ := Aside0.mk (Kd.V_below (zV HO315) hb)
            have n14_ := Aside0.mk (Kd.V_below (zV HO318) hb)
            have n15_ := Aside0.mk (Kd.V_below (zV HO323) hb)
            have n16_ := Aside0.mk (Kd.V_below (zV HO326) hb)
            have n17_ := Aside0.mk (Kd.V_below (zV HO329) hb)
            have n18_ := Aside0.mk (Kd.V_below (zV HO332) hb)
            have n19_ := Aside0.mk (Kd.V_below (zV HO336) hb)
            have n20_ := Aside0.mk (Kd.V_below (zV HO339) hb)
            have n21_ := Aside0.mk (Kd.V_lower (Kd.V_mono (ok' := fun k_ => ((P0_0_ k_ ∨ P0_1_ k_) ∨ w.heap.size ≤ k_) ∧ some k_ ≠ (.slice Ao34 y271.length co34 : Value).ownBlock ∧ some k_ ≠ (.slice Ao34 y271.length co34 : Value).ownBlock ∧ k_ ≠ gb264 ∧ k_ ≠ gb283 ∧ k_ ≠ gb284 ∧ k_ ≠ gb309 ∧ k_ ≠ gb319) ho0 (fun k_ hk_ => ⟨Or.elim hk_ (fun hs_ => Or.elim hs_ (fun hs_ => hs_.1) (fun hs_ => hs_.1)) (fun hn_ => (.inr (Nat.le_trans (below_size (zc5 HB GE264 GE283 GE284 GE309 GE319)) hn_))), Or.elim hk_ (fun hs_ => Or.elim hs_ (fun hs_ => hs_.2.1) (fun hs_ => hs_.2.1)) (fun hn_ => (Kd.fresh' (Kd.R_lt (zR HO_3)) k_ hn_)), Or.elim hk_ (fun hs_ => Or.elim hs_ (fun hs_ => hs_.2.2.1) (fun hs_ => hs_.2.2.1)) (fun hn_ => (Kd.fresh' (Kd.R_lt (zR HO_34)) k_ hn_)), Or.elim hk_ (fun hs_ => Or.elim hs_ (fun hs_ => hs_.2.2.2.1) (fun hs_ => hs_.2.2.2.1)) (fun hn_ => (Kd.freshB (g := gb264) (o := .cells #[.slice A0_0 l0_0.length c0_0, .slice A0_1 l0_1.length c0_1] 24 (0, 0)) (zb BK264) k_ hn_)), Or.elim hk_ (fun hs_ => Or.elim hs_ (fun hs_ => hs_.2.2.2.2.1) (fun hs_ => hs_.2.2.2.2.1)) (fun hn_ => (Kd.freshB (g := gb283) (o := .cells #[.slice Ao25 t274.length co25, .slice Ao28 t277.length co28] 24 (0, 0)) (zb BK283) k_ hn_)), Or.elim hk_ (fun hs_ => Or.elim hs_ (fun hs_ => hs_.2.2.2.2.2.1) (fun hs_ => hs_.2.2.2.2.2.1)) (fun hn_ => (Kd.freshB (g := gb284) (o := .cells #[.slice Ao77 x285000_2.length co77, .slice Ao78 x285001_2.length co78] 24 (0, 0)) (zb BK284) k_ hn_)), Or.elim hk_ (fun hs_ => Or.elim hs_ (fun hs_ => hs_.2.2.2.2.2.2.1) (fun hs_ => hs_.2.2.2.2.2.2.1)) (fun hn_ => (Kd.freshB (g := gb309) (o := .cells #[.slice Ao81 t300.length co81, .slice Ao86 t303.length co86] 24 (0, 0)) (zb BK309) k_ hn_)), Or.elim hk_ (fun hs_ => Or.elim hs_ (fun hs_ => hs_.2.2.2.2.2.2.2) (fun hs_ => hs_.2.2.2.2.2.2.2)) (fun hn_ => (Kd.freshB (g := gb319) (o := .cells #[.slice Ao92 t310.length co92, .slice Ao98 t313.length co98] 24 (0, 0)) (zb BK319) k_ hn_))⟩)) (below_size (zc5 HB GE264 GE283 GE284 GE309 GE319)))
            have n22_ := Aside0.mk (Kd.V_lower (Kd.V_mono (ok' := fun k_ => ((P0_0_ k_ ∨ P0_1_ k_) ∨ w.heap.size ≤ k_) ∧ some k_ ≠ (.slice Ao34 y271.length co34 : Value).ownBlock ∧ some k_ ≠ (.slice Ao34 y271.length co34 : Value).ownBlock ∧ k_ ≠ gb264 ∧ k_ ≠ gb283 ∧ k_ ≠ gb284 ∧ k_ ≠ gb309 ∧ k_ ≠ gb319) ho1 (fun k_ hk_ => ⟨Or.elim hk_ (fun hs_ => Or.elim hs_ (fun hs_ => hs_.1) (fun hs_ => hs_.1)) (fun hn_ => (.inr (Nat.le_trans (below_size (zc5 HB GE264 GE283 GE284 GE309 GE319)) hn_))), Or.elim hk_ (fun hs_ => Or.elim hs_ (fun hs_ => hs_.2.1) (fun hs_ => hs_.2.1)) (fun hn_ => (Kd.fresh' (Kd.R_lt (zR HO_3)) k_ hn_)), Or.elim hk_ (fun hs_ => Or.elim hs_ (fun hs_ => hs_.2.2.1) (fun hs_ => hs_.2.2.1)) (fun hn_ => (Kd.fresh' (Kd.R_lt (zR HO_34)) k_ hn_)), Or.elim hk_ (fun hs_ => Or.elim hs_ (fun hs_ => hs_.2.2.2.1) (fun hs_ => hs_.2.2.2.1)) (fun hn_ => (Kd.freshB (g := gb264) (o := .cells #[.slice A0_0 l0_0.length c0_0, .slice A0_1 l0_1.length c0_1] 24 (0, 0)) (zb BK264) k_ hn_)), Or.elim hk_ (fun hs_ => Or.elim hs_ (fun hs_ => hs_.2.2.2.2.1) (fun hs_ => hs_.2.2.2.2.1)) (fun hn_ => (Kd.freshB (g := gb283) (o := .cells #[.slice Ao25 t274.length co25, .slice Ao28 t277.length co28] 24 (0, 0)) (zb BK283) k_ hn_)), Or.elim hk_ (fun hs_ => Or.elim hs_ (fun hs_ => hs_.2.2.2.2.2.1) (fun hs_ => hs_.2.2.2.2.2.1)) (fun hn_ => (Kd.freshB (g := gb284) (o := .cells #[.slice Ao77 x285000_2.length co77, .slice Ao78 x285001_2.length co78] 24 (0, 0)) (zb BK284) k_ hn_)), Or.elim hk_ (fun hs_ => Or.elim hs_ (fun hs_ => hs_.2.2.2.2.2.2.1) (fun hs_ => hs_.2.2.2.2.2.2.1)) (fun hn_ => (Kd.freshB (g := gb309) (o := .cells #[.slice Ao81 t300.length co81, .slice Ao86 t303.length co86] 24 (0, 0)) (zb BK309) k_ hn_)), Or.elim hk_ (fun hs_ => Or.elim hs_ (fun hs_ => hs_.2.2.2.2.2.2.2) (fun hs_ => hs_.2.2.2.2.2.2.2)) (fun hn_ => (Kd.freshB (g := gb319) (o := .cells #[.slice Ao92 t310.length co92, .slice Ao98 t313.length co98] 24 (0, 0)) (zb BK319) k_ hn_))⟩)) (below_size (zc5 HB GE264 GE283 GE284 GE309 GE319)))
            have n23_ := Aside0.mk (blk_below (g := gb264) (o := .cells #[.slice A0_0 l0_0.length c0_0, .slice A0_1 l0_1.length c0_1] 24 (0, 0)) (zb BK264) hb)
            have n24_ := Aside0.mk (blk_below (g := gb283) (o := .cells #[.slice Ao25 t274.length co25, .slice Ao28 t277.length co28] 24 (0, 0)) (zb BK283) hb)
            have n25_ := Aside0.mk (blk_below (g := gb284) (o := .cells #[.slice Ao77 x285000_2.length co77, .slice Ao78 x285001_2.length co78] 24 (0, 0)) (zb BK284) hb)
            have n26_ := Aside0.mk (blk_below (g := gb309) (o := .cells #[.slice Ao81 t300.length co81, .slice Ao86 t303.length co86] 24 (0, 0)) (zb BK309) hb)
            have n27_ := Aside0.mk (blk_below (g := gb319) (o := .cells #[.slice Ao92 t310.length co92, .slice Ao98 t313.length co98] 24 (0, 0)) (zb BK319) hb)
            have n28_ := Aside0.mk (below_step (zc5 HB GE264 GE283 GE284 GE309 GE319) hb)
            clear HO_3
            clear HO_5
            clear HO_34
            clear HO_265000
            clear HO_265001
            clear HO_284000
            clear HO_284001
            clear HO_285000
            clear HO_285001
            clear HO302
            clear HO305
            clear HO308
            clear HO312
            clear HO315
            clear HO318
            clear HO323
            clear HO326
            clear HO329
            clear HO332
            clear HO336
            clear HO339
            clear BK264
            clear BK283
            clear BK284
            clear BK309
            clear BK319
            clear HB
            have HO_3 := n0_
            have HO_5 := n1_
            have HO_34 := n2_
            have HO_265000 := n3_
            have HO_265001 := n4_
            have HO_284000 := n5_
            have HO_284001 := n6_
            have HO_285000 := n7_
            have HO_285001 := n8_
            have HO302 := n9_
            have HO305 := n10_
            have HO308 := n11_
            have HO312 := n12_
            have HO315 := n13_
            have HO318 := n14_
            have HO323 := n15_
            have HO326 := n16_
            have HO329 := n17_
            have HO332 := n18_
            have HO336 := n19_
            have HO339 := n20_
            have HO342 := n21_
            have HO345 := n22_
            have BK264 := n23_
            have BK283 := n24_
            have BK284 := n25_
            have BK309 := n26_
            have BK319 := n27_
            have HB := n28_
            clear n0_ n1_ n2_ n3_ n4_ n5_ n6_ n7_ n8_ n9_ n10_ n11_ n12_ n13_ n14_ n15_ n16_ n17_ n18_ n19_ n20_ n21_ n22_ n23_ n24_ n25_ n26_ n27_ n28_
            (try clear hb)
            (try clear hb2)
            (try clear hk)
            (try clear hi)
            (try clear ho0)
            (try clear ho1)
            obtain ⟨Ao113, co113, eo113⟩ := Kd.V_slice HO336.out
            (first | subst eo113 | (injection eo113 with f1_ f2_ f3_; have f4_ := f1_.symm; have f5_ := f3_.symm; clear f1_ f2_ f3_; subst f4_; subst f5_))
            obtain ⟨Ao114, co114, eo114⟩ := Kd.V_slice HO339.out
            (first | subst eo114 | (injection eo114 with f1_ f2_ f3_; have f4_ := f1_.symm; have f5_ := f3_.symm; clear f1_ f2_ f3_; subst f4_; subst f5_))
            obtain ⟨Ao115, co115, eo115⟩ := Kd.V_slice HO342.out
            (first | subst eo115 | (injection eo115 with f1_ f2_ f3_; have f4_ := f1_.symm; have f5_ := f3_.symm; clear f1_ f2_ f3_; subst f4_; subst f5_))
            obtain ⟨Ao116, co116, eo116⟩ := Kd.V_slice HO345.out
            (first | subst eo116 | (injection eo116 with f1_ f2_ f3_; have f4_ := f1_.symm; have f5_ := f3_.symm; clear f1_ f2_ f3_; subst f4_; subst f5_))
            refine hK.out _ _ ⟨(blk_cell BK283.out 0).trans rfl, (blk_cell BK283.out 1).trans rfl, (blk_cell BK284.out 0).trans rfl, (blk_cell BK284.out 1).trans rfl, (blk_cell BK319.out 0).trans rfl, (blk_cell BK319.out 1).trans rfl, (blk_cell BK264.out 0).trans rfl, (blk_cell BK264.out 1).trans rfl⟩ (fun hHeld => ?_)
            clear hK K
            refine norm_ (a' := ?_) ?_ ?_
            rotate_left
            ·show Act.put _ (some 84) _ = _
             simp only [Act.put, List.setIfInBounds_toArray, List.set_cons_zero, List.set_cons_succ, i64_w, i32_w]
             rfl
            refine one_ (i := 23) (N := some 85) #[true, true, true, true, true, true, true, true, true, true, true, true, true, true, true, true, true, true, true, true, true, true, true, true, false, false, false, false, false] rfl rfl (one_of HT_.out (by kernel_rfl)) (by decide) (fun K hK => ?_)
            refine goes_ Try.func21 (by kernel_rfl) rfl #[.agg #[.slice Ao113 t334.length co113, .slice Ao114 t337.length co114], .agg #[.slice Ao115 t340.length co115, .slice Ao116 t343.length co116]] (by rfl) rfl rfl zm ?_
            with_reducible refine (handshakerref20_Same.calls k2 _ _ t334 _ _ t337 _ _ t340 _ _ t343 true _ ?side1 ?side2 ?side3 ?side4 ?side5 ?side6 ?side7 ?side8 A71.out).mono ?_
            (case side1 => repeat (first | exact (Kd.V_reads' HO336.out).2.2 | (with_reducible refine Kd.C_alloc ?_ _) | (with_reducible refine Kd.C_drewN ?_ _) | (with_reducible refine Kd.C_drew ?_)))
            (case side2 => exact (Kd.V_reads' HO336.out).2.1)
            (case side3 => repeat (first | exact (Kd.V_reads' HO339.out).2.2 | (with_reducible refine Kd.C_alloc ?_ _) | (with_reducible refine Kd.C_drewN ?_ _) | (with_reducible refine Kd.C_drew ?_)))
            (case side4 => exact (Kd.V_reads' HO339.out).2.1)
            (case side5 => repeat (first | exact (Kd.V_reads' HO342.out).2.2 | (with_reducible refine Kd.C_alloc ?_ _) | (with_reducible refine Kd.C_drewN ?_ _) | (with_reducible refine Kd.C_drew ?_)))
            (case side6 => exact (Kd.V_reads' HO342.out).2.1)
            (case side7 => repeat (first | exact (Kd.V_reads' HO345.out).2.2 | (with_reducible refine Kd.C_alloc ?_ _) | (with_reducible refine Kd.C_drewN ?_ _) | (with_reducible refine Kd.C_drew ?_)))
            (case side8 => exact (Kd.V_reads' HO345.out).2.1)
            rintro e w117 ⟨rfl, hb⟩
            refine ⟨_, rfl, ?_⟩
            have n0_ := Aside0.mk (Kd.R_below (zR HO_3) hb)
            have n1_ := Aside0.mk (Kd.V_below (zV HO_5) hb)
            have n2_ := Aside0.mk (Kd.R_below (zR HO_34) hb)
            have n3_ := Aside0.mk (Kd.V_below (zV HO_265000) hb)
            have n4_ := Aside0.mk (Kd.V_below (zV HO_265001) hb)
            have n5_ := Aside0.mk (Kd.V_below (zV HO_284000) hb)
            have n6_ := Aside0.mk (Kd.V_below (zV HO_284001) hb)
            have n7_ := Aside0.mk (Kd.V_below (zV HO_285000) hb)
            have n8_ := Aside0.mk (Kd.V_below (zV HO_285001) hb)
            have n9_ := Aside0.mk (Kd.V_below (zV HO302) hb)
            have n10_ := Aside0.mk (Kd.V_below (zV HO305) hb)
            have n11_ := Aside0.mk (Kd.V_below (zV HO308) hb)
            have n12_ := Aside0.mk (Kd.V_below (zV HO312) hb)
            have n13_ := Aside0.mk (Kd.V_below (zV HO315) hb)
            have n14_ := Aside0.mk (Kd.V_below (zV HO318) hb)
            have n15_ := Aside0.mk (Kd.V_below (zV HO323) hb)
            have n16_ := Aside0.mk (Kd.V_below (zV HO326) hb)
            have n17_ := Aside0.mk (Kd.V_below (zV HO329) hb)
            have n18_ := Aside0.mk (Kd.V_below (zV HO332) hb)
            have n19_ := Aside0.mk (Kd.V_below (zV HO336) hb)
            have n20_ := Aside0.mk (Kd.V_below (zV HO339) hb)
            have n21_ := Aside0.mk (Kd.V_below (zV HO342) hb)
            have n22_ := Aside0.mk (Kd.V_below (zV HO345) hb)
            have n23_ := Aside0.mk (blk_below (g := gb264) (o := .cells #[.slice A0_0 l0_0.length c0_0, .slice A0_1 l0_1.length c0_1] 24 (0, 0)) (zb BK264) hb)
            have n24_ := Aside0.mk (blk_below (g := gb283) (o := .cells #[.slice Ao25 t274.length co25, .slice Ao28 t277.length co28] 24 (0, 0)) (zb BK283) hb)
            have n25_ := Aside0.mk (blk_below (g := gb284) (o := .cells #[.slice Ao77 x285000_2.length co77, .slice Ao78 x285001_2.length co78] 24 (0, 0)) (zb BK284) hb)
            have n26_ := Aside0.mk (blk_below (g := gb309) (o := .cells #[.slice Ao81 t300.length co81, .slice Ao86 t303.length co86] 24 (0, 0)) (zb BK309) hb)
            have n27_ := Aside0.mk (blk_below (g := gb319) (o := .cells #[.slice Ao92 t310.length co92, .slice Ao98 t313.length co98] 24 (0, 0)) (zb BK319) hb)
            have n28_ := Aside0.mk (below_step (zc5 HB GE264 GE283 GE284 GE309 GE319) hb)
            clear HO_3
            clear HO_5
            clear HO_34
            clear HO_265000
            clear HO_265001
            clear HO_284000
            clear HO_284001
            clear HO_285000
            clear HO_285001
            clear HO302
            clear HO305
            clear HO308
            clear HO312
            clear HO315
            clear HO318
            clear HO323
            clear HO326
            clear HO329
            clear HO332
            clear HO336
            clear HO339
            clear HO342
            clear HO345
            clear BK264
            clear BK283
            clear BK284
            clear BK309
            clear BK319
            clear HB
            have HO_3 := n0_
            have HO_5 := n1_
            have HO_34 := n2_
            have HO_265000 := n3_
            have HO_265001 := n4_
            have HO_284000 := n5_
            have HO_284001 := n6_
            have HO_285000 := n7_
            have HO_285001 := n8_
            have HO302 := n9_
            have HO305 := n10_
            have HO308 := n11_
            have HO312 := n12_
            have HO315 := n13_
            have HO318 := n14_
            have HO323 := n15_
            have HO326 := n16_
            have HO329 := n17_
            have HO332 := n18_
            have HO336 := n19_
            have HO339 := n20_
            have HO342 := n21_
            have HO345 := n22_
            have BK264 := n23_
            have BK283 := n24_
            have BK284 := n25_
            have BK309 := n26_
            have BK319 := n27_
            have HB := n28_
            clear n0_ n1_ n2_ n3_ n4_ n5_ n6_ n7_ n8_ n9_ n10_ n11_ n12_ n13_ n14_ n15_ n16_ n17_ n18_ n19_ n20_ n21_ n22_ n23_ n24_ n25_ n26_ n27_ n28_
            (try clear hb)
            (try clear hb2)
            (try clear hk)
            (try clear hi)
            refine hK.out _ _ ⟨(blk_cell BK283.out 0).trans rfl, (blk_cell BK283.out 1).trans rfl, (blk_cell BK284.out 0).trans rfl, (blk_cell BK284.out 1).trans rfl, (blk_cell BK319.out 0).trans rfl, (blk_cell BK319.out 1).trans rfl, (blk_cell BK264.out 0).trans rfl, (blk_cell BK264.out 1).trans rfl⟩ (fun hHeld => ?_)
            clear hK K
            refine norm_ (a' := ?_) ?_ ?_
            rotate_left
            ·show Act.put _ (some 85) _ = _
             simp only [Act.put, List.setIfInBounds_toArray, List.set_cons_zero, List.set_cons_succ, i64_w, i32_w]
             rfl
            refine pure_ (i := 24) (N := some 86) (v := ?_) (a' := ?_) #[true, true, true, true, true, true, true, true, true, true, true, true, true, true, true, true, true, true, true, true, true, true, true, true, true, false, false, false, false] rfl rfl (any_of HT_.out (by kernel_rfl)) (fun _ _ _ h => h) (Or.inl ⟨by rfl, ?_⟩) ?_ ?_
            rotate_left
            ·intro w'
             go_simp
             with_reducible rfl
            rotate_left
            ·simp only [Act.put, List.setIfInBounds_toArray, List.set_cons_zero, List.set_cons_succ, i64_w, i32_w]
             rfl
            refine pure_ (i := 25) (N := some 87) (v := ?_) (a' := ?_) #[true, true, true, true, true, true, true, true, true, true, true, true, true, true, true, true, true, true, true, true, true, true, true, true, true, true, false, false, false] rfl rfl (any_of HT_.out (by kernel_rfl)) (fun _ _ _ h => h) (Or.inl ⟨by rfl, ?_⟩) ?_ ?_
            rotate_left
            ·intro w'
             go_simp
             with_reducible rfl
            rotate_left
            ·simp only [Act.put, List.setIfInBounds_toArray, List.set_cons_zero, List.set_cons_succ, i64_w, i32_w]
             rfl
            refine one_ (i := 26) (N := some 88) #[true, true, true, true, true, true, true, true, true, true, true, true, true, true, true, true, true, true, true, true, true, true, true, true, true, true, true, false, false] rfl rfl (one_of HT_.out (by kernel_rfl)) (by decide) (fun K hK => ?_)
            refine goes_ Try.func9 (by kernel_rfl) rfl #[] (by rfl) rfl rfl zm ?_
            with_reducible refine (handshakerlaw20_awake.calls k2  t347 _ A73.out).mono ?_
            rintro e w118 ⟨rfl, hb⟩
            refine ⟨_, rfl, ?_⟩
            have n0_ := Aside0.mk (Kd.R_below (zR HO_3) hb)
            have n1_ := Aside0.mk (Kd.V_below (zV HO_5) hb)
            have n2_ := Aside0.mk (Kd.R_below (zR HO_34) hb)
            have n3_ := Aside0.mk (Kd.V_below (zV HO_265000) hb)
            have n4_ := Aside0.mk (Kd.V_below (zV HO_265001) hb)
            have n5_ := Aside0.mk (Kd.V_below (zV HO_284000) hb)
            have n6_ := Aside0.mk (Kd.V_below (zV HO_284001) hb)
            have n7_ := Aside0.mk (Kd.V_below (zV HO_285000) hb)
            have n8_ := Aside0.mk (Kd.V_below (zV HO_285001) hb)
            have n9_ := Aside0.mk (Kd.V_below (zV HO302) hb)
            have n10_ := Aside0.mk (Kd.V_below (zV HO305) hb)
            have n11_ := Aside0.mk (Kd.V_below (zV HO308) hb)
            have n12_ := Aside0.mk (Kd.V_below (zV HO312) hb)
            have n13_ := Aside0.mk (Kd.V_below (zV HO315) hb)
            have n14_ := Aside0.mk (Kd.V_below (zV HO318) hb)
            have n15_ := Aside0.mk (Kd.V_below (zV HO323) hb)
            have n16_ := Aside0.mk (Kd.V_below (zV HO326) hb)
            have n17_ := Aside0.mk (Kd.V_below (zV HO329) hb)
            have n18_ := Aside0.mk (Kd.V_below (zV HO332) hb)
            have n19_ := Aside0.mk (Kd.V_below (zV HO336) hb)
            have n20_ := Aside0.mk (Kd.V_below (zV HO339) hb)
            have n21_ := Aside0.mk (Kd.V_below (zV HO342) hb)
            have n22_ := Aside0.mk (Kd.V_below (zV HO345) hb)
            have n23_ := Aside0.mk (blk_below (g := gb264) (o := .cells #[.slice A0_0 l0_0.length c0_0, .slice A0_1 l0_1.length c0_1] 24 (0, 0)) (zb BK264) hb)
            have n24_ := Aside0.mk (blk_below (g := gb283) (o := .cells #[.slice Ao25 t274.length co25, .slice Ao28 t277.length co28] 24 (0, 0)) (zb BK283) hb)
            have n25_ := Aside0.mk (blk_below (g := gb284) (o := .cells #[.slice Ao77 x285000_2.length co77, .slice Ao78 x285001_2.length co78] 24 (0, 0)) (zb BK284) hb)
            have n26_ := Aside0.mk (blk_below (g := gb309) (o := .cells #[.slice Ao81 t300.length co81, .slice Ao86 t303.length co86] 24 (0, 0)) (zb BK309) hb)
            have n27_ := Aside0.mk (blk_below (g := gb319) (o := .cells #[.slice Ao92 t310.length co92, .slice Ao98 t313.length co98] 24 (0, 0)) (zb BK319) hb)
            have n28_ := Aside0.mk (below_step (zc5 HB GE264 GE283 GE284 GE309 GE319) hb)
            clear HO_3
            clear HO_5
            clear HO_34
            clear HO_265000
            clear HO_265001
            clear HO_284000
            clear HO_284001
            clear HO_285000
            clear HO_285001
            clear HO302
            clear HO305
            clear HO308
            clear HO312
            clear HO315
            clear HO318
            clear HO323
            clear HO326
            clear HO329
            clear HO332
            clear HO336
            clear HO339
            clear HO342
            clear HO345
            clear BK264
            clear BK283
            clear BK284
            clear BK309
            clear BK319
            clear HB
            have HO_3 := n0_
            have HO_5 := n1_
            have HO_34 := n2_
            have HO_265000 := n3_
            have HO_265001 := n4_
            have HO_284000 := n5_
            have HO_284001 := n6_
            have HO_285000 := n7_
            have HO_285001 := n8_
            have HO302 := n9_
            have HO305 := n10_
            have HO308 := n11_
            have HO312 := n12_
            have HO315 := n13_
            have HO318 := n14_
            have HO323 := n15_
            have HO326 := n16_
            have HO329 := n17_
            have HO332 := n18_
            have HO336 := n19_
            have HO339 := n20_
            have HO342 := n21_
            have HO345 := n22_
            have BK264 := n23_
            have BK283 := n24_
            have BK284 := n25_
            have BK309 := n26_
            have BK319 := n27_
            have HB := n28_
            clear n0_ n1_ n2_ n3_ n4_ n5_ n6_ n7_ n8_ n9_ n10_ n11_ n12_ n13_ n14_ n15_ n16_ n17_ n18_ n19_ n20_ n21_ n22_ n23_ n24_ n25_ n26_ n27_ n28_
            (try clear hb)
            (try clear hb2)
            (try clear hk)
            (try clear hi)
            refine hK.out _ _ ⟨(blk_cell BK283.out 0).trans rfl, (blk_cell BK283.out 1).trans rfl, (blk_cell BK284.out 0).trans rfl, (blk_cell BK284.out 1).trans rfl, (blk_cell BK319.out 0).trans rfl, (blk_cell BK319.out 1).trans rfl, (blk_cell BK264.out 0).trans rfl, (blk_cell BK264.out 1).trans rfl⟩ (fun hHeld => ?_)
            clear hK K
            refine norm_ (a' := ?_) ?_ ?_
            rotate_left
            ·show Act.put _ (some 88) _ = _
             simp only [Act.put, List.setIfInBounds_toArray, List.set_cons_zero, List.set_cons_succ, i64_w, i32_w]
             rfl
            refine pure_ (i := 27) (N := some 89) (v := ?_) (a' := ?_) #[true, true, true, true, true, true, true, true, true, true, true, true, true, true, true, true, true, true, true, true, true, true, true, true, true, true, true, true, false] rfl rfl (any_of HT_.out (by kernel_rfl)) (fun _ _ _ h => h) (Or.inl ⟨by rfl, ?_⟩) ?_ ?_
            rotate_left
            ·intro w'
             go_simp
             with_reducible rfl
            rotate_left
            ·simp only [Act.put, List.setIfInBounds_toArray, List.set_cons_zero, List.set_cons_succ, i64_w, i32_w]
             rfl
            refine pure_ (i := 28) (N := some 2) (v := ?_) (a' := ?_) #[true, true, true, true, true, true, true, true, true, true, true, true, true, true, true, true, true, true, true, true, true, true, true, true, true, true, true, true, true] rfl rfl (any_of HT_.out (by kernel_rfl)) (fun _ _ _ h => h) (Or.inl ⟨by rfl, ?_⟩) ?_ ?_
            rotate_left
            ·intro w'
             go_simp
             with_reducible rfl
            rotate_left
            ·simp only [Act.put, List.setIfInBounds_toArray, List.set_cons_zero, List.set_cons_succ, i64_w, i32_w]
             rfl
            refine done_ (done_of HT_.out (by kernel_rfl)) ?_
            try go_wp2
            go_ret
            exact ⟨by first | rfl | (simp [errW_none, errW_some] <;> rfl) | (simp [*, errW_none, errW_some] <;> rfl), by repeat (first | (with_reducible first | exact HB.out | apply below_alloc | apply pw_below_drewN | apply below_drew1 | refine below_set ?_ GE264.out | refine below_set ?_ GE283.out | refine below_set ?_ GE284.out | refine below_set ?_ GE309.out | refine below_set ?_ GE319.out) | exact HB.out)⟩
           ·replace c72 := Bool.eq_false_iff.mpr c72
            subst c72
            have H1 : (none) = some r := by rw [if_neg (show ¬ (false = true) by decide)] at H; exact H
            clear H
            have H := H1
            clear H1
            exact absurd H (by simp)
          ·rw [if_neg c68] at H
           exact absurd H (by simp)
         ·replace c67 := Bool.eq_false_iff.mpr c67
          subst c67
          have H1 : (none) = some r := by rw [if_neg (show ¬ (false = true) by decide)] at H; exact H
          clear H
          have H := H1
          clear H1
          exact absurd H (by simp)
        ·replace c63 := Bool.eq_false_iff.mpr c63
         subst c63
         have H1 : (none) = some r := by rw [if_neg (show ¬ (false = true) by decide)] at H; exact H
         clear H
         have H := H1
         clear H1
         exact absurd H (by simp)
    ·rw [if_neg c16] at H
     exact absurd H (by simp)

end Go.Proofs.Ytllmfahkiabkcaa.PCondAll
