/- Lean functions that say what functions of the given program compute, and proofs by walking the code that each call does just that; no condition but those that each statement names. -/
import Derived.Test.YtpmcoehggajmcaaPSwapBothx0
import Derived.Test.YtpmcoehggajmcaaPSwapBothx1
namespace Go.Proofs.Ytpmcoehggajmcaa.PSwapBoth
open Go.RowKit Go.Proofs.YtpmcoehggajmcaaW.PrintWords Go.Proofs.YtpmcoehggajmcaaW.PrintLast Go.Proofs.YtpmcoehggajmcaaW.PrintMore
attribute [local go_sem] max2_int min2_int max_two min_two max_three min_three max_four min_four   -- for this text's walks alone
set_option linter.unusedVariables false
set_option linter.unusedSimpArgs false

/-! ### swap_Leave: function 9 -/
def swap_Leave.f (k : Nat) (l0 : List (S26)) (a1 : Int) : Option ((List (S26)) × Int × Int × Int × Int × Int) := (swap_place.f l0 a1).bind fun t120 => ((swap_Right.f k l0).bind fun t121 => (if t121 = true then (if t120 < 0 then (some (l0, 0, 0, 0, 0, 3)) else ((swap_Offer_19.f l0).bind fun t122 => ((swap_Offer_18.f t122 t120 (wrap64 (t120 + 1))).bind fun t125 => (if 0 ≤ t120 then (if t120 < (l0.length : Int) then (some (t125, (rd_T26 l0 t120).f0, (rd_T26 l0 t120).f1, (rd_T26 l0 t120).f2, (rd_T26 l0 t120).f3, 0)) else (none)) else (none))))) else (some (l0, 0, 0, 0, 0, 1))))
theorem swap_Leave.mono : ∀ a0 a1 k, LeO (swap_Leave.f k a0 a1) (swap_Leave.f (k + 1) a0 a1) := by
  intro a0 a1 k
  unfold swap_Leave.f
  repeat' first
      | (with_reducible exact swap_Right.mono _ _)
      | (with_reducible exact LeO.refl _)
      | (with_reducible exact LeO.none _)
      | (with_reducible refine LeO.ite ?_ ?_)
      | (with_reducible refine LeO.bind ?_ (fun _ => ?_))
      | exact swap_Right.mono _ _
      | exact LeO.none _
      | refine LeO.ite ?_ ?_
      | refine LeO.bind ?_ (fun _ => ?_)
def swap_Leave.T6 : Bool × List (List Nat × List Nat) := (true, [([], []), ([0], [0]), ([], []), ([], []), ([3], [3]), ([1, 2, 4, 1], [1, 2, 4]), ([], []), ([], []), ([6, 7], [6, 7]), ([8], [8]), ([5, 5, 0, 1, 2, 3, 4, 5], [5]), ([9, 10, 0, 1, 2, 3, 4, 5, 6, 7, 8, 9, 10], [9]), ([11, 0, 1, 2, 3, 4, 5, 6, 7, 8, 9, 10, 11], [])])
def swap_Leave.B6 : List Nat := [0, 1, 0, 0, 8, 31, 0, 0, 192, 448, 63, 2047, 4095]
theorem swap_Leave.tab6 : rtab .any (opsOf Try.f9 6) = swap_Leave.T6 := by kernel_rfl
theorem swap_Leave.bits6 : waitsOk swap_Leave.T6.2 swap_Leave.B6 = true := by kernel_rfl
set_option maxHeartbeats 8000000 in
set_option maxRecDepth 100000 in
theorem swap_Leave.calls (k : Nat) (P0_ : Nat → Prop) (A0 : Option Addr) (c0 : Nat) (l0 : List (S26)) (a1 : Int) (r1 : List (S26)) (r2 : Int) (r3 : Int) (r4 : Int) (r5 : Int) (r6 : Int) (w : World) (hs0 : Kd.V k26 26 w w.heap.size (fun k_ => P0_ k_) (.slice A0 l0.length c0) l0) (h : swap_Leave.f k l0 a1 = some (r1, r2, r3, r4, r5, r6)) :
    Calls Try.prog 9 #[.slice A0 l0.length c0, .int .i64 a1] w fun e w' => ∃ v0_ : Value, e = .returned (.tuple #[v0_, .agg #[.int .i64 r2, .int .i64 r3, .int .i64 r4, .int .i64 r5], .int .i64 r6]) ∧ Kd.V k26 26 w' w.heap.size (fun k_ => (P0_ k_ ∨ w.heap.size ≤ k_)) v0_ r1 ∧ Below w.heap.size w w' := by
  have hu26 := Try.underlying26
  have HO0 := Aside0.mk (show Kd.V k26 26 w w.heap.size (fun k_ => (P0_ k_ ∨ w.heap.size ≤ k_)) (.slice A0 l0.length c0) l0 from Kd.V_mono hs0 (fun k_ hk => .inl hk))
  have HB := Aside0.mk (Below.refl w.heap.size w)
  have H : ((swap_place.f l0 a1).bind fun t120 => ((swap_Right.f k l0).bind fun t121 => (if t121 = true then (if t120 < 0 then (some (l0, 0, 0, 0, 0, 3)) else ((swap_Offer_19.f l0).bind fun t122 => ((swap_Offer_18.f t122 t120 (wrap64 (t120 + 1))).bind fun t125 => (if 0 ≤ t120 then (if t120 < (l0.length : Int) then (some (t125, (rd_T26 l0 t120).f0, (rd_T26 l0 t120).f1, (rd_T26 l0 t120).f2, (rd_T26 l0 t120).f3, 0)) else (none)) else (none))))) else (some (l0, 0, 0, 0, 0, 1))))) = some (r1, r2, r3, r4, r5, r6) := h
  clear h
  replace H := Option.bind_eq_some_iff.mp H
  obtain ⟨t120, A30, H⟩ := H
  replace H : ((swap_Right.f k l0).bind fun t121 => (if t121 = true then (if t120 < 0 then (some (l0, 0, 0, 0, 0, 3)) else ((swap_Offer_19.f l0).bind fun t122 => ((swap_Offer_18.f t122 t120 (wrap64 (t120 + 1))).bind fun t125 => (if 0 ≤ t120 then (if t120 < (l0.length : Int) then (some (t125, (rd_T26 l0 t120).f0, (rd_T26 l0 t120).f1, (rd_T26 l0 t120).f2, (rd_T26 l0 t120).f3, 0)) else (none)) else (none))))) else (some (l0, 0, 0, 0, 0, 1)))) = some (r1, r2, r3, r4, r5, r6) := H
  have A3 := Aside0.mk A30
  clear A30
  replace H := Option.bind_eq_some_iff.mp H
  obtain ⟨t121, A40, H⟩ := H
  replace H : (if t121 = true then (if t120 < 0 then (some (l0, 0, 0, 0, 0, 3)) else ((swap_Offer_19.f l0).bind fun t122 => ((swap_Offer_18.f t122 t120 (wrap64 (t120 + 1))).bind fun t125 => (if 0 ≤ t120 then (if t120 < (l0.length : Int) then (some (t125, (rd_T26 l0 t120).f0, (rd_T26 l0 t120).f1, (rd_T26 l0 t120).f2, (rd_T26 l0 t120).f3, 0)) else (none)) else (none))))) else (some (l0, 0, 0, 0, 0, 1))) = some (r1, r2, r3, r4, r5, r6) := H
  have A4 := Aside0.mk A40
  clear A40
  by_cases c5 : t121 = true
  · subst c5
    have H1 : (if t120 < 0 then (some (l0, 0, 0, 0, 0, 3)) else ((swap_Offer_19.f l0).bind fun t122 => ((swap_Offer_18.f t122 t120 (wrap64 (t120 + 1))).bind fun t125 => (if 0 ≤ t120 then (if t120 < (l0.length : Int) then (some (t125, (rd_T26 l0 t120).f0, (rd_T26 l0 t120).f1, (rd_T26 l0 t120).f2, (rd_T26 l0 t120).f3, 0)) else (none)) else (none))))) = some (r1, r2, r3, r4, r5, r6) := by rw [if_pos rfl] at H; exact H
    clear H
    have H := H1
    clear H1
    by_cases c6 : t120 < 0
    · rw [if_pos c6] at H
      have c6b0 : decide (t120 < 0) = true := decide_eq_true c6
      clear c6
      simp only [Option.some.injEq, Prod.mk.injEq] at H
      obtain ⟨rfl, rfl, rfl, rfl, rfl, rfl⟩ := H
      go_enter Try.func9, Try.ntmps9
      go_wp2_with (first | ((with_reducible refine gate_dst (N := 5) rfl ?_); refine box_event ?hg (N := 5) ?hd (cs := #[.int .i64 0, .int .i64 0, .int .i64 0, .int .i64 0]) (t := 26) ?hr ?_; (case hd => rfl); (case hg => rfl); (case hr => first | (go_simp; done) | (go_simp; rfl)); intro gb119 hg w7 hbox hb; have n0_ := Aside0.mk (Kd.V_below (Kd.V_elderB (by (with_reducible repeat (first | apply Kd.V_alloc | apply Kd.V_drewN | apply Kd.V_drew)); exact HO0.out) gb119 (Nat.le_of_eq hg.symm)) hb); have n1_ := Aside0.mk (below_step (by repeat (first | (with_reducible first | exact HB.out | apply below_alloc | apply pw_below_drewN | apply below_drew1) | exact HB.out)) hb); have n2_ := Aside0.mk (hbox); have n3_ := Aside0.mk ((by rw [hg]; exact (below_size (by repeat (first | (with_reducible first | exact HB.out | apply below_alloc | apply pw_below_drewN | apply below_drew1) | exact HB.out))) : w.heap.size ≤ gb119)); have n4_ := Aside0.mk ((by rw [hg]; exact (below_size (by repeat (first | (with_reducible first | exact HB.out | apply below_alloc | apply pw_below_drewN | apply below_drew1) | exact HB.out))) : w.heap.size ≤ gb119)); clear HO0; clear HB; have HO0 := n0_; have HB := n1_; have BK119 := n2_; have GW119 := n3_; have GE119 := n4_; clear n0_ n1_ n2_ n3_ n4_; clear hb hbox hg) | ((with_reducible refine gate_callee (f := 17) rfl ?_); refine goesL_ (some 10) rfl rfl Try.func17 (by kernel_rfl) rfl #[.slice A0 l0.length c0, .int .i64 a1] rfl (by (try simp only [List.map_toArray, List.map_cons, List.map_nil]); first | done | rfl | (simp only [List.length_drop, List.length_take]; rfl)) ?_; (with_reducible refine (swap_place.calls _ _ l0 a1 t120 _ ?side1 ?side2 A3.out).mono ?_); (case side1 => repeat (first | exact (Kd.V_reads' HO0.out).2.2 | (with_reducible refine Kd.C_alloc ?_ _) | (with_reducible refine Kd.C_drewN ?_ _) | (with_reducible refine Kd.C_drew ?_))); (case side2 => exact (Kd.V_reads' HO0.out).2.1); rintro e w8 ⟨rfl, hb⟩; refine ⟨_, rfl, ?_⟩; have n0_ := Aside0.mk (Kd.V_below (by (with_reducible repeat (first | apply Kd.V_alloc | apply Kd.V_drewN | apply Kd.V_drew)); exact HO0.out) hb); have n1_ := Aside0.mk (blk_below (g := gb119) (o := .cells #[.int .i64 0, .int .i64 0, .int .i64 0, .int .i64 0] 26 (0, 0)) (by (with_reducible repeat (first | refine blk_drewN ?_ _ | refine blk_drew ?_ | refine blk_alloc ?_ _)); exact BK119.out) hb); have n2_ := Aside0.mk (below_step (by repeat (first | (with_reducible first | exact HB.out | apply below_alloc | apply pw_below_drewN | apply below_drew1 | refine below_set ?_ GE119.out) | exact HB.out)) hb); clear HO0; clear BK119; clear HB; have HO0 := n0_; have BK119 := n1_; have HB := n2_; clear n0_ n1_ n2_; (try clear hb); (try clear hb2); (try clear hk); (try clear hi)) | ((with_reducible refine gate_callee (f := 14) rfl ?_); refine goesL_ (some 13) rfl rfl Try.func14 (by kernel_rfl) rfl #[.slice A0 l0.length c0] rfl (by (try simp only [List.map_toArray, List.map_cons, List.map_nil]); first | done | rfl | (simp only [List.length_drop, List.length_take]; rfl)) ?_; (with_reducible refine (swap_Right.calls k _ _ l0 true _ ?side1 ?side2 A4.out).mono ?_); (case side1 => repeat (first | exact (Kd.V_reads' HO0.out).2.2 | (with_reducible refine Kd.C_alloc ?_ _) | (with_reducible refine Kd.C_drewN ?_ _) | (with_reducible refine Kd.C_drew ?_))); (case side2 => exact (Kd.V_reads' HO0.out).2.1); rintro e w9 ⟨rfl, hb⟩; refine ⟨_, rfl, ?_⟩; have n0_ := Aside0.mk (Kd.V_below (by (with_reducible repeat (first | apply Kd.V_alloc | apply Kd.V_drewN | apply Kd.V_drew)); exact HO0.out) hb); have n1_ := Aside0.mk (blk_below (g := gb119) (o := .cells #[.int .i64 0, .int .i64 0, .int .i64 0, .int .i64 0] 26 (0, 0)) (by (with_reducible repeat (first | refine blk_drewN ?_ _ | refine blk_drew ?_ | refine blk_alloc ?_ _)); exact BK119.out) hb); have n2_ := Aside0.mk (below_step (by repeat (first | (with_reducible first | exact HB.out | apply below_alloc | apply pw_below_drewN | apply below_drew1 | refine below_set ?_ GE119.out) | exact HB.out)) hb); clear HO0; clear BK119; clear HB; have HO0 := n0_; have BK119 := n1_; have HB := n2_; clear n0_ n1_ n2_; (try clear hb); (try clear hb2); (try clear hk); (try clear hi); have hcz10_0 : w9.cell? ⟨gb119, 0, none⟩ = some (.int .i64 0) := (blk_cell BK119.out 0).trans rfl; have hcz10_1 : w9.cell? ⟨gb119, 1, none⟩ = some (.int .i64 0) := (blk_cell BK119.out 1).trans rfl; have hcz10_2 : w9.cell? ⟨gb119, 2, none⟩ = some (.int .i64 0) := (blk_cell BK119.out 2).trans rfl; have hcz10_3 : w9.cell? ⟨gb119, 3, none⟩ = some (.int .i64 0) := (blk_cell BK119.out 3).trans rfl; have hfz10_0 := blk_frozen BK119.out 0; have hfz10_1 := blk_frozen BK119.out 1; have hfz10_2 := blk_frozen BK119.out 2; have hfz10_3 := blk_frozen BK119.out 3))
      refine bodyPost_ret (results_list (rs := [.tmp 4, .cell 5 26, .tmp 6]) rfl (by simp) (.tmp (.cell gb119 26 #[.int .i64 0, .int .i64 0, .int .i64 0, .int .i64 0] (0, 0) _ rfl (by (with_reducible repeat (first | refine blk_drewN ?_ _ | refine blk_drew ?_ | refine blk_alloc ?_ _)); refine blk_put (cs := #[.int .i64 0, .int .i64 0, .int .i64 0, .int .i64 0]) ?_ 3 _ rfl; (with_reducible repeat (first | refine blk_drewN ?_ _ | refine blk_drew ?_ | refine blk_alloc ?_ _)); refine blk_put (cs := #[.int .i64 0, .int .i64 0, .int .i64 0, .int .i64 0]) ?_ 2 _ rfl; (with_reducible repeat (first | refine blk_drewN ?_ _ | refine blk_drew ?_ | refine blk_alloc ?_ _)); refine blk_put (cs := #[.int .i64 0, .int .i64 0, .int .i64 0, .int .i64 0]) ?_ 1 _ rfl; (with_reducible repeat (first | refine blk_drewN ?_ _ | refine blk_drew ?_ | refine blk_alloc ?_ _)); refine blk_put (cs := #[.int .i64 0, .int .i64 0, .int .i64 0, .int .i64 0]) ?_ 0 _ rfl; (with_reducible repeat (first | refine blk_drewN ?_ _ | refine blk_drew ?_ | refine blk_alloc ?_ _)); exact BK119.out) Try.underlying26 rfl (by kernel_rfl) (.tmp .nil)))) rfl ?_
      exact ⟨_, by first | rfl | (simp [errW_none, errW_some] <;> rfl) | (simp [*, errW_none, errW_some] <;> rfl), by (with_reducible repeat (first | apply Kd.V_alloc | apply Kd.V_drewN | apply Kd.V_drew)); exact Kd.V_mono (Kd.V_far (p := ⟨gb119, 3, none⟩) (Kd.V_far (p := ⟨gb119, 2, none⟩) (Kd.V_far (p := ⟨gb119, 1, none⟩) (Kd.V_far (p := ⟨gb119, 0, none⟩) (Kd.V_mono HO0.out (fun k_ hk => (⟨hk, hk.2⟩ : _ ∧ k_ ≠ gb119))) (fun _ hk => hk.2) (.int .i64 0)) (fun _ hk => hk.2) (.int .i64 0)) (fun _ hk => hk.2) (.int .i64 0)) (fun _ hk => hk.2) (.int .i64 0)) (fun _ hk => hk.1.1), by repeat (first | (with_reducible first | exact HB.out | apply below_alloc | apply pw_below_drewN | apply below_drew1 | refine below_set ?_ GE119.out) | exact HB.out)⟩
    · rw [if_neg c6] at H
      have c6b0 : decide (t120 < 0) = false := decide_eq_false c6
      clear c6
      replace H := Option.bind_eq_some_iff.mp H
      obtain ⟨t122, A110, H⟩ := H
      replace H : ((swap_Offer_18.f t122 t120 (wrap64 (t120 + 1))).bind fun t125 => (if 0 ≤ t120 then (if t120 < (l0.length : Int) then (some (t125, (rd_T26 l0 t120).f0, (rd_T26 l0 t120).f1, (rd_T26 l0 t120).f2, (rd_T26 l0 t120).f3, 0)) else (none)) else (none))) = some (r1, r2, r3, r4, r5, r6) := H
      have A11 := Aside0.mk A110
      clear A110
      replace H := Option.bind_eq_some_iff.mp H
      obtain ⟨t125, A120, H⟩ := H
      replace H : (if 0 ≤ t120 then (if t120 < (l0.length : Int) then (some (t125, (rd_T26 l0 t120).f0, (rd_T26 l0 t120).f1, (rd_T26 l0 t120).f2, (rd_T26 l0 t120).f3, 0)) else (none)) else (none)) = some (r1, r2, r3, r4, r5, r6) := H
      have A12 := Aside0.mk A120
      clear A120
      by_cases c13 : 0 ≤ t120
      · rw [if_pos c13] at H
        have c13b0 : decide (0 ≤ t120) = true := decide_eq_true c13
        clear c13
        by_cases c14 : t120 < (l0.length : Int)
        · rw [if_pos c14] at H
          have c14b0 : decide (t120 < (l0.length : Int)) = true := decide_eq_true c14
          clear c14
          simp only [Option.some.injEq, Prod.mk.injEq] at H
          obtain ⟨rfl, rfl, rfl, rfl, rfl, rfl⟩ := H
          go_enter Try.func9, Try.ntmps9
          try go_wp2_with (first | ((with_reducible refine gate_dst (N := 5) rfl ?_); refine box_event ?hg (N := 5) ?hd (cs := #[.int .i64 0, .int .i64 0, .int .i64 0, .int .i64 0]) (t := 26) ?hr ?_; (case hd => rfl); (case hg => rfl); (case hr => first | (go_simp; done) | (go_simp; rfl)); intro gb119 hg w15 hbox hb; have n0_ := Aside0.mk (Kd.V_below (Kd.V_elderB (by (with_reducible repeat (first | apply Kd.V_alloc | apply Kd.V_drewN | apply Kd.V_drew)); exact HO0.out) gb119 (Nat.le_of_eq hg.symm)) hb); have n1_ := Aside0.mk (below_step (by repeat (first | (with_reducible first | exact HB.out | apply below_alloc | apply pw_below_drewN | apply below_drew1) | exact HB.out)) hb); have n2_ := Aside0.mk (hbox); have n3_ := Aside0.mk ((by rw [hg]; exact (below_size (by repeat (first | (with_reducible first | exact HB.out | apply below_alloc | apply pw_below_drewN | apply below_drew1) | exact HB.out))) : w.heap.size ≤ gb119)); have n4_ := Aside0.mk ((by rw [hg]; exact (below_size (by repeat (first | (with_reducible first | exact HB.out | apply below_alloc | apply pw_below_drewN | apply below_drew1) | exact HB.out))) : w.heap.size ≤ gb119)); clear HO0; clear HB; have HO0 := n0_; have HB := n1_; have BK119 := n2_; have GW119 := n3_; have GE119 := n4_; clear n0_ n1_ n2_ n3_ n4_; clear hb hbox hg) | ((with_reducible refine gate_callee (f := 17) rfl ?_); refine goesL_ (some 10) rfl rfl Try.func17 (by kernel_rfl) rfl #[.slice A0 l0.length c0, .int .i64 a1] rfl (by (try simp only [List.map_toArray, List.map_cons, List.map_nil]); first | done | rfl | (simp only [List.length_drop, List.length_take]; rfl)) ?_; (with_reducible refine (swap_place.calls _ _ l0 a1 t120 _ ?side1 ?side2 A3.out).mono ?_); (case side1 => repeat (first | exact (Kd.V_reads' HO0.out).2.2 | (with_reducible refine Kd.C_alloc ?_ _) | (with_reducible refine Kd.C_drewN ?_ _) | (with_reducible refine Kd.C_drew ?_))); (case side2 => exact (Kd.V_reads' HO0.out).2.1); rintro e w16 ⟨rfl, hb⟩; refine ⟨_, rfl, ?_⟩; have n0_ := Aside0.mk (Kd.V_below (by (with_reducible repeat (first | apply Kd.V_alloc | apply Kd.V_drewN | apply Kd.V_drew)); exact HO0.out) hb); have n1_ := Aside0.mk (blk_below (g := gb119) (o := .cells #[.int .i64 0, .int .i64 0, .int .i64 0, .int .i64 0] 26 (0, 0)) (by (with_reducible repeat (first | refine blk_drewN ?_ _ | refine blk_drew ?_ | refine blk_alloc ?_ _)); exact BK119.out) hb); have n2_ := Aside0.mk (below_step (by repeat (first | (with_reducible first | exact HB.out | apply below_alloc | apply pw_below_drewN | apply below_drew1 | refine below_set ?_ GE119.out) | exact HB.out)) hb); clear HO0; clear BK119; clear HB; have HO0 := n0_; have BK119 := n1_; have HB := n2_; clear n0_ n1_ n2_; (try clear hb); (try clear hb2); (try clear hk); (try clear hi)) | ((with_reducible refine gate_callee (f := 14) rfl ?_); refine goesL_ (some 13) rfl rfl Try.func14 (by kernel_rfl) rfl #[.slice A0 l0.length c0] rfl (by (try simp only [List.map_toArray, List.map_cons, List.map_nil]); first | done | rfl | (simp only [List.length_drop, List.length_take]; rfl)) ?_; (with_reducible refine (swap_Right.calls k _ _ l0 true _ ?side1 ?side2 A4.out).mono ?_); (case side1 => repeat (first | exact (Kd.V_reads' HO0.out).2.2 | (with_reducible refine Kd.C_alloc ?_ _) | (with_reducible refine Kd.C_drewN ?_ _) | (with_reducible refine Kd.C_drew ?_))); (case side2 => exact (Kd.V_reads' HO0.out).2.1); rintro e w17 ⟨rfl, hb⟩; refine ⟨_, rfl, ?_⟩; have n0_ := Aside0.mk (Kd.V_below (by (with_reducible repeat (first | apply Kd.V_alloc | apply Kd.V_drewN | apply Kd.V_drew)); exact HO0.out) hb); have n1_ := Aside0.mk (blk_below (g := gb119) (o := .cells #[.int .i64 0, .int .i64 0, .int .i64 0, .int .i64 0] 26 (0, 0)) (by (with_reducible repeat (first | refine blk_drewN ?_ _ | refine blk_drew ?_ | refine blk_alloc ?_ _)); exact BK119.out) hb); have n2_ := Aside0.mk (below_step (by repeat (first | (with_reducible first | exact HB.out | apply below_alloc | apply pw_below_drewN | apply below_drew1 | refine below_set ?_ GE119.out) | exact HB.out)) hb); clear HO0; clear BK119; clear HB; have HO0 := n0_; have BK119 := n1_; have HB := n2_; clear n0_ n1_ n2_; (try clear hb); (try clear hb2); (try clear hk); (try clear hi)))
          have n0_ := Aside0.mk (Kd.V_drew HO0.out)
          have n1_ := Aside0.mk (blk_drew BK119.out)
          have n2_ := Aside0.mk (below_drew1 HB.out)
          clear HO0
          clear BK119
          clear HB
          have HO0 := n0_
          have BK119 := n1_
          have HB := n2_
          clear n0_ n1_ n2_
          have p128 : 0 ≤ (t120 : Int) := of_decide_eq_true (by first | (with_reducible assumption) | assumption)
          have q128 : t120 < (l0.length : Int) := of_decide_eq_true (by first | (with_reducible assumption) | assumption)
          have NV128 := Aside0.mk (show 0 < l0.length from by omega)
          obtain ⟨ad128, e128, hx128_0, hx128_1, hx128_2, hx128_3⟩ := at_T26 (Kd.V_reads' HO0.out).2.2 t120 p128 q128
          cases e128
          replace p128 := eq_true p128
          replace q128 := eq_true q128
          refine start_ (n := 13) (S := fun w' => w'.cell? (ad128.add ((t120).toNat * 4)) = some (.int .i64 ((rd_T26 l0 t120).f0)) ∧ w'.cell? ⟨(ad128.add ((t120).toNat * 4)).block, (ad128.add ((t120).toNat * 4)).off + 1, none⟩ = some (.int .i64 ((rd_T26 l0 t120).f1)) ∧ w'.cell? ⟨(ad128.add ((t120).toNat * 4)).block, (ad128.add ((t120).toNat * 4)).off + 2, none⟩ = some (.int .i64 ((rd_T26 l0 t120).f2)) ∧ w'.cell? ⟨(ad128.add ((t120).toNat * 4)).block, (ad128.add ((t120).toNat * 4)).off + 3, none⟩ = some (.int .i64 ((rd_T26 l0 t120).f3))) (ds := []) #[false, false, false, false, false, false, false, false, false, false, false, false, false] (by kernel_rfl) rfl rfl ⟨hx128_0, hx128_1, hx128_2, hx128_3⟩ (fun hHeld => ?_); refine with_tabW swap_Leave.tab6 swap_Leave.bits6 (fun HT_ HW_ => ?_)
          generalize w17.drew = w18 at HO0 BK119 HB hx128_0 hx128_1 hx128_2 hx128_3 hHeld ⊢
          refine pure_ (i := 0) (N := some 22) (v := ?_) (a' := ?_) #[true, false, false, false, false, false, false, false, false, false, false, false, false] rfl rfl (any_of HT_.out (by kernel_rfl)) (fun _ _ _ h => h) (Or.inl ⟨by rfl, ?_⟩) ?_ ?_
          rotate_left
          · intro w'
            go_simp
            with_reducible rfl
          rotate_left
          · simp only [Act.put, List.setIfInBounds_toArray, List.set_cons_zero, List.set_cons_succ, i64_w, i32_w]
            rfl
          refine pure_ (i := 2) (N := some 24) (v := ?_) (a' := ?_) #[true, false, true, false, false, false, false, false, false, false, false, false, false] rfl rfl (any_of HT_.out (by kernel_rfl)) (fun _ _ _ h => h) (Or.inl ⟨by rfl, ?_⟩) ?_ ?_
          rotate_left
          · intro w'
            go_simp
            with_reducible rfl
          rotate_left
          · simp only [Act.put, List.setIfInBounds_toArray, List.set_cons_zero, List.set_cons_succ, i64_w, i32_w]
            rfl
          refine pure_ (i := 3) (N := some 25) (v := ?_) (a' := ?_) #[true, false, true, true, false, false, false, false, false, false, false, false, false] rfl rfl (any_of HT_.out (by kernel_rfl)) (fun _ _ _ h => h) (Or.inl ⟨by rfl, ?_⟩) ?_ ?_
          rotate_left
          · intro w'
            go_simp
            with_reducible rfl
          rotate_left
          · simp only [Act.put, List.setIfInBounds_toArray, List.set_cons_zero, List.set_cons_succ, i64_w, i32_w]
            rfl
          refine pure_ (i := 4) (N := some 26) (v := ?_) (a' := ?_) #[true, false, true, true, true, false, false, false, false, false, false, false, false] rfl rfl (any_of HT_.out (by kernel_rfl)) (fun _ _ _ h => h) (Or.inl ⟨by rfl, ?_⟩) ?_ ?_
          rotate_left
          · intro w'
            go_simp
            with_reducible rfl
          rotate_left
          · simp only [Act.put, List.setIfInBounds_toArray, List.set_cons_zero, List.set_cons_succ, i64_w, i32_w]
            rfl
          refine pure_ (i := 6) (N := some 28) (v := ?_) (a' := ?_) #[true, false, true, true, true, false, true, false, false, false, false, false, false] rfl rfl (any_of HT_.out (by kernel_rfl)) (fun _ _ _ h => h) (Or.inl ⟨by rfl, ?_⟩) ?_ ?_
          rotate_left
          · intro w'
            go_simp
            with_reducible rfl
          rotate_left
          · simp only [Act.put, List.setIfInBounds_toArray, List.set_cons_zero, List.set_cons_succ, i64_w, i32_w]
            rfl
          refine pure_ (i := 7) (N := some 29) (v := ?_) (a' := ?_) #[true, false, true, true, true, false, true, true, false, false, false, false, false] rfl rfl (any_of HT_.out (by kernel_rfl)) (fun _ _ _ h => h) (Or.inl ⟨by rfl, ?_⟩) ?_ ?_
          rotate_left
          · intro w'
            go_simp
            with_reducible rfl
          rotate_left
          · simp only [Act.put, List.setIfInBounds_toArray, List.set_cons_zero, List.set_cons_succ, i64_w, i32_w]
            rfl
          refine pure_ (i := 8) (N := some 30) (v := ?_) (a' := ?_) #[true, false, true, true, true, false, true, true, true, false, false, false, false] rfl rfl (any_of HT_.out (by kernel_rfl)) (fun _ _ _ h => h) (Or.inl ⟨by rfl, ?_⟩) ?_ ?_
          rotate_left
          · intro w'
            go_simp
            with_reducible rfl
          rotate_left
          · simp only [Act.put, List.setIfInBounds_toArray, List.set_cons_zero, List.set_cons_succ, i64_w, i32_w]
            rfl
          refine take_ (i := 9) (N := some 31) (v := ?_) (a' := ?_) #[true, false, true, true, true, false, true, true, true, true, false, false, false] rfl rfl (take_ofW HT_.out HW_.out (by kernel_rfl)) (fun _ _ _ h => h) (Or.inl ⟨by rfl, ?_⟩) hHeld ?_ ?_
          rotate_left
          · rintro w' ⟨s0, s1, s2, s3⟩
            go_simp
            with_reducible rfl
          rotate_left
          · simp only [Act.put, List.setIfInBounds_toArray, List.set_cons_zero, List.set_cons_succ, i64_w, i32_w]
            rfl
          refine one_ (i := 1) (N := some 23) #[true, true, true, true, true, false, true, true, true, true, false, false, false] rfl rfl (one_of HT_.out (by kernel_rfl)) (by decide) (fun K hK => ?_)
          refine goes_ Try.func19 (by kernel_rfl) rfl #[.slice (some ad128) l0.length c0] (by rfl) rfl rfl (by (try simp only [List.map_toArray, List.map_cons, List.map_nil]); first | done | rfl | (simp only [List.length_drop, List.length_take]; rfl)) ?_
          with_reducible refine (swap_Offer_19.calls _ _ l0 t122 _ ?side1 ?side2 A11.out).mono ?_
          (case side1 => repeat (first | exact (Kd.V_reads' HO0.out).2.2 | (with_reducible refine Kd.C_alloc ?_ _) | (with_reducible refine Kd.C_drewN ?_ _) | (with_reducible refine Kd.C_drew ?_)))
          (case side2 => exact (Kd.V_reads' HO0.out).2.1)
          rintro e w19 ⟨v123, rfl, ho0, hb⟩
          have HS0_ := (hb.cell (World.block_lt_of_cell? _ _ (hHeld.1))).trans (hHeld.1)
          have HS1_ := (hb.cell (World.block_lt_of_cell? _ _ (hHeld.2.1))).trans (hHeld.2.1)
          have HS2_ := (hb.cell (World.block_lt_of_cell? _ _ (hHeld.2.2.1))).trans (hHeld.2.2.1)
          have HS3_ := (hb.cell (World.block_lt_of_cell? _ _ (hHeld.2.2.2))).trans (hHeld.2.2.2)
          refine ⟨_, rfl, ?_⟩
          have n0_ := Aside0.mk (Kd.V_elder' (by (with_reducible repeat (first | apply Kd.V_alloc | apply Kd.V_drewN | apply Kd.V_drew)); exact HO0.out) (Kd.R_base ho0) hb)
          have n1_ := Aside0.mk (Kd.R_lower (Kd.R_newB (Kd.R_newM (M := fun k_ => (w.heap.size ≤ k_)) ho0 (below_size (by repeat (first | (with_reducible first | exact HB.out | apply below_alloc | apply pw_below_drewN | apply below_drew1 | refine below_set ?_ GE119.out) | exact HB.out))) (fun k_ h_ => h_)) (g := gb119) (o := .cells #[.int .i64 0, .int .i64 0, .int .i64 0, .int .i64 0] 26 (0, 0)) (by (with_reducible repeat (first | refine blk_drewN ?_ _ | refine blk_drew ?_ | refine blk_alloc ?_ _)); exact BK119.out)) (below_size (by repeat (first | (with_reducible first | exact HB.out | apply below_alloc | apply pw_below_drewN | apply below_drew1 | refine below_set ?_ GE119.out) | exact HB.out))))
          have n2_ := Aside0.mk (blk_below (g := gb119) (o := .cells #[.int .i64 0, .int .i64 0, .int .i64 0, .int .i64 0] 26 (0, 0)) (by (with_reducible repeat (first | refine blk_drewN ?_ _ | refine blk_drew ?_ | refine blk_alloc ?_ _)); exact BK119.out) hb)
          have n3_ := Aside0.mk (below_step (by repeat (first | (with_reducible first | exact HB.out | apply below_alloc | apply pw_below_drewN | apply below_drew1 | refine below_set ?_ GE119.out) | exact HB.out)) hb)
          clear HO0
          clear BK119
          clear HB
          have HO0 := n0_
          have HO124 := n1_
          have BK119 := n2_
          have HB := n3_
          clear n0_ n1_ n2_ n3_
          (try clear hb)
          (try clear hb2)
          (try clear hk)
          (try clear hi)
          (try clear ho0)
          obtain ⟨Ao20, co20, eo20⟩ := Kd.R_slice HO124.out
          (first | subst eo20 | (injection eo20 with f1_ f2_ f3_; have f4_ := f1_.symm; have f5_ := f3_.symm; clear f1_ f2_ f3_; subst f4_; subst f5_))
          refine hK.out _ _ ⟨HS0_, HS1_, HS2_, HS3_⟩ (fun hHeld => ?_)
          clear hK K
          refine norm_ (a' := ?_) ?_ ?_
          rotate_left
          · show Act.put _ (some 23) _ = _
            simp only [Act.put, List.setIfInBounds_toArray, List.set_cons_zero, List.set_cons_succ, i64_w, i32_w]
            rfl
          refine one_ (i := 5) (N := some 27) #[true, true, true, true, true, true, true, true, true, true, false, false, false] rfl rfl (one_of HT_.out (by kernel_rfl)) (by decide) (fun K hK => ?_)
          refine goes_ Try.func18 (by kernel_rfl) rfl #[.slice Ao20 t122.length co20, .int .i64 t120, .int .i64 (wrap64 (t120 + 1))] (by rfl) rfl rfl (by (try simp only [List.map_toArray, List.map_cons, List.map_nil]); first | done | rfl | (simp only [List.length_drop, List.length_take]; rfl)) ?_
          with_reducible refine (swap_Offer_18.calls (fun k_ => some k_ = (.slice Ao20 t122.length co20 : Value).ownBlock) (.slice Ao20 t122.length co20) t122 t120 (wrap64 (t120 + 1)) t125 w _ ?side1 ?side2 A12.out).mono ?_
          (case side1 => repeat (first | (with_reducible first | exact HB.out | apply below_alloc | apply pw_below_drewN | apply below_drew1 | refine below_set ?_ GE119.out) | exact HB.out))
          (case side2 => exact Kd.R_tight rfl HO124.out)
          rintro e w21 ⟨v126, rfl, ho0, hb, hkp⟩
          have HS0_ := cell_kept (hHeld.1) hkp (by first | (rw [add_block]; exact (fun hs_ => ((Go.Proofs.YtpmcoehggajmcaaG.V_ok (HO0.out) NV128.out (by decide)).2) hs_)) | (show ¬ _; simp only [add_block]; exact (fun hs_ => ((Go.Proofs.YtpmcoehggajmcaaG.V_ok (HO0.out) NV128.out (by decide)).2) hs_)) | exact (fun hs_ => ((Go.Proofs.YtpmcoehggajmcaaG.V_ok (HO0.out) NV128.out (by decide)).2) hs_))
          have HS1_ := cell_kept (hHeld.2.1) hkp (by first | (rw [add_block]; exact (fun hs_ => ((Go.Proofs.YtpmcoehggajmcaaG.V_ok (HO0.out) NV128.out (by decide)).2) hs_)) | (show ¬ _; simp only [add_block]; exact (fun hs_ => ((Go.Proofs.YtpmcoehggajmcaaG.V_ok (HO0.out) NV128.out (by decide)).2) hs_)) | exact (fun hs_ => ((Go.Proofs.YtpmcoehggajmcaaG.V_ok (HO0.out) NV128.out (by decide)).2) hs_))
          have HS2_ := cell_kept (hHeld.2.2.1) hkp (by first | (rw [add_block]; exact (fun hs_ => ((Go.Proofs.YtpmcoehggajmcaaG.V_ok (HO0.out) NV128.out (by decide)).2) hs_)) | (show ¬ _; simp only [add_block]; exact (fun hs_ => ((Go.Proofs.YtpmcoehggajmcaaG.V_ok (HO0.out) NV128.out (by decide)).2) hs_)) | exact (fun hs_ => ((Go.Proofs.YtpmcoehggajmcaaG.V_ok (HO0.out) NV128.out (by decide)).2) hs_))
          have HS3_ := cell_kept (hHeld.2.2.2) hkp (by first | (rw [add_block]; exact (fun hs_ => ((Go.Proofs.YtpmcoehggajmcaaG.V_ok (HO0.out) NV128.out (by decide)).2) hs_)) | (show ¬ _; simp only [add_block]; exact (fun hs_ => ((Go.Proofs.YtpmcoehggajmcaaG.V_ok (HO0.out) NV128.out (by decide)).2) hs_)) | exact (fun hs_ => ((Go.Proofs.YtpmcoehggajmcaaG.V_ok (HO0.out) NV128.out (by decide)).2) hs_))
          refine ⟨_, rfl, ?_⟩
          have n0_ := Aside0.mk (Kd.V_mono (ok' := fun k_ => (P0_ k_ ∨ w.heap.size ≤ k_) ∧ k_ ≠ gb119 ∧ some k_ ≠ (v126 : Value).ownBlock) (Kd.V_keptB (HO0.out) hkp (fun k_ hk_ hs_ => (hk_.2) hs_)) (fun k_ hk_ => ⟨hk_.1.1.1, hk_.1.1.2, fun e_ => Or.elim (ho0.1 k_ e_.symm) (fun hs_ => hk_.2.1 hs_) (fun hn_ => Nat.not_le.2 hk_.2.2 hn_)⟩))
          have n1_ := Aside0.mk (blk_kept (by (with_reducible repeat (first | refine blk_drewN ?_ _ | refine blk_drew ?_ | refine blk_alloc ?_ _)); exact BK119.out) hkp (fun hs_ => (fun e_ => (Kd.R_away HO124.out (fun _ hk => hk.2)) e_) hs_))
          have n2_ := Aside0.mk (Kd.R_mono (ok' := fun k_ => (w.heap.size ≤ k_) ∧ k_ ≠ gb119) ho0 (fun k_ hk_ => ⟨Or.elim hk_ (fun hs_ => (HO124.out.1 k_ (hs_).symm).1.1) (fun hn_ => (Nat.le_trans (below_size (by repeat (first | (with_reducible first | exact HB.out | apply below_alloc | apply pw_below_drewN | apply below_drew1 | refine below_set ?_ GE119.out) | exact HB.out))) hn_)), Or.elim hk_ (fun hs_ => fun e_ => (Kd.R_away HO124.out (fun _ hk => hk.2)) (by rw [← e_]; exact hs_)) (fun hn_ => (Kd.freshB (g := gb119) (o := .cells #[.int .i64 0, .int .i64 0, .int .i64 0, .int .i64 0] 26 (0, 0)) (by (with_reducible repeat (first | refine blk_drewN ?_ _ | refine blk_drew ?_ | refine blk_alloc ?_ _)); exact BK119.out) k_ hn_))⟩))
          have n3_ := Aside0.mk (hb)
          clear HO0
          clear BK119
          clear HB
          clear HO124
          have HO0 := n0_
          have BK119 := n1_
          have HO127 := n2_
          have HB := n3_
          clear n0_ n1_ n2_ n3_
          (try clear hb)
          (try clear hkp)
          (try clear ho0)
          refine hK.out _ _ ⟨HS0_, HS1_, HS2_, HS3_⟩ (fun hHeld => ?_)
          clear hK K
          refine norm_ (a' := ?_) ?_ ?_
          rotate_left
          · show Act.put _ (some 27) _ = _
            simp only [Act.put, List.setIfInBounds_toArray, List.set_cons_zero, List.set_cons_succ, i64_w, i32_w]
            rfl
          refine pure_ (i := 10) (N := some 4) (v := ?_) (a' := ?_) #[true, true, true, true, true, true, true, true, true, true, true, false, false] rfl rfl (any_of HT_.out (by kernel_rfl)) (fun _ _ _ h => h) (Or.inl ⟨by rfl, ?_⟩) ?_ ?_
          rotate_left
          · intro w'
            go_simp
            with_reducible rfl
          rotate_left
          · simp only [Act.put, List.setIfInBounds_toArray, List.set_cons_zero, List.set_cons_succ, i64_w, i32_w]
            rfl
          refine one_ (i := 11) (N := none) #[true, true, true, true, true, true, true, true, true, true, true, true, false] rfl rfl (one_of HT_.out (by kernel_rfl)) (by decide) (fun K hK => ?_)
          have hs22 : w21.cell? ⟨gb119, 0, none⟩ = some (.int .i64 0) := (blk_cell BK119.out 0).trans rfl
          have hfs22 := blk_frozen BK119.out 0
          have hs23 : w21.cell? ⟨gb119, 1, none⟩ = some (.int .i64 0) := (blk_cell BK119.out 1).trans rfl
          have hfs23 := blk_frozen BK119.out 1
          have hs24 : w21.cell? ⟨gb119, 2, none⟩ = some (.int .i64 0) := (blk_cell BK119.out 2).trans rfl
          have hfs24 := blk_frozen BK119.out 2
          have hs25 : w21.cell? ⟨gb119, 3, none⟩ = some (.int .i64 0) := (blk_cell BK119.out 3).trans rfl
          have hfs25 := blk_frozen BK119.out 3
          refine skip_ (w1 := ?_) (by rfl) rfl ?_ ?_
          rotate_left
          · go_simp
            rfl
          refine hK.out _ _ ⟨((cell_far (p := ⟨gb119, _, none⟩) (by first | exact Kd.own_blk (Go.Proofs.YtpmcoehggajmcaaG.V_away HO0.out NV128.out (by decide) (fun _ hk => hk.2.1)) | (rw [add_block]; exact Kd.own_blk (Go.Proofs.YtpmcoehggajmcaaG.V_away HO0.out NV128.out (by decide) (fun _ hk => hk.2.1))) | (show (Addr.add _ _).block ≠ _; rw [add_block]; exact Kd.own_blk (Go.Proofs.YtpmcoehggajmcaaG.V_away HO0.out NV128.out (by decide) (fun _ hk => hk.2.1))) | (dsimp only; exact Kd.own_blk (Go.Proofs.YtpmcoehggajmcaaG.V_away HO0.out NV128.out (by decide) (fun _ hk => hk.2.1)))) _).trans (((cell_far (p := ⟨gb119, _, none⟩) (by first | exact Kd.own_blk (Go.Proofs.YtpmcoehggajmcaaG.V_away HO0.out NV128.out (by decide) (fun _ hk => hk.2.1)) | (rw [add_block]; exact Kd.own_blk (Go.Proofs.YtpmcoehggajmcaaG.V_away HO0.out NV128.out (by decide) (fun _ hk => hk.2.1))) | (show (Addr.add _ _).block ≠ _; rw [add_block]; exact Kd.own_blk (Go.Proofs.YtpmcoehggajmcaaG.V_away HO0.out NV128.out (by decide) (fun _ hk => hk.2.1))) | (dsimp only; exact Kd.own_blk (Go.Proofs.YtpmcoehggajmcaaG.V_away HO0.out NV128.out (by decide) (fun _ hk => hk.2.1)))) _).trans (((cell_far (p := ⟨gb119, _, none⟩) (by first | exact Kd.own_blk (Go.Proofs.YtpmcoehggajmcaaG.V_away HO0.out NV128.out (by decide) (fun _ hk => hk.2.1)) | (rw [add_block]; exact Kd.own_blk (Go.Proofs.YtpmcoehggajmcaaG.V_away HO0.out NV128.out (by decide) (fun _ hk => hk.2.1))) | (show (Addr.add _ _).block ≠ _; rw [add_block]; exact Kd.own_blk (Go.Proofs.YtpmcoehggajmcaaG.V_away HO0.out NV128.out (by decide) (fun _ hk => hk.2.1))) | (dsimp only; exact Kd.own_blk (Go.Proofs.YtpmcoehggajmcaaG.V_away HO0.out NV128.out (by decide) (fun _ hk => hk.2.1)))) _).trans (((cell_far (p := ⟨gb119, _, none⟩) (by first | exact Kd.own_blk (Go.Proofs.YtpmcoehggajmcaaG.V_away HO0.out NV128.out (by decide) (fun _ hk => hk.2.1)) | (rw [add_block]; exact Kd.own_blk (Go.Proofs.YtpmcoehggajmcaaG.V_away HO0.out NV128.out (by decide) (fun _ hk => hk.2.1))) | (show (Addr.add _ _).block ≠ _; rw [add_block]; exact Kd.own_blk (Go.Proofs.YtpmcoehggajmcaaG.V_away HO0.out NV128.out (by decide) (fun _ hk => hk.2.1))) | (dsimp only; exact Kd.own_blk (Go.Proofs.YtpmcoehggajmcaaG.V_away HO0.out NV128.out (by decide) (fun _ hk => hk.2.1)))) _).trans (hHeld.1)))))))), ((cell_far (p := ⟨gb119, _, none⟩) (by first | exact Kd.own_blk (Go.Proofs.YtpmcoehggajmcaaG.V_away HO0.out NV128.out (by decide) (fun _ hk => hk.2.1)) | (rw [add_block]; exact Kd.own_blk (Go.Proofs.YtpmcoehggajmcaaG.V_away HO0.out NV128.out (by decide) (fun _ hk => hk.2.1))) | (show (Addr.add _ _).block ≠ _; rw [add_block]; exact Kd.own_blk (Go.Proofs.YtpmcoehggajmcaaG.V_away HO0.out NV128.out (by decide) (fun _ hk => hk.2.1))) | (dsimp only; exact Kd.own_blk (Go.Proofs.YtpmcoehggajmcaaG.V_away HO0.out NV128.out (by decide) (fun _ hk => hk.2.1)))) _).trans (((cell_far (p := ⟨gb119, _, none⟩) (by first | exact Kd.own_blk (Go.Proofs.YtpmcoehggajmcaaG.V_away HO0.out NV128.out (by decide) (fun _ hk => hk.2.1)) | (rw [add_block]; exact Kd.own_blk (Go.Proofs.YtpmcoehggajmcaaG.V_away HO0.out NV128.out (by decide) (fun _ hk => hk.2.1))) | (show (Addr.add _ _).block ≠ _; rw [add_block]; exact Kd.own_blk (Go.Proofs.YtpmcoehggajmcaaG.V_away HO0.out NV128.out (by decide) (fun _ hk => hk.2.1))) | (dsimp only; exact Kd.own_blk (Go.Proofs.YtpmcoehggajmcaaG.V_away HO0.out NV128.out (by decide) (fun _ hk => hk.2.1)))) _).trans (((cell_far (p := ⟨gb119, _, none⟩) (by first | exact Kd.own_blk (Go.Proofs.YtpmcoehggajmcaaG.V_away HO0.out NV128.out (by decide) (fun _ hk => hk.2.1)) | (rw [add_block]; exact Kd.own_blk (Go.Proofs.YtpmcoehggajmcaaG.V_away HO0.out NV128.out (by decide) (fun _ hk => hk.2.1))) | (show (Addr.add _ _).block ≠ _; rw [add_block]; exact Kd.own_blk (Go.Proofs.YtpmcoehggajmcaaG.V_away HO0.out NV128.out (by decide) (fun _ hk => hk.2.1))) | (dsimp only; exact Kd.own_blk (Go.Proofs.YtpmcoehggajmcaaG.V_away HO0.out NV128.out (by decide) (fun _ hk => hk.2.1)))) _).trans (((cell_far (p := ⟨gb119, _, none⟩) (by first | exact Kd.own_blk (Go.Proofs.YtpmcoehggajmcaaG.V_away HO0.out NV128.out (by decide) (fun _ hk => hk.2.1)) | (rw [add_block]; exact Kd.own_blk (Go.Proofs.YtpmcoehggajmcaaG.V_away HO0.out NV128.out (by decide) (fun _ hk => hk.2.1))) | (show (Addr.add _ _).block ≠ _; rw [add_block]; exact Kd.own_blk (Go.Proofs.YtpmcoehggajmcaaG.V_away HO0.out NV128.out (by decide) (fun _ hk => hk.2.1))) | (dsimp only; exact Kd.own_blk (Go.Proofs.YtpmcoehggajmcaaG.V_away HO0.out NV128.out (by decide) (fun _ hk => hk.2.1)))) _).trans (hHeld.2.1)))))))), ((cell_far (p := ⟨gb119, _, none⟩) (by first | exact Kd.own_blk (Go.Proofs.YtpmcoehggajmcaaG.V_away HO0.out NV128.out (by decide) (fun _ hk => hk.2.1)) | (rw [add_block]; exact Kd.own_blk (Go.Proofs.YtpmcoehggajmcaaG.V_away HO0.out NV128.out (by decide) (fun _ hk => hk.2.1))) | (show (Addr.add _ _).block ≠ _; rw [add_block]; exact Kd.own_blk (Go.Proofs.YtpmcoehggajmcaaG.V_away HO0.out NV128.out (by decide) (fun _ hk => hk.2.1))) | (dsimp only; exact Kd.own_blk (Go.Proofs.YtpmcoehggajmcaaG.V_away HO0.out NV128.out (by decide) (fun _ hk => hk.2.1)))) _).trans (((cell_far (p := ⟨gb119, _, none⟩) (by first | exact Kd.own_blk (Go.Proofs.YtpmcoehggajmcaaG.V_away HO0.out NV128.out (by decide) (fun _ hk => hk.2.1)) | (rw [add_block]; exact Kd.own_blk (Go.Proofs.YtpmcoehggajmcaaG.V_away HO0.out NV128.out (by decide) (fun _ hk => hk.2.1))) | (show (Addr.add _ _).block ≠ _; rw [add_block]; exact Kd.own_blk (Go.Proofs.YtpmcoehggajmcaaG.V_away HO0.out NV128.out (by decide) (fun _ hk => hk.2.1))) | (dsimp only; exact Kd.own_blk (Go.Proofs.YtpmcoehggajmcaaG.V_away HO0.out NV128.out (by decide) (fun _ hk => hk.2.1)))) _).trans (((cell_far (p := ⟨gb119, _, none⟩) (by first | exact Kd.own_blk (Go.Proofs.YtpmcoehggajmcaaG.V_away HO0.out NV128.out (by decide) (fun _ hk => hk.2.1)) | (rw [add_block]; exact Kd.own_blk (Go.Proofs.YtpmcoehggajmcaaG.V_away HO0.out NV128.out (by decide) (fun _ hk => hk.2.1))) | (show (Addr.add _ _).block ≠ _; rw [add_block]; exact Kd.own_blk (Go.Proofs.YtpmcoehggajmcaaG.V_away HO0.out NV128.out (by decide) (fun _ hk => hk.2.1))) | (dsimp only; exact Kd.own_blk (Go.Proofs.YtpmcoehggajmcaaG.V_away HO0.out NV128.out (by decide) (fun _ hk => hk.2.1)))) _).trans (((cell_far (p := ⟨gb119, _, none⟩) (by first | exact Kd.own_blk (Go.Proofs.YtpmcoehggajmcaaG.V_away HO0.out NV128.out (by decide) (fun _ hk => hk.2.1)) | (rw [add_block]; exact Kd.own_blk (Go.Proofs.YtpmcoehggajmcaaG.V_away HO0.out NV128.out (by decide) (fun _ hk => hk.2.1))) | (show (Addr.add _ _).block ≠ _; rw [add_block]; exact Kd.own_blk (Go.Proofs.YtpmcoehggajmcaaG.V_away HO0.out NV128.out (by decide) (fun _ hk => hk.2.1))) | (dsimp only; exact Kd.own_blk (Go.Proofs.YtpmcoehggajmcaaG.V_away HO0.out NV128.out (by decide) (fun _ hk => hk.2.1)))) _).trans (hHeld.2.2.1)))))))), ((cell_far (p := ⟨gb119, _, none⟩) (by first | exact Kd.own_blk (Go.Proofs.YtpmcoehggajmcaaG.V_away HO0.out NV128.out (by decide) (fun _ hk => hk.2.1)) | (rw [add_block]; exact Kd.own_blk (Go.Proofs.YtpmcoehggajmcaaG.V_away HO0.out NV128.out (by decide) (fun _ hk => hk.2.1))) | (show (Addr.add _ _).block ≠ _; rw [add_block]; exact Kd.own_blk (Go.Proofs.YtpmcoehggajmcaaG.V_away HO0.out NV128.out (by decide) (fun _ hk => hk.2.1))) | (dsimp only; exact Kd.own_blk (Go.Proofs.YtpmcoehggajmcaaG.V_away HO0.out NV128.out (by decide) (fun _ hk => hk.2.1)))) _).trans (((cell_far (p := ⟨gb119, _, none⟩) (by first | exact Kd.own_blk (Go.Proofs.YtpmcoehggajmcaaG.V_away HO0.out NV128.out (by decide) (fun _ hk => hk.2.1)) | (rw [add_block]; exact Kd.own_blk (Go.Proofs.YtpmcoehggajmcaaG.V_away HO0.out NV128.out (by decide) (fun _ hk => hk.2.1))) | (show (Addr.add _ _).block ≠ _; rw [add_block]; exact Kd.own_blk (Go.Proofs.YtpmcoehggajmcaaG.V_away HO0.out NV128.out (by decide) (fun _ hk => hk.2.1))) | (dsimp only; exact Kd.own_blk (Go.Proofs.YtpmcoehggajmcaaG.V_away HO0.out NV128.out (by decide) (fun _ hk => hk.2.1)))) _).trans (((cell_far (p := ⟨gb119, _, none⟩) (by first | exact Kd.own_blk (Go.Proofs.YtpmcoehggajmcaaG.V_away HO0.out NV128.out (by decide) (fun _ hk => hk.2.1)) | (rw [add_block]; exact Kd.own_blk (Go.Proofs.YtpmcoehggajmcaaG.V_away HO0.out NV128.out (by decide) (fun _ hk => hk.2.1))) | (show (Addr.add _ _).block ≠ _; rw [add_block]; exact Kd.own_blk (Go.Proofs.YtpmcoehggajmcaaG.V_away HO0.out NV128.out (by decide) (fun _ hk => hk.2.1))) | (dsimp only; exact Kd.own_blk (Go.Proofs.YtpmcoehggajmcaaG.V_away HO0.out NV128.out (by decide) (fun _ hk => hk.2.1)))) _).trans (((cell_far (p := ⟨gb119, _, none⟩) (by first | exact Kd.own_blk (Go.Proofs.YtpmcoehggajmcaaG.V_away HO0.out NV128.out (by decide) (fun _ hk => hk.2.1)) | (rw [add_block]; exact Kd.own_blk (Go.Proofs.YtpmcoehggajmcaaG.V_away HO0.out NV128.out (by decide) (fun _ hk => hk.2.1))) | (show (Addr.add _ _).block ≠ _; rw [add_block]; exact Kd.own_blk (Go.Proofs.YtpmcoehggajmcaaG.V_away HO0.out NV128.out (by decide) (fun _ hk => hk.2.1))) | (dsimp only; exact Kd.own_blk (Go.Proofs.YtpmcoehggajmcaaG.V_away HO0.out NV128.out (by decide) (fun _ hk => hk.2.1)))) _).trans (hHeld.2.2.2))))))))⟩ (fun hHeld => ?_)
          clear hK K
          refine pure_ (i := 12) (N := some 6) (v := ?_) (a' := ?_) #[true, true, true, true, true, true, true, true, true, true, true, true, true] rfl rfl (any_of HT_.out (by kernel_rfl)) (fun _ _ _ h => h) (Or.inl ⟨by rfl, ?_⟩) ?_ ?_
          rotate_left
          · intro w'
            go_simp
            with_reducible rfl
          rotate_left
          · simp only [Act.put, List.setIfInBounds_toArray, List.set_cons_zero, List.set_cons_succ, i64_w, i32_w]
            rfl
          refine done_ (done_of HT_.out (by kernel_rfl)) ?_
          try go_wp2
          refine bodyPost_ret (results_list (rs := [.tmp 4, .cell 5 26, .tmp 6]) rfl (by simp) (.tmp (.cell gb119 26 #[.int .i64 ((rd_T26 l0 t120).f0), .int .i64 ((rd_T26 l0 t120).f1), .int .i64 ((rd_T26 l0 t120).f2), .int .i64 ((rd_T26 l0 t120).f3)] (0, 0) _ rfl (by (with_reducible repeat (first | refine blk_drewN ?_ _ | refine blk_drew ?_ | refine blk_alloc ?_ _)); refine blk_put (cs := #[.int .i64 ((rd_T26 l0 t120).f0), .int .i64 ((rd_T26 l0 t120).f1), .int .i64 ((rd_T26 l0 t120).f2), .int .i64 0]) ?_ 3 _ rfl; (with_reducible repeat (first | refine blk_drewN ?_ _ | refine blk_drew ?_ | refine blk_alloc ?_ _)); refine blk_put (cs := #[.int .i64 ((rd_T26 l0 t120).f0), .int .i64 ((rd_T26 l0 t120).f1), .int .i64 0, .int .i64 0]) ?_ 2 _ rfl; (with_reducible repeat (first | refine blk_drewN ?_ _ | refine blk_drew ?_ | refine blk_alloc ?_ _)); refine blk_put (cs := #[.int .i64 ((rd_T26 l0 t120).f0), .int .i64 0, .int .i64 0, .int .i64 0]) ?_ 1 _ rfl; (with_reducible repeat (first | refine blk_drewN ?_ _ | refine blk_drew ?_ | refine blk_alloc ?_ _)); refine blk_put (cs := #[.int .i64 0, .int .i64 0, .int .i64 0, .int .i64 0]) ?_ 0 _ rfl; (with_reducible repeat (first | refine blk_drewN ?_ _ | refine blk_drew ?_ | refine blk_alloc ?_ _)); exact BK119.out) Try.underlying26 rfl (by kernel_rfl) (.tmp .nil)))) rfl ?_
          exact ⟨_, by first | rfl | (simp [errW_none, errW_some] <;> rfl) | (simp [*, errW_none, errW_some] <;> rfl), Kd.V_mono (Kd.R_V (Kd.R_mono (ok' := fun k_ => (w.heap.size ≤ k_)) (by (with_reducible repeat (first | apply Kd.R_alloc | apply Kd.R_drewN | apply Kd.R_drew)); exact Kd.R_mono (Kd.R_far (p := ⟨gb119, 3, none⟩) (Kd.R_far (p := ⟨gb119, 2, none⟩) (Kd.R_far (p := ⟨gb119, 1, none⟩) (Kd.R_far (p := ⟨gb119, 0, none⟩) (Kd.R_mono HO127.out (fun k_ hk => (⟨hk, hk.2⟩ : _ ∧ k_ ≠ gb119))) (fun _ hk => hk.2) (.int .i64 ((rd_T26 l0 t120).f0))) (fun _ hk => hk.2) (.int .i64 ((rd_T26 l0 t120).f1))) (fun _ hk => hk.2) (.int .i64 ((rd_T26 l0 t120).f2))) (fun _ hk => hk.2) (.int .i64 ((rd_T26 l0 t120).f3))) (fun _ hk => hk.1.1)) (fun _ h_ => h_))) (fun k_ hk => by first | exact ⟨(.inr (hk.1)), hk.2⟩ | exact (.inr (hk))), by repeat (first | (with_reducible first | exact HB.out | apply below_alloc | apply pw_below_drewN | apply below_drew1 | refine below_set ?_ GE119.out) | exact HB.out)⟩
        · rw [if_neg c14] at H
          exact absurd H (by simp)
      · rw [if_neg c13] at H
        exact absurd H (by simp)
  · replace c5 := Bool.eq_false_iff.mpr c5
    subst c5
    have H1 : (some (l0, 0, 0, 0, 0, 1)) = some (r1, r2, r3, r4, r5, r6) := by rw [if_neg (show ¬ (false = true) by decide)] at H; exact H
    clear H
    have H := H1
    clear H1
    simp only [Option.some.injEq, Prod.mk.injEq] at H
    obtain ⟨rfl, rfl, rfl, rfl, rfl, rfl⟩ := H
    go_enter Try.func9, Try.ntmps9
    go_wp2_with (first | ((with_reducible refine gate_dst (N := 5) rfl ?_); refine box_event ?hg (N := 5) ?hd (cs := #[.int .i64 0, .int .i64 0, .int .i64 0, .int .i64 0]) (t := 26) ?hr ?_; (case hd => rfl); (case hg => rfl); (case hr => first | (go_simp; done) | (go_simp; rfl)); intro gb119 hg w26 hbox hb; have n0_ := Aside0.mk (Kd.V_below (Kd.V_elderB (by (with_reducible repeat (first | apply Kd.V_alloc | apply Kd.V_drewN | apply Kd.V_drew)); exact HO0.out) gb119 (Nat.le_of_eq hg.symm)) hb); have n1_ := Aside0.mk (below_step (by repeat (first | (with_reducible first | exact HB.out | apply below_alloc | apply pw_below_drewN | apply below_drew1) | exact HB.out)) hb); have n2_ := Aside0.mk (hbox); have n3_ := Aside0.mk ((by rw [hg]; exact (below_size (by repeat (first | (with_reducible first | exact HB.out | apply below_alloc | apply pw_below_drewN | apply below_drew1) | exact HB.out))) : w.heap.size ≤ gb119)); have n4_ := Aside0.mk ((by rw [hg]; exact (below_size (by repeat (first | (with_reducible first | exact HB.out | apply below_alloc | apply pw_below_drewN | apply below_drew1) | exact HB.out))) : w.heap.size ≤ gb119)); clear HO0; clear HB; have HO0 := n0_; have HB := n1_; have BK119 := n2_; have GW119 := n3_; have GE119 := n4_; clear n0_ n1_ n2_ n3_ n4_; clear hb hbox hg) | ((with_reducible refine gate_callee (f := 17) rfl ?_); refine goesL_ (some 10) rfl rfl Try.func17 (by kernel_rfl) rfl #[.slice A0 l0.length c0, .int .i64 a1] rfl (by (try simp only [List.map_toArray, List.map_cons, List.map_nil]); first | done | rfl | (simp only [List.length_drop, List.length_take]; rfl)) ?_; (with_reducible refine (swap_place.calls _ _ l0 a1 t120 _ ?side1 ?side2 A3.out).mono ?_); (case side1 => repeat (first | exact (Kd.V_reads' HO0.out).2.2 | (with_reducible refine Kd.C_alloc ?_ _) | (with_reducible refine Kd.C_drewN ?_ _) | (with_reducible refine Kd.C_drew ?_))); (case side2 => exact (Kd.V_reads' HO0.out).2.1); rintro e w27 ⟨rfl, hb⟩; refine ⟨_, rfl, ?_⟩; have n0_ := Aside0.mk (Kd.V_below (by (with_reducible repeat (first | apply Kd.V_alloc | apply Kd.V_drewN | apply Kd.V_drew)); exact HO0.out) hb); have n1_ := Aside0.mk (blk_below (g := gb119) (o := .cells #[.int .i64 0, .int .i64 0, .int .i64 0, .int .i64 0] 26 (0, 0)) (by (with_reducible repeat (first | refine blk_drewN ?_ _ | refine blk_drew ?_ | refine blk_alloc ?_ _)); exact BK119.out) hb); have n2_ := Aside0.mk (below_step (by repeat (first | (with_reducible first | exact HB.out | apply below_alloc | apply pw_below_drewN | apply below_drew1 | refine below_set ?_ GE119.out) | exact HB.out)) hb); clear HO0; clear BK119; clear HB; have HO0 := n0_; have BK119 := n1_; have HB := n2_; clear n0_ n1_ n2_; (try clear hb); (try clear hb2); (try clear hk); (try clear hi)) | ((with_reducible refine gate_callee (f := 14) rfl ?_); refine goesL_ (some 13) rfl rfl Try.func14 (by kernel_rfl) rfl #[.slice A0 l0.length c0] rfl (by (try simp only [List.map_toArray, List.map_cons, List.map_nil]); first | done | rfl | (simp only [List.length_drop, List.length_take]; rfl)) ?_; (with_reducible refine (swap_Right.calls k _ _ l0 false _ ?side1 ?side2 A4.out).mono ?_); (case side1 => repeat (first | exact (Kd.V_reads' HO0.out).2.2 | (with_reducible refine Kd.C_alloc ?_ _) | (with_reducible refine Kd.C_drewN ?_ _) | (with_reducible refine Kd.C_drew ?_))); (case side2 => exact (Kd.V_reads' HO0.out).2.1); rintro e w28 ⟨rfl, hb⟩; refine ⟨_, rfl, ?_⟩; have n0_ := Aside0.mk (Kd.V_below (by (with_reducible repeat (first | apply Kd.V_alloc | apply Kd.V_drewN | apply Kd.V_drew)); exact HO0.out) hb); have n1_ := Aside0.mk (blk_below (g := gb119) (o := .cells #[.int .i64 0, .int .i64 0, .int .i64 0, .int .i64 0] 26 (0, 0)) (by (with_reducible repeat (first | refine blk_drewN ?_ _ | refine blk_drew ?_ | refine blk_alloc ?_ _)); exact BK119.out) hb); have n2_ := Aside0.mk (below_step (by repeat (first | (with_reducible first | exact HB.out | apply below_alloc | apply pw_below_drewN | apply below_drew1 | refine below_set ?_ GE119.out) | exact HB.out)) hb); clear HO0; clear BK119; clear HB; have HO0 := n0_; have BK119 := n1_; have HB := n2_; clear n0_ n1_ n2_; (try clear hb); (try clear hb2); (try clear hk); (try clear hi); have hcz29_0 : w28.cell? ⟨gb119, 0, none⟩ = some (.int .i64 0) := (blk_cell BK119.out 0).trans rfl; have hcz29_1 : w28.cell? ⟨gb119, 1, none⟩ = some (.int .i64 0) := (blk_cell BK119.out 1).trans rfl; have hcz29_2 : w28.cell? ⟨gb119, 2, none⟩ = some (.int .i64 0) := (blk_cell BK119.out 2).trans rfl; have hcz29_3 : w28.cell? ⟨gb119, 3, none⟩ = some (.int .i64 0) := (blk_cell BK119.out 3).trans rfl; have hfz29_0 := blk_frozen BK119.out 0; have hfz29_1 := blk_frozen BK119.out 1; have hfz29_2 := blk_frozen BK119.out 2; have hfz29_3 := blk_frozen BK119.out 3))
    refine bodyPost_ret (results_list (rs := [.tmp 4, .cell 5 26, .tmp 6]) rfl (by simp) (.tmp (.cell gb119 26 #[.int .i64 0, .int .i64 0, .int .i64 0, .int .i64 0] (0, 0) _ rfl (by (with_reducible repeat (first | refine blk_drewN ?_ _ | refine blk_drew ?_ | refine blk_alloc ?_ _)); refine blk_put (cs := #[.int .i64 0, .int .i64 0, .int .i64 0, .int .i64 0]) ?_ 3 _ rfl; (with_reducible repeat (first | refine blk_drewN ?_ _ | refine blk_drew ?_ | refine blk_alloc ?_ _)); refine blk_put (cs := #[.int .i64 0, .int .i64 0, .int .i64 0, .int .i64 0]) ?_ 2 _ rfl; (with_reducible repeat (first | refine blk_drewN ?_ _ | refine blk_drew ?_ | refine blk_alloc ?_ _)); refine blk_put (cs := #[.int .i64 0, .int .i64 0, .int .i64 0, .int .i64 0]) ?_ 1 _ rfl; (with_reducible repeat (first | refine blk_drewN ?_ _ | refine blk_drew ?_ | refine blk_alloc ?_ _)); refine blk_put (cs := #[.int .i64 0, .int .i64 0, .int .i64 0, .int .i64 0]) ?_ 0 _ rfl; (with_reducible repeat (first | refine blk_drewN ?_ _ | refine blk_drew ?_ | refine blk_alloc ?_ _)); exact BK119.out) Try.underlying26 rfl (by kernel_rfl) (.tmp .nil)))) rfl ?_
    exact ⟨_, by first | rfl | (simp [errW_none, errW_some] <;> rfl) | (simp [*, errW_none, errW_some] <;> rfl), by (with_reducible repeat (first | apply Kd.V_alloc | apply Kd.V_drewN | apply Kd.V_drew)); exact Kd.V_mono (Kd.V_far (p := ⟨gb119, 3, none⟩) (Kd.V_far (p := ⟨gb119, 2, none⟩) (Kd.V_far (p := ⟨gb119, 1, none⟩) (Kd.V_far (p := ⟨gb119, 0, none⟩) (Kd.V_mono HO0.out (fun k_ hk => (⟨hk, hk.2⟩ : _ ∧ k_ ≠ gb119))) (fun _ hk => hk.2) (.int .i64 0)) (fun _ hk => hk.2) (.int .i64 0)) (fun _ hk => hk.2) (.int .i64 0)) (fun _ hk => hk.2) (.int .i64 0)) (fun _ hk => hk.1.1), by repeat (first | (with_reducible first | exact HB.out | apply below_alloc | apply pw_below_drewN | apply below_drew1 | refine below_set ?_ GE119.out) | exact HB.out)⟩

/-! ### swap_Late: function 10 -/
def swap_Late.l0 : Nat → Int → List (S26) → List (S26) → List (S26) → Int → Int → Option ((List (S26)) × (List (S26)))
  | 0, _, _, _, _, _, _ => none
  | k + 1, x1, x6, x7, x14, x15, x16 => if x16 < x15 then (if 0 ≤ x16 then (if x16 < (x14.length : Int) then (if ((rd_T26 x14 x16).f3) = 0 then (if x6.length < 4398046511104 then (swap_Late.l0 k x1 (x6 ++ [(⟨(rd_T26 x14 x16).f0, (rd_T26 x14 x16).f1, (rd_T26 x14 x16).f2, (rd_T26 x14 x16).f3⟩ : S26)]) x7 x14 x15 (wrap64 (x16 + 1))) else (none)) else (if ((rd_T26 x14 x16).f3) ≤ x1 then (if x7.length < 4398046511104 then (swap_Late.l0 k x1 x6 (x7 ++ [(⟨(rd_T26 x14 x16).f0, (rd_T26 x14 x16).f1, (rd_T26 x14 x16).f2, (rd_T26 x14 x16).f3⟩ : S26)]) x14 x15 (wrap64 (x16 + 1))) else (none)) else (if x6.length < 4398046511104 then (swap_Late.l0 k x1 (x6 ++ [(⟨(rd_T26 x14 x16).f0, (rd_T26 x14 x16).f1, (rd_T26 x14 x16).f2, (rd_T26 x14 x16).f3⟩ : S26)]) x7 x14 x15 (wrap64 (x16 + 1))) else (none)))) else (none)) else (none)) else (some (x6, x7))
def swap_Late.f (k : Nat) (l0 : List (S26)) (a1 : Int) : Option ((List (S26)) × (List (S26))) := (swap_Right.f k l0).bind fun t129 => (if t129 = true then (swap_Late.l0 k a1 ([] : List (S26)) ([] : List (S26)) l0 (l0.length : Int) 0) else (some (l0, ([] : List (S26)))))
theorem swap_Late.mono_l : ∀ k, (∀ y0 y1 y2 y3 y4 y5, LeO (swap_Late.l0 k y0 y1 y2 y3 y4 y5) (swap_Late.l0 (k + 1) y0 y1 y2 y3 y4 y5))
  | 0 => fun _ _ _ _ _ _ r h => by simp [swap_Late.l0] at h
  | k + 1 => by
    have ih0 := swap_Late.mono_l k
    · intro y0 y1 y2 y3 y4 y5
      unfold swap_Late.l0
      repeat' first
      | (with_reducible exact ih0 _ _ _ _ _ _)
      | (with_reducible exact swap_Right.mono _ _)
      | (with_reducible exact LeO.refl _)
      | (with_reducible exact LeO.none _)
      | (with_reducible refine LeO.ite ?_ ?_)
      | (with_reducible refine LeO.bind ?_ (fun _ => ?_))
      | exact ih0 _ _ _ _ _ _
      | exact swap_Right.mono _ _
      | exact LeO.none _
      | refine LeO.ite ?_ ?_
      | refine LeO.bind ?_ (fun _ => ?_)
theorem swap_Late.mono : ∀ a0 a1 k, LeO (swap_Late.f k a0 a1) (swap_Late.f (k + 1) a0 a1) := by
  intro a0 a1 k
  have ih0 := swap_Late.mono_l k
  unfold swap_Late.f
  repeat' first
      | (with_reducible exact ih0 _ _ _ _ _ _)
      | (with_reducible exact swap_Right.mono _ _)
      | (with_reducible exact LeO.refl _)
      | (with_reducible exact LeO.none _)
      | (with_reducible refine LeO.ite ?_ ?_)
      | (with_reducible refine LeO.bind ?_ (fun _ => ?_))
      | exact ih0 _ _ _ _ _ _
      | exact swap_Right.mono _ _
      | exact LeO.none _
      | refine LeO.ite ?_ ?_
      | refine LeO.bind ?_ (fun _ => ?_)
set_option maxHeartbeats 8000000 in
set_option maxRecDepth 100000 in
theorem swap_Late.calls (k : Nat) (P0_ : Nat → Prop) (A0 : Option Addr) (c0 : Nat) (l0 : List (S26)) (a1 : Int) (r1 : List (S26)) (r2 : List (S26)) (w : World) (hs0 : Kd.V k26 26 w w.heap.size (fun k_ => P0_ k_) (.slice A0 l0.length c0) l0) (h : swap_Late.f k l0 a1 = some (r1, r2)) :
    Calls Try.prog 10 #[.slice A0 l0.length c0, .int .i64 a1] w fun e w' => ∃ v0_ v1_ : Value, e = .returned (.tuple #[v0_, v1_]) ∧ Kd.V k26 26 w' w.heap.size (fun k_ => (P0_ k_ ∨ w.heap.size ≤ k_) ∧ some k_ ≠ (v1_ : Value).ownBlock) v0_ r1 ∧ Kd.R k26 26 w' w.heap.size (fun k_ => (w.heap.size ≤ k_)) v1_ r2 ∧ Below w.heap.size w w' := by
  have hu26 := Try.underlying26
  have HO0 := Aside0.mk (show Kd.V k26 26 w w.heap.size (fun k_ => (P0_ k_ ∨ w.heap.size ≤ k_)) (.slice A0 l0.length c0) l0 from Kd.V_mono hs0 (fun k_ hk => .inl hk))
  have HB := Aside0.mk (Below.refl w.heap.size w)
  have H : ((swap_Right.f k l0).bind fun t129 => (if t129 = true then (swap_Late.l0 k a1 ([] : List (S26)) ([] : List (S26)) l0 (l0.length : Int) 0) else (some (l0, ([] : List (S26)))))) = some (r1, r2) := h
  clear h
  replace H := Option.bind_eq_some_iff.mp H
  obtain ⟨t129, A30, H⟩ := H
  replace H : (if t129 = true then (swap_Late.l0 k a1 ([] : List (S26)) ([] : List (S26)) l0 (l0.length : Int) 0) else (some (l0, ([] : List (S26))))) = some (r1, r2) := H
  have A3 := Aside0.mk A30
  clear A30
  by_cases c4 : t129 = true
  · subst c4
    have H1 : (swap_Late.l0 k a1 ([] : List (S26)) ([] : List (S26)) l0 (l0.length : Int) 0) = some (r1, r2) := by rw [if_pos rfl] at H; exact H
    clear H
    have H := H1
    clear H1
    have H' := Aside0.mk H
    clear H
    go_enter Try.func10, Try.ntmps10
    go_wp2_with (first | ((with_reducible refine gate_callee (f := 14) rfl ?_); refine goesL_ (some 11) rfl rfl Try.func14 (by kernel_rfl) rfl #[.slice A0 l0.length c0] rfl (by (try simp only [List.map_toArray, List.map_cons, List.map_nil]); first | done | rfl | (simp only [List.length_drop, List.length_take]; rfl)) ?_; (with_reducible refine (swap_Right.calls k _ _ l0 true _ ?side1 ?side2 A3.out).mono ?_); (case side1 => repeat (first | exact (Kd.V_reads' HO0.out).2.2 | (with_reducible refine Kd.C_alloc ?_ _) | (with_reducible refine Kd.C_drewN ?_ _) | (with_reducible refine Kd.C_drew ?_))); (case side2 => exact (Kd.V_reads' HO0.out).2.1); rintro e w5 ⟨rfl, hb⟩; refine ⟨_, rfl, ?_⟩; have n0_ := Aside0.mk (Kd.V_below (by (with_reducible repeat (first | apply Kd.V_alloc | apply Kd.V_drewN | apply Kd.V_drew)); exact HO0.out) hb); have n1_ := Aside0.mk (below_step (by repeat (first | (with_reducible first | exact HB.out | apply below_alloc | apply pw_below_drewN | apply below_drew1) | exact HB.out)) hb); clear HO0; clear HB; have HO0 := n0_; have HB := n1_; clear n0_ n1_; (try clear hb); (try clear hb2); (try clear hk); (try clear hi)))
    go_loopg [6, 7, 16] k (fun kq v6 v7 v16 w' => ∃ (x6_1 : List (S26)) (x7_1 : List (S26)) (x16_1 : Int), v16 = .int .i64 x16_1 ∧ Aside0 (swap_Late.l0 kq a1 x6_1 x7_1 l0 (l0.length : Int) x16_1 = some (r1, r2)) ∧ Aside0 (kq ≤ k) ∧ Aside0 (Kd.R k26 26 w' w.heap.size (fun k_ => (w.heap.size ≤ k_) ∧ some k_ ≠ (v7 : Value).ownBlock) v6 x6_1) ∧ Aside0 (Kd.R k26 26 w' w.heap.size (fun k_ => (w.heap.size ≤ k_) ∧ some k_ ≠ (v6 : Value).ownBlock) v7 x7_1) ∧ Aside0 (Kd.V k26 26 w' w.heap.size (fun k_ => (P0_ k_ ∨ w.heap.size ≤ k_) ∧ some k_ ≠ (v6 : Value).ownBlock ∧ some k_ ≠ (v7 : Value).ownBlock) (.slice A0 l0.length c0) l0) ∧ Aside0 (Below w.heap.size w w'))
    case atStart => exact ⟨(([] : List (S26))), (([] : List (S26))), (0), (by first | rfl | (simp; done) | (simp [*]; done)), H', ⟨Nat.le_refl _⟩, ⟨by first | exact Kd.R_nil _ _ _ _ _ | exact Kd.N_nil _ _ _ _ _ | exact Kd.V_nil _ _ _ _ _ | exact Kd.Q_nil _ _ _ _ _ | exact Kd.S_nil _ _ _ _ _⟩, ⟨by first | exact Kd.R_nil _ _ _ _ _ | exact Kd.N_nil _ _ _ _ _ | exact Kd.V_nil _ _ _ _ _ | exact Kd.Q_nil _ _ _ _ _ | exact Kd.S_nil _ _ _ _ _⟩, ⟨by (with_reducible repeat (first | apply Kd.V_alloc | apply Kd.V_drewN | apply Kd.V_drew)); exact Kd.V_mono HO0.out (fun _ hk => ⟨hk, ⟨(by simp [Value.ownBlock]), (by simp [Value.ownBlock])⟩⟩)⟩, ⟨by repeat (first | (with_reducible first | exact HB.out | apply below_alloc | apply pw_below_drewN | apply below_drew1) | exact HB.out)⟩⟩
    case round =>
      clear H'
      try clear c1
      try clear p2
      try clear c4
      obtain ⟨x6_1, x7_1, x16_1, rfl, HA, HK1, HO_6, HO_7, HO_14, HB⟩ := hrel
      cases gk with
      | zero => exact absurd HA.out (by simp [swap_Late.l0])
      | succ k1 =>
        have H := HA.out
        clear HA
        simp only [swap_Late.l0] at H
        by_cases c6 : x16_1 < (l0.length : Int)
        · rw [if_pos c6] at H
          have c6b0 : decide (x16_1 < (l0.length : Int)) = true := decide_eq_true c6
          clear c6
          by_cases c7 : 0 ≤ x16_1
          · rw [if_pos c7] at H
            have c7b0 : decide (0 ≤ x16_1) = true := decide_eq_true c7
            clear c7
            by_cases c8 : x16_1 < (l0.length : Int)
            · rw [if_pos c8] at H
              have c8b0 : decide (x16_1 < (l0.length : Int)) = true := decide_eq_true c8
              clear c8
              by_cases c9 : ((rd_T26 l0 x16_1).f3) = 0
              · rw [if_pos c9] at H
                have c9b0 : (((rd_T26 l0 x16_1).f3) == 0) = true := beq_iff_eq.mpr c9
                have c9b1 : (((rd_T26 l0 x16_1).f3) != 0) = false := bne_eq_false_iff_eq.mpr c9
                clear c9
                by_cases c10 : x6_1.length < 4398046511104
                · rw [if_pos c10] at H
                  have LMc10 := Aside0.mk c10
                  clear c10
                  obtain ⟨y132, hy132⟩ : ∃ y_ : List (S26), y_ = (x6_1 ++ [(⟨(rd_T26 l0 x16_1).f0, (rd_T26 l0 x16_1).f1, (rd_T26 l0 x16_1).f2, (rd_T26 l0 x16_1).f3⟩ : S26)]) := ⟨_, rfl⟩
                  replace H : (swap_Late.l0 k1 a1 y132 x7_1 l0 (l0.length : Int) (wrap64 (x16_1 + 1))) = some (r1, r2) := by first | (rw [hy132]; with_reducible exact H) | (have H2_ := (Option.bind_some _ _).symm.trans H; rw [hy132]; with_reducible exact H2_) | (have H2_ := (Option.bind_some _ _).symm.trans H; with_reducible exact H2_) | with_reducible exact H | (rw [hy132]; exact H) | exact H
                  have Ny132 := Aside0.mk hy132
                  clear hy132
                  have H' := Aside0.mk H
                  clear H
                  have p130 : 0 ≤ (x16_1 : Int) := of_decide_eq_true (by first | (with_reducible assumption) | assumption)
                  have q130 : x16_1 < (l0.length : Int) := of_decide_eq_true (by first | (with_reducible assumption) | assumption)
                  obtain ⟨ad130, e130, hx130_0, hx130_1, hx130_2, hx130_3⟩ := at_T26 (Kd.V_reads' HO_14.out).2.2 x16_1 p130 q130
                  cases e130
                  replace p130 := eq_true p130
                  replace q130 := eq_true q130
                  go_wp2_with (first | ((with_reducible refine gate_dst (N := 9) rfl ?_); refine box_event ?hg (N := 9) ?hd (cs := #[.int .i64 0, .int .i64 0, .int .i64 0, .int .i64 0]) (t := 26) ?hr ?_; (case hd => rfl); (case hg => rfl); (case hr => first | (go_simp; done) | (go_simp; rfl)); intro gb131 hg w11 hbox hb; have n0_ := Aside0.mk (Kd.R_below (Kd.R_elderB (by (with_reducible repeat (first | apply Kd.R_alloc | apply Kd.R_drewN | apply Kd.R_drew)); exact HO_6.out) gb131 (Nat.le_of_eq hg.symm)) hb); have n1_ := Aside0.mk (Kd.R_below (Kd.R_elderB (by (with_reducible repeat (first | apply Kd.R_alloc | apply Kd.R_drewN | apply Kd.R_drew)); exact HO_7.out) gb131 (Nat.le_of_eq hg.symm)) hb); have n2_ := Aside0.mk (Kd.V_below (Kd.V_elderB (by (with_reducible repeat (first | apply Kd.V_alloc | apply Kd.V_drewN | apply Kd.V_drew)); exact HO_14.out) gb131 (Nat.le_of_eq hg.symm)) hb); have n3_ := Aside0.mk (below_step (by repeat (first | (with_reducible first | exact HB.out | apply below_alloc | apply pw_below_drewN | apply below_drew1) | exact HB.out)) hb); have n4_ := Aside0.mk (hbox); have n5_ := Aside0.mk ((by rw [hg]; exact (below_size (by repeat (first | (with_reducible first | exact HB.out | apply below_alloc | apply pw_below_drewN | apply below_drew1) | exact HB.out))) : w.heap.size ≤ gb131)); have n6_ := Aside0.mk ((by rw [hg]; exact (below_size (by repeat (first | (with_reducible first | exact HB.out | apply below_alloc | apply pw_below_drewN | apply below_drew1) | exact HB.out))) : w.heap.size ≤ gb131)); clear HO_6; clear HO_7; clear HO_14; clear HB; have HO_6 := n0_; have HO_7 := n1_; have HO_14 := n2_; have HB := n3_; have BK131 := n4_; have GW131 := n5_; have GE131 := n6_; clear n0_ n1_ n2_ n3_ n4_ n5_ n6_; clear hb hbox hg; have hcz12_0 : w11.cell? ⟨gb131, 0, none⟩ = some (.int .i64 0) := (blk_cell BK131.out 0).trans rfl; have hcz12_1 : w11.cell? ⟨gb131, 1, none⟩ = some (.int .i64 0) := (blk_cell BK131.out 1).trans rfl; have hcz12_2 : w11.cell? ⟨gb131, 2, none⟩ = some (.int .i64 0) := (blk_cell BK131.out 2).trans rfl; have hcz12_3 : w11.cell? ⟨gb131, 3, none⟩ = some (.int .i64 0) := (blk_cell BK131.out 3).trans rfl; have hfz12_0 := blk_frozen BK131.out 0; have hfz12_1 := blk_frozen BK131.out 1; have hfz12_2 := blk_frozen BK131.out 2; have hfz12_3 := blk_frozen BK131.out 3) | ((with_reducible refine gate_builtin (b := .append) (xs := #[.tmp 33, .tmp 35]) rfl ?_); at_builtin; refine Kd.R_append k26 (w0 := w) w.heap.size rfl (.tmp 33) (.tmp 35) 24 26 (.agg #[(.int .i64 0), (.int .i64 0), (.int .i64 0), (.int .i64 0)]) 32 rfl Try.underlying24 info26 rfl (by decide) (by omega) u6 x6_1 (⟨(rd_T26 l0 x16_1).f0, (rd_T26 l0 x16_1).f1, (rd_T26 l0 x16_1).f2, (rd_T26 l0 x16_1).f3⟩ : S26) [.int .i64 ((rd_T26 l0 x16_1).f0), .int .i64 ((rd_T26 l0 x16_1).f1), .int .i64 ((rd_T26 l0 x16_1).f2), .int .i64 ((rd_T26 l0 x16_1).f3)] (fun k_ => (w.heap.size ≤ k_) ∧ some k_ ≠ (u7 : Value).ownBlock ∧ k_ ≠ gb131) (fun _ => False) rfl (by first | (go_simp; done) | (go_simp; rfl)) ?aP (fun _ hk => hk.elim) ?aF ?aO ?aB ?aS ?aL ?_; (case aP => exact k26_mkM _ _ _ (⟨(rd_T26 l0 x16_1).f0, (rd_T26 l0 x16_1).f1, (rd_T26 l0 x16_1).f2, (rd_T26 l0 x16_1).f3⟩ : S26)); (case aB => exact (by repeat (first | (with_reducible first | exact HB.out | apply below_alloc | apply pw_below_drewN | apply below_drew1 | refine below_set ?_ GE131.out) | exact HB.out))); (case aF => exact (fun k_ hk => ⟨(Nat.le_trans (below_size (by repeat (first | (with_reducible first | exact HB.out | apply below_alloc | apply pw_below_drewN | apply below_drew1 | refine below_set ?_ GE131.out) | exact HB.out))) hk), Kd.fresh' (Kd.R_lt (by (with_reducible repeat (first | apply Kd.R_alloc | apply Kd.R_drewN | apply Kd.R_drew)); exact (Kd.R_mono (Kd.R_far (p := ⟨gb131, 3, none⟩) (Kd.R_far (p := ⟨gb131, 2, none⟩) (Kd.R_far (p := ⟨gb131, 1, none⟩) (Kd.R_far (p := ⟨gb131, 0, none⟩) (Kd.R_mono HO_7.out (fun k_ hk => (⟨hk, hk.2⟩ : _ ∧ k_ ≠ gb131))) (fun _ hk => hk.2) (.int .i64 ((rd_T26 l0 x16_1).f0))) (fun _ hk => hk.2) (.int .i64 ((rd_T26 l0 x16_1).f1))) (fun _ hk => hk.2) (.int .i64 ((rd_T26 l0 x16_1).f2))) (fun _ hk => hk.2) (.int .i64 ((rd_T26 l0 x16_1).f3))) (fun _ h_ => h_.1)))) k_ hk, Kd.freshB (g := gb131) (o := .cells #[.int .i64 ((rd_T26 l0 x16_1).f0), .int .i64 ((rd_T26 l0 x16_1).f1), .int .i64 ((rd_T26 l0 x16_1).f2), .int .i64 ((rd_T26 l0 x16_1).f3)] 26 (0, 0)) (by (with_reducible repeat (first | refine blk_drewN ?_ _ | refine blk_drew ?_ | refine blk_alloc ?_ _)); refine blk_put (cs := #[.int .i64 ((rd_T26 l0 x16_1).f0), .int .i64 ((rd_T26 l0 x16_1).f1), .int .i64 ((rd_T26 l0 x16_1).f2), .int .i64 0]) ?_ 3 _ rfl; (with_reducible repeat (first | refine blk_drewN ?_ _ | refine blk_drew ?_ | refine blk_alloc ?_ _)); refine blk_put (cs := #[.int .i64 ((rd_T26 l0 x16_1).f0), .int .i64 ((rd_T26 l0 x16_1).f1), .int .i64 0, .int .i64 0]) ?_ 2 _ rfl; (with_reducible repeat (first | refine blk_drewN ?_ _ | refine blk_drew ?_ | refine blk_alloc ?_ _)); refine blk_put (cs := #[.int .i64 ((rd_T26 l0 x16_1).f0), .int .i64 0, .int .i64 0, .int .i64 0]) ?_ 1 _ rfl; (with_reducible repeat (first | refine blk_drewN ?_ _ | refine blk_drew ?_ | refine blk_alloc ?_ _)); refine blk_put (cs := #[.int .i64 0, .int .i64 0, .int .i64 0, .int .i64 0]) ?_ 0 _ rfl; (with_reducible repeat (first | refine blk_drewN ?_ _ | refine blk_drew ?_ | refine blk_alloc ?_ _)); exact BK131.out) k_ hk⟩)); (case aO => exact (by (with_reducible repeat (first | apply Kd.R_alloc | apply Kd.R_drewN | apply Kd.R_drew)); exact Kd.R_mono (Kd.R_far (p := ⟨gb131, 3, none⟩) (Kd.R_far (p := ⟨gb131, 2, none⟩) (Kd.R_far (p := ⟨gb131, 1, none⟩) (Kd.R_far (p := ⟨gb131, 0, none⟩) (Kd.R_mono HO_6.out (fun k_ hk => (⟨hk, hk.2⟩ : _ ∧ k_ ≠ gb131))) (fun _ hk => hk.2) (.int .i64 ((rd_T26 l0 x16_1).f0))) (fun _ hk => hk.2) (.int .i64 ((rd_T26 l0 x16_1).f1))) (fun _ hk => hk.2) (.int .i64 ((rd_T26 l0 x16_1).f2))) (fun _ hk => hk.2) (.int .i64 ((rd_T26 l0 x16_1).f3))) (fun _ hk => ⟨hk.1.1.1, ⟨hk.1.1.2, hk.1.2⟩⟩))); (case aS => exact (below_size (by repeat (first | (with_reducible first | exact HB.out | apply below_alloc | apply pw_below_drewN | apply below_drew1 | refine below_set ?_ GE131.out) | exact HB.out)))); (case aL => have := LMc10.out; omega); intro v133 w13 ho hb hg hat; rw [← Ny132.out] at ho; have n0_ := Aside0.mk (Kd.R_after (ok := (fun k_ => (w.heap.size ≤ k_) ∧ k_ ≠ gb131)) (by (with_reducible repeat (first | apply Kd.R_alloc | apply Kd.R_drewN | apply Kd.R_drew)); exact Kd.R_mono (Kd.R_far (p := ⟨gb131, 3, none⟩) (Kd.R_far (p := ⟨gb131, 2, none⟩) (Kd.R_far (p := ⟨gb131, 1, none⟩) (Kd.R_far (p := ⟨gb131, 0, none⟩) (Kd.R_mono HO_7.out (fun k_ hk => (⟨hk, hk.2⟩ : _ ∧ k_ ≠ gb131))) (fun _ hk => hk.2) (.int .i64 ((rd_T26 l0 x16_1).f0))) (fun _ hk => hk.2) (.int .i64 ((rd_T26 l0 x16_1).f1))) (fun _ hk => hk.2) (.int .i64 ((rd_T26 l0 x16_1).f2))) (fun _ hk => hk.2) (.int .i64 ((rd_T26 l0 x16_1).f3))) (fun _ hk => ⟨⟨hk.1.1.1, hk.1.2⟩, hk.1.1.2⟩)) hg hat); have n1_ := Aside0.mk (Kd.V_afterv (ok := (fun k_ => (P0_ k_ ∨ w.heap.size ≤ k_) ∧ some k_ ≠ (u7 : Value).ownBlock ∧ k_ ≠ gb131)) (by (with_reducible repeat (first | apply Kd.V_alloc | apply Kd.V_drewN | apply Kd.V_drew)); exact Kd.V_mono (Kd.V_far (p := ⟨gb131, 3, none⟩) (Kd.V_far (p := ⟨gb131, 2, none⟩) (Kd.V_far (p := ⟨gb131, 1, none⟩) (Kd.V_far (p := ⟨gb131, 0, none⟩) (Kd.V_mono HO_14.out (fun k_ hk => (⟨hk, hk.2⟩ : _ ∧ k_ ≠ gb131))) (fun _ hk => hk.2) (.int .i64 ((rd_T26 l0 x16_1).f0))) (fun _ hk => hk.2) (.int .i64 ((rd_T26 l0 x16_1).f1))) (fun _ hk => hk.2) (.int .i64 ((rd_T26 l0 x16_1).f2))) (fun _ hk => hk.2) (.int .i64 ((rd_T26 l0 x16_1).f3))) (fun _ hk => ⟨⟨hk.1.1.1, ⟨hk.1.1.2.2, hk.1.2⟩⟩, hk.1.1.2.1⟩)) hg hat); have n2_ := Aside0.mk (blk_grown (g := gb131) (o := .cells #[.int .i64 ((rd_T26 l0 x16_1).f0), .int .i64 ((rd_T26 l0 x16_1).f1), .int .i64 ((rd_T26 l0 x16_1).f2), .int .i64 ((rd_T26 l0 x16_1).f3)] 26 (0, 0)) (by (with_reducible repeat (first | refine blk_drewN ?_ _ | refine blk_drew ?_ | refine blk_alloc ?_ _)); refine blk_put (cs := #[.int .i64 ((rd_T26 l0 x16_1).f0), .int .i64 ((rd_T26 l0 x16_1).f1), .int .i64 ((rd_T26 l0 x16_1).f2), .int .i64 0]) ?_ 3 _ rfl; (with_reducible repeat (first | refine blk_drewN ?_ _ | refine blk_drew ?_ | refine blk_alloc ?_ _)); refine blk_put (cs := #[.int .i64 ((rd_T26 l0 x16_1).f0), .int .i64 ((rd_T26 l0 x16_1).f1), .int .i64 0, .int .i64 0]) ?_ 2 _ rfl; (with_reducible repeat (first | refine blk_drewN ?_ _ | refine blk_drew ?_ | refine blk_alloc ?_ _)); refine blk_put (cs := #[.int .i64 ((rd_T26 l0 x16_1).f0), .int .i64 0, .int .i64 0, .int .i64 0]) ?_ 1 _ rfl; (with_reducible repeat (first | refine blk_drewN ?_ _ | refine blk_drew ?_ | refine blk_alloc ?_ _)); refine blk_put (cs := #[.int .i64 0, .int .i64 0, .int .i64 0, .int .i64 0]) ?_ 0 _ rfl; (with_reducible repeat (first | refine blk_drewN ?_ _ | refine blk_drew ?_ | refine blk_alloc ?_ _)); exact BK131.out) hg (Kd.R_away HO_6.out (fun _ hk => hk.2))); have n3_ := Aside0.mk (hb); have n4_ := Aside0.mk (ho); clear HO_7; clear HO_14; clear BK131; clear HB; clear HO_6; have HO_7 := n0_; have HO_14 := n1_; have BK131 := n2_; have HB := n3_; have HO134 := n4_; clear n0_ n1_ n2_ n3_ n4_; clear ho hb hg hat))
                  go_roundg k1
                  case measure => have := HK1.out; omega
                  case rel => exact ⟨(y132), (x7_1), (wrap64 (x16_1 + 1)), (by first | rfl | (simp; done) | (simp [*]; done)), H', ⟨by have := HK1.out; omega⟩, ⟨by (with_reducible repeat (first | apply Kd.R_alloc | apply Kd.R_drewN | apply Kd.R_drew)); exact Kd.R_mono HO134.out (fun _ hk => ⟨hk.1, hk.2.1⟩)⟩, ⟨by (with_reducible repeat (first | apply Kd.R_alloc | apply Kd.R_drewN | apply Kd.R_drew)); exact Kd.R_mono HO_7.out (fun _ hk => ⟨hk.1.1, hk.2⟩)⟩, ⟨by (with_reducible repeat (first | apply Kd.V_alloc | apply Kd.V_drewN | apply Kd.V_drew)); exact Kd.V_mono HO_14.out (fun _ hk => ⟨hk.1.1, ⟨hk.2, hk.1.2.1⟩⟩)⟩, ⟨by repeat (first | (with_reducible first | exact HB.out | apply below_alloc | apply pw_below_drewN | apply below_drew1 | refine below_set ?_ GE131.out) | exact HB.out)⟩⟩
                · rw [if_neg c10] at H
                  exact absurd H (by simp)
              · rw [if_neg c9] at H
                have c9b0 : (((rd_T26 l0 x16_1).f3) == 0) = false := beq_eq_false_iff_ne.mpr c9
                have c9b1 : (((rd_T26 l0 x16_1).f3) != 0) = true := bne_iff_ne.mpr c9
                by_cases c14 : ((rd_T26 l0 x16_1).f3) ≤ a1
                · rw [if_pos c14] at H
                  have c14b0 : decide (((rd_T26 l0 x16_1).f3) ≤ a1) = true := decide_eq_true c14
                  clear c14
                  by_cases c15 : x7_1.length < 4398046511104
                  · rw [if_pos c15] at H
                    have LMc15 := Aside0.mk c15
                    clear c15
                    obtain ⟨y135, hy135⟩ : ∃ y_ : List (S26), y_ = (x7_1 ++ [(⟨(rd_T26 l0 x16_1).f0, (rd_T26 l0 x16_1).f1, (rd_T26 l0 x16_1).f2, (rd_T26 l0 x16_1).f3⟩ : S26)]) := ⟨_, rfl⟩
                    replace H : (swap_Late.l0 k1 a1 x6_1 y135 l0 (l0.length : Int) (wrap64 (x16_1 + 1))) = some (r1, r2) := by first | (rw [hy135]; with_reducible exact H) | (have H2_ := (Option.bind_some _ _).symm.trans H; rw [hy135]; with_reducible exact H2_) | (have H2_ := (Option.bind_some _ _).symm.trans H; with_reducible exact H2_) | with_reducible exact H | (rw [hy135]; exact H) | exact H
                    have Ny135 := Aside0.mk hy135
                    clear hy135
                    have H' := Aside0.mk H
                    clear H
                    have p130 : 0 ≤ (x16_1 : Int) := of_decide_eq_true (by first | (with_reducible assumption) | assumption)
                    have q130 : x16_1 < (l0.length : Int) := of_decide_eq_true (by first | (with_reducible assumption) | assumption)
                    obtain ⟨ad130, e130, hx130_0, hx130_1, hx130_2, hx130_3⟩ := at_T26 (Kd.V_reads' HO_14.out).2.2 x16_1 p130 q130
                    cases e130
                    replace p130 := eq_true p130
                    replace q130 := eq_true q130
                    go_wp2_with (first | ((with_reducible refine gate_dst (N := 9) rfl ?_); refine box_event ?hg (N := 9) ?hd (cs := #[.int .i64 0, .int .i64 0, .int .i64 0, .int .i64 0]) (t := 26) ?hr ?_; (case hd => rfl); (case hg => rfl); (case hr => first | (go_simp; done) | (go_simp; rfl)); intro gb131 hg w16 hbox hb; have n0_ := Aside0.mk (Kd.R_below (Kd.R_elderB (by (with_reducible repeat (first | apply Kd.R_alloc | apply Kd.R_drewN | apply Kd.R_drew)); exact HO_6.out) gb131 (Nat.le_of_eq hg.symm)) hb); have n1_ := Aside0.mk (Kd.R_below (Kd.R_elderB (by (with_reducible repeat (first | apply Kd.R_alloc | apply Kd.R_drewN | apply Kd.R_drew)); exact HO_7.out) gb131 (Nat.le_of_eq hg.symm)) hb); have n2_ := Aside0.mk (Kd.V_below (Kd.V_elderB (by (with_reducible repeat (first | apply Kd.V_alloc | apply Kd.V_drewN | apply Kd.V_drew)); exact HO_14.out) gb131 (Nat.le_of_eq hg.symm)) hb); have n3_ := Aside0.mk (below_step (by repeat (first | (with_reducible first | exact HB.out | apply below_alloc | apply pw_below_drewN | apply below_drew1) | exact HB.out)) hb); have n4_ := Aside0.mk (hbox); have n5_ := Aside0.mk ((by rw [hg]; exact (below_size (by repeat (first | (with_reducible first | exact HB.out | apply below_alloc | apply pw_below_drewN | apply below_drew1) | exact HB.out))) : w.heap.size ≤ gb131)); have n6_ := Aside0.mk ((by rw [hg]; exact (below_size (by repeat (first | (with_reducible first | exact HB.out | apply below_alloc | apply pw_below_drewN | apply below_drew1) | exact HB.out))) : w.heap.size ≤ gb131)); clear HO_6; clear HO_7; clear HO_14; clear HB; have HO_6 := n0_; have HO_7 := n1_; have HO_14 := n2_; have HB := n3_; have BK131 := n4_; have GW131 := n5_; have GE131 := n6_; clear n0_ n1_ n2_ n3_ n4_ n5_ n6_; clear hb hbox hg; have hcz17_0 : w16.cell? ⟨gb131, 0, none⟩ = some (.int .i64 0) := (blk_cell BK131.out 0).trans rfl; have hcz17_1 : w16.cell? ⟨gb131, 1, none⟩ = some (.int .i64 0) := (blk_cell BK131.out 1).trans rfl; have hcz17_2 : w16.cell? ⟨gb131, 2, none⟩ = some (.int .i64 0) := (blk_cell BK131.out 2).trans rfl; have hcz17_3 : w16.cell? ⟨gb131, 3, none⟩ = some (.int .i64 0) := (blk_cell BK131.out 3).trans rfl; have hfz17_0 := blk_frozen BK131.out 0; have hfz17_1 := blk_frozen BK131.out 1; have hfz17_2 := blk_frozen BK131.out 2; have hfz17_3 := blk_frozen BK131.out 3) | ((with_reducible refine gate_builtin (b := .append) (xs := #[.tmp 29, .tmp 31]) rfl ?_); at_builtin; refine Kd.R_append k26 (w0 := w) w.heap.size rfl (.tmp 29) (.tmp 31) 24 26 (.agg #[(.int .i64 0), (.int .i64 0), (.int .i64 0), (.int .i64 0)]) 32 rfl Try.underlying24 info26 rfl (by decide) (by omega) u7 x7_1 (⟨(rd_T26 l0 x16_1).f0, (rd_T26 l0 x16_1).f1, (rd_T26 l0 x16_1).f2, (rd_T26 l0 x16_1).f3⟩ : S26) [.int .i64 ((rd_T26 l0 x16_1).f0), .int .i64 ((rd_T26 l0 x16_1).f1), .int .i64 ((rd_T26 l0 x16_1).f2), .int .i64 ((rd_T26 l0 x16_1).f3)] (fun k_ => (w.heap.size ≤ k_) ∧ some k_ ≠ (u6 : Value).ownBlock ∧ k_ ≠ gb131) (fun _ => False) rfl (by first | (go_simp; done) | (go_simp; rfl)) ?aP (fun _ hk => hk.elim) ?aF ?aO ?aB ?aS ?aL ?_; (case aP => exact k26_mkM _ _ _ (⟨(rd_T26 l0 x16_1).f0, (rd_T26 l0 x16_1).f1, (rd_T26 l0 x16_1).f2, (rd_T26 l0 x16_1).f3⟩ : S26)); (case aB => exact (by repeat (first | (with_reducible first | exact HB.out | apply below_alloc | apply pw_below_drewN | apply below_drew1 | refine below_set ?_ GE131.out) | exact HB.out))); (case aF => exact (fun k_ hk => ⟨(Nat.le_trans (below_size (by repeat (first | (with_reducible first | exact HB.out | apply below_alloc | apply pw_below_drewN | apply below_drew1 | refine below_set ?_ GE131.out) | exact HB.out))) hk), Kd.fresh' (Kd.R_lt (by (with_reducible repeat (first | apply Kd.R_alloc | apply Kd.R_drewN | apply Kd.R_drew)); exact (Kd.R_mono (Kd.R_far (p := ⟨gb131, 3, none⟩) (Kd.R_far (p := ⟨gb131, 2, none⟩) (Kd.R_far (p := ⟨gb131, 1, none⟩) (Kd.R_far (p := ⟨gb131, 0, none⟩) (Kd.R_mono HO_6.out (fun k_ hk => (⟨hk, hk.2⟩ : _ ∧ k_ ≠ gb131))) (fun _ hk => hk.2) (.int .i64 ((rd_T26 l0 x16_1).f0))) (fun _ hk => hk.2) (.int .i64 ((rd_T26 l0 x16_1).f1))) (fun _ hk => hk.2) (.int .i64 ((rd_T26 l0 x16_1).f2))) (fun _ hk => hk.2) (.int .i64 ((rd_T26 l0 x16_1).f3))) (fun _ h_ => h_.1)))) k_ hk, Kd.freshB (g := gb131) (o := .cells #[.int .i64 ((rd_T26 l0 x16_1).f0), .int .i64 ((rd_T26 l0 x16_1).f1), .int .i64 ((rd_T26 l0 x16_1).f2), .int .i64 ((rd_T26 l0 x16_1).f3)] 26 (0, 0)) (by (with_reducible repeat (first | refine blk_drewN ?_ _ | refine blk_drew ?_ | refine blk_alloc ?_ _)); refine blk_put (cs := #[.int .i64 ((rd_T26 l0 x16_1).f0), .int .i64 ((rd_T26 l0 x16_1).f1), .int .i64 ((rd_T26 l0 x16_1).f2), .int .i64 0]) ?_ 3 _ rfl; (with_reducible repeat (first | refine blk_drewN ?_ _ | refine blk_drew ?_ | refine blk_alloc ?_ _)); refine blk_put (cs := #[.int .i64 ((rd_T26 l0 x16_1).f0), .int .i64 ((rd_T26 l0 x16_1).f1), .int .i64 0, .int .i64 0]) ?_ 2 _ rfl; (with_reducible repeat (first | refine blk_drewN ?_ _ | refine blk_drew ?_ | refine blk_alloc ?_ _)); refine blk_put (cs := #[.int .i64 ((rd_T26 l0 x16_1).f0), .int .i64 0, .int .i64 0, .int .i64 0]) ?_ 1 _ rfl; (with_reducible repeat (first | refine blk_drewN ?_ _ | refine blk_drew ?_ | refine blk_alloc ?_ _)); refine blk_put (cs := #[.int .i64 0, .int .i64 0, .int .i64 0, .int .i64 0]) ?_ 0 _ rfl; (with_reducible repeat (first | refine blk_drewN ?_ _ | refine blk_drew ?_ | refine blk_alloc ?_ _)); exact BK131.out) k_ hk⟩)); (case aO => exact (by (with_reducible repeat (first | apply Kd.R_alloc | apply Kd.R_drewN | apply Kd.R_drew)); exact Kd.R_mono (Kd.R_far (p := ⟨gb131, 3, none⟩) (Kd.R_far (p := ⟨gb131, 2, none⟩) (Kd.R_far (p := ⟨gb131, 1, none⟩) (Kd.R_far (p := ⟨gb131, 0, none⟩) (Kd.R_mono HO_7.out (fun k_ hk => (⟨hk, hk.2⟩ : _ ∧ k_ ≠ gb131))) (fun _ hk => hk.2) (.int .i64 ((rd_T26 l0 x16_1).f0))) (fun _ hk => hk.2) (.int .i64 ((rd_T26 l0 x16_1).f1))) (fun _ hk => hk.2) (.int .i64 ((rd_T26 l0 x16_1).f2))) (fun _ hk => hk.2) (.int .i64 ((rd_T26 l0 x16_1).f3))) (fun _ hk => ⟨hk.1.1.1, ⟨hk.1.1.2, hk.1.2⟩⟩))); (case aS => exact (below_size (by repeat (first | (with_reducible first | exact HB.out | apply below_alloc | apply pw_below_drewN | apply below_drew1 | refine below_set ?_ GE131.out) | exact HB.out)))); (case aL => have := LMc15.out; omega); intro v136 w18 ho hb hg hat; rw [← Ny135.out] at ho; have n0_ := Aside0.mk (Kd.R_after (ok := (fun k_ => (w.heap.size ≤ k_) ∧ k_ ≠ gb131)) (by (with_reducible repeat (first | apply Kd.R_alloc | apply Kd.R_drewN | apply Kd.R_drew)); exact Kd.R_mono (Kd.R_far (p := ⟨gb131, 3, none⟩) (Kd.R_far (p := ⟨gb131, 2, none⟩) (Kd.R_far (p := ⟨gb131, 1, none⟩) (Kd.R_far (p := ⟨gb131, 0, none⟩) (Kd.R_mono HO_6.out (fun k_ hk => (⟨hk, hk.2⟩ : _ ∧ k_ ≠ gb131))) (fun _ hk => hk.2) (.int .i64 ((rd_T26 l0 x16_1).f0))) (fun _ hk => hk.2) (.int .i64 ((rd_T26 l0 x16_1).f1))) (fun _ hk => hk.2) (.int .i64 ((rd_T26 l0 x16_1).f2))) (fun _ hk => hk.2) (.int .i64 ((rd_T26 l0 x16_1).f3))) (fun _ hk => ⟨⟨hk.1.1.1, hk.1.2⟩, hk.1.1.2⟩)) hg hat); have n1_ := Aside0.mk (Kd.V_afterv (ok := (fun k_ => (P0_ k_ ∨ w.heap.size ≤ k_) ∧ some k_ ≠ (u6 : Value).ownBlock ∧ k_ ≠ gb131)) (by (with_reducible repeat (first | apply Kd.V_alloc | apply Kd.V_drewN | apply Kd.V_drew)); exact Kd.V_mono (Kd.V_far (p := ⟨gb131, 3, none⟩) (Kd.V_far (p := ⟨gb131, 2, none⟩) (Kd.V_far (p := ⟨gb131, 1, none⟩) (Kd.V_far (p := ⟨gb131, 0, none⟩) (Kd.V_mono HO_14.out (fun k_ hk => (⟨hk, hk.2⟩ : _ ∧ k_ ≠ gb131))) (fun _ hk => hk.2) (.int .i64 ((rd_T26 l0 x16_1).f0))) (fun _ hk => hk.2) (.int .i64 ((rd_T26 l0 x16_1).f1))) (fun _ hk => hk.2) (.int .i64 ((rd_T26 l0 x16_1).f2))) (fun _ hk => hk.2) (.int .i64 ((rd_T26 l0 x16_1).f3))) (fun _ hk => ⟨⟨hk.1.1.1, ⟨hk.1.1.2.1, hk.1.2⟩⟩, hk.1.1.2.2⟩)) hg hat); have n2_ := Aside0.mk (blk_grown (g := gb131) (o := .cells #[.int .i64 ((rd_T26 l0 x16_1).f0), .int .i64 ((rd_T26 l0 x16_1).f1), .int .i64 ((rd_T26 l0 x16_1).f2), .int .i64 ((rd_T26 l0 x16_1).f3)] 26 (0, 0)) (by (with_reducible repeat (first | refine blk_drewN ?_ _ | refine blk_drew ?_ | refine blk_alloc ?_ _)); refine blk_put (cs := #[.int .i64 ((rd_T26 l0 x16_1).f0), .int .i64 ((rd_T26 l0 x16_1).f1), .int .i64 ((rd_T26 l0 x16_1).f2), .int .i64 0]) ?_ 3 _ rfl; (with_reducible repeat (first | refine blk_drewN ?_ _ | refine blk_drew ?_ | refine blk_alloc ?_ _)); refine blk_put (cs := #[.int .i64 ((rd_T26 l0 x16_1).f0), .int .i64 ((rd_T26 l0 x16_1).f1), .int .i64 0, .int .i64 0]) ?_ 2 _ rfl; (with_reducible repeat (first | refine blk_drewN ?_ _ | refine blk_drew ?_ | refine blk_alloc ?_ _)); refine blk_put (cs := #[.int .i64 ((rd_T26 l0 x16_1).f0), .int .i64 0, .int .i64 0, .int .i64 0]) ?_ 1 _ rfl; (with_reducible repeat (first | refine blk_drewN ?_ _ | refine blk_drew ?_ | refine blk_alloc ?_ _)); refine blk_put (cs := #[.int .i64 0, .int .i64 0, .int .i64 0, .int .i64 0]) ?_ 0 _ rfl; (with_reducible repeat (first | refine blk_drewN ?_ _ | refine blk_drew ?_ | refine blk_alloc ?_ _)); exact BK131.out) hg (Kd.R_away HO_7.out (fun _ hk => hk.2))); have n3_ := Aside0.mk (hb); have n4_ := Aside0.mk (ho); clear HO_6; clear HO_14; clear BK131; clear HB; clear HO_7; have HO_6 := n0_; have HO_14 := n1_; have BK131 := n2_; have HB := n3_; have HO137 := n4_; clear n0_ n1_ n2_ n3_ n4_; clear ho hb hg hat))
                    go_roundg k1
                    case measure => have := HK1.out; omega
                    case rel => exact ⟨(x6_1), (y135), (wrap64 (x16_1 + 1)), (by first | rfl | (simp; done) | (simp [*]; done)), H', ⟨by have := HK1.out; omega⟩, ⟨by (with_reducible repeat (first | apply Kd.R_alloc | apply Kd.R_drewN | apply Kd.R_drew)); exact Kd.R_mono HO_6.out (fun _ hk => ⟨hk.1.1, hk.2⟩)⟩, ⟨by (with_reducible repeat (first | apply Kd.R_alloc | apply Kd.R_drewN | apply Kd.R_drew)); exact Kd.R_mono HO137.out (fun _ hk => ⟨hk.1, hk.2.1⟩)⟩, ⟨by (with_reducible repeat (first | apply Kd.V_alloc | apply Kd.V_drewN | apply Kd.V_drew)); exact Kd.V_mono HO_14.out (fun _ hk => ⟨hk.1.1, ⟨hk.1.2.1, hk.2⟩⟩)⟩, ⟨by repeat (first | (with_reducible first | exact HB.out | apply below_alloc | apply pw_below_drewN | apply below_drew1 | refine below_set ?_ GE131.out) | exact HB.out)⟩⟩
                  · rw [if_neg c15] at H
                    exact absurd H (by simp)
                · rw [if_neg c14] at H
                  have c14b0 : decide (((rd_T26 l0 x16_1).f3) ≤ a1) = false := decide_eq_false c14
                  clear c14
                  by_cases c19 : x6_1.length < 4398046511104
                  · rw [if_pos c19] at H
                    have LMc19 := Aside0.mk c19
                    clear c19
                    obtain ⟨y138, hy138⟩ : ∃ y_ : List (S26), y_ = (x6_1 ++ [(⟨(rd_T26 l0 x16_1).f0, (rd_T26 l0 x16_1).f1, (rd_T26 l0 x16_1).f2, (rd_T26 l0 x16_1).f3⟩ : S26)]) := ⟨_, rfl⟩
                    replace H : (swap_Late.l0 k1 a1 y138 x7_1 l0 (l0.length : Int) (wrap64 (x16_1 + 1))) = some (r1, r2) := by first | (rw [hy138]; with_reducible exact H) | (have H2_ := (Option.bind_some _ _).symm.trans H; rw [hy138]; with_reducible exact H2_) | (have H2_ := (Option.bind_some _ _).symm.trans H; with_reducible exact H2_) | with_reducible exact H | (rw [hy138]; exact H) | exact H
                    have Ny138 := Aside0.mk hy138
                    clear hy138
                    have H' := Aside0.mk H
                    clear H
                    have p130 : 0 ≤ (x16_1 : Int) := of_decide_eq_true (by first | (with_reducible assumption) | assumption)
                    have q130 : x16_1 < (l0.length : Int) := of_decide_eq_true (by first | (with_reducible assumption) | assumption)
                    obtain ⟨ad130, e130, hx130_0, hx130_1, hx130_2, hx130_3⟩ := at_T26 (Kd.V_reads' HO_14.out).2.2 x16_1 p130 q130
                    cases e130
                    replace p130 := eq_true p130
                    replace q130 := eq_true q130
                    go_wp2_with (first | ((with_reducible refine gate_dst (N := 9) rfl ?_); refine box_event ?hg (N := 9) ?hd (cs := #[.int .i64 0, .int .i64 0, .int .i64 0, .int .i64 0]) (t := 26) ?hr ?_; (case hd => rfl); (case hg => rfl); (case hr => first | (go_simp; done) | (go_simp; rfl)); intro gb131 hg w20 hbox hb; have n0_ := Aside0.mk (Kd.R_below (Kd.R_elderB (by (with_reducible repeat (first | apply Kd.R_alloc | apply Kd.R_drewN | apply Kd.R_drew)); exact HO_6.out) gb131 (Nat.le_of_eq hg.symm)) hb); have n1_ := Aside0.mk (Kd.R_below (Kd.R_elderB (by (with_reducible repeat (first | apply Kd.R_alloc | apply Kd.R_drewN | apply Kd.R_drew)); exact HO_7.out) gb131 (Nat.le_of_eq hg.symm)) hb); have n2_ := Aside0.mk (Kd.V_below (Kd.V_elderB (by (with_reducible repeat (first | apply Kd.V_alloc | apply Kd.V_drewN | apply Kd.V_drew)); exact HO_14.out) gb131 (Nat.le_of_eq hg.symm)) hb); have n3_ := Aside0.mk (below_step (by repeat (first | (with_reducible first | exact HB.out | apply below_alloc | apply pw_below_drewN | apply below_drew1) | exact HB.out)) hb); have n4_ := Aside0.mk (hbox); have n5_ := Aside0.mk ((by rw [hg]; exact (below_size (by repeat (first | (with_reducible first | exact HB.out | apply below_alloc | apply pw_below_drewN | apply below_drew1) | exact HB.out))) : w.heap.size ≤ gb131)); have n6_ := Aside0.mk ((by rw [hg]; exact (below_size (by repeat (first | (with_reducible first | exact HB.out | apply below_alloc | apply pw_below_drewN | apply below_drew1) | exact HB.out))) : w.heap.size ≤ gb131)); clear HO_6; clear HO_7; clear HO_14; clear HB; have HO_6 := n0_; have HO_7 := n1_; have HO_14 := n2_; have HB := n3_; have BK131 := n4_; have GW131 := n5_; have GE131 := n6_; clear n0_ n1_ n2_ n3_ n4_ n5_ n6_; clear hb hbox hg; have hcz21_0 : w20.cell? ⟨gb131, 0, none⟩ = some (.int .i64 0) := (blk_cell BK131.out 0).trans rfl; have hcz21_1 : w20.cell? ⟨gb131, 1, none⟩ = some (.int .i64 0) := (blk_cell BK131.out 1).trans rfl; have hcz21_2 : w20.cell? ⟨gb131, 2, none⟩ = some (.int .i64 0) := (blk_cell BK131.out 2).trans rfl; have hcz21_3 : w20.cell? ⟨gb131, 3, none⟩ = some (.int .i64 0) := (blk_cell BK131.out 3).trans rfl; have hfz21_0 := blk_frozen BK131.out 0; have hfz21_1 := blk_frozen BK131.out 1; have hfz21_2 := blk_frozen BK131.out 2; have hfz21_3 := blk_frozen BK131.out 3) | ((with_reducible refine gate_builtin (b := .append) (xs := #[.tmp 33, .tmp 35]) rfl ?_); at_builtin; refine Kd.R_append k26 (w0 := w) w.heap.size rfl (.tmp 33) (.tmp 35) 24 26 (.agg #[(.int .i64 0), (.int .i64 0), (.int .i64 0), (.int .i64 0)]) 32 rfl Try.underlying24 info26 rfl (by decide) (by omega) u6 x6_1 (⟨(rd_T26 l0 x16_1).f0, (rd_T26 l0 x16_1).f1, (rd_T26 l0 x16_1).f2, (rd_T26 l0 x16_1).f3⟩ : S26) [.int .i64 ((rd_T26 l0 x16_1).f0), .int .i64 ((rd_T26 l0 x16_1).f1), .int .i64 ((rd_T26 l0 x16_1).f2), .int .i64 ((rd_T26 l0 x16_1).f3)] (fun k_ => (w.heap.size ≤ k_) ∧ some k_ ≠ (u7 : Value).ownBlock ∧ k_ ≠ gb131) (fun _ => False) rfl (by first | (go_simp; done) | (go_simp; rfl)) ?aP (fun _ hk => hk.elim) ?aF ?aO ?aB ?aS ?aL ?_; (case aP => exact k26_mkM _ _ _ (⟨(rd_T26 l0 x16_1).f0, (rd_T26 l0 x16_1).f1, (rd_T26 l0 x16_1).f2, (rd_T26 l0 x16_1).f3⟩ : S26)); (case aB => exact (by repeat (first | (with_reducible first | exact HB.out | apply below_alloc | apply pw_below_drewN | apply below_drew1 | refine below_set ?_ GE131.out) | exact HB.out))); (case aF => exact (fun k_ hk => ⟨(Nat.le_trans (below_size (by repeat (first | (with_reducible first | exact HB.out | apply below_alloc | apply pw_below_drewN | apply below_drew1 | refine below_set ?_ GE131.out) | exact HB.out))) hk), Kd.fresh' (Kd.R_lt (by (with_reducible repeat (first | apply Kd.R_alloc | apply Kd.R_drewN | apply Kd.R_drew)); exact (Kd.R_mono (Kd.R_far (p := ⟨gb131, 3, none⟩) (Kd.R_far (p := ⟨gb131, 2, none⟩) (Kd.R_far (p := ⟨gb131, 1, none⟩) (Kd.R_far (p := ⟨gb131, 0, none⟩) (Kd.R_mono HO_7.out (fun k_ hk => (⟨hk, hk.2⟩ : _ ∧ k_ ≠ gb131))) (fun _ hk => hk.2) (.int .i64 ((rd_T26 l0 x16_1).f0))) (fun _ hk => hk.2) (.int .i64 ((rd_T26 l0 x16_1).f1))) (fun _ hk => hk.2) (.int .i64 ((rd_T26 l0 x16_1).f2))) (fun _ hk => hk.2) (.int .i64 ((rd_T26 l0 x16_1).f3))) (fun _ h_ => h_.1)))) k_ hk, Kd.freshB (g := gb131) (o := .cells #[.int .i64 ((rd_T26 l0 x16_1).f0), .int .i64 ((rd_T26 l0 x16_1).f1), .int .i64 ((rd_T26 l0 x16_1).f2), .int .i64 ((rd_T26 l0 x16_1).f3)] 26 (0, 0)) (by (with_reducible repeat (first | refine blk_drewN ?_ _ | refine blk_drew ?_ | refine blk_alloc ?_ _)); refine blk_put (cs := #[.int .i64 ((rd_T26 l0 x16_1).f0), .int .i64 ((rd_T26 l0 x16_1).f1), .int .i64 ((rd_T26 l0 x16_1).f2), .int .i64 0]) ?_ 3 _ rfl; (with_reducible repeat (first | refine blk_drewN ?_ _ | refine blk_drew ?_ | refine blk_alloc ?_ _)); refine blk_put (cs := #[.int .i64 ((rd_T26 l0 x16_1).f0), .int .i64 ((rd_T26 l0 x16_1).f1), .int .i64 0, .int .i64 0]) ?_ 2 _ rfl; (with_reducible repeat (first | refine blk_drewN ?_ _ | refine blk_drew ?_ | refine blk_alloc ?_ _)); refine blk_put (cs := #[.int .i64 ((rd_T26 l0 x16_1).f0), .int .i64 0, .int .i64 0, .int .i64 0]) ?_ 1 _ rfl; (with_reducible repeat (first | refine blk_drewN ?_ _ | refine blk_drew ?_ | refine blk_alloc ?_ _)); refine blk_put (cs := #[.int .i64 0, .int .i64 0, .int .i64 0, .int .i64 0]) ?_ 0 _ rfl; (with_reducible repeat (first | refine blk_drewN ?_ _ | refine blk_drew ?_ | refine blk_alloc ?_ _)); exact BK131.out) k_ hk⟩)); (case aO => exact (by (with_reducible repeat (first | apply Kd.R_alloc | apply Kd.R_drewN | apply Kd.R_drew)); exact Kd.R_mono (Kd.R_far (p := ⟨gb131, 3, none⟩) (Kd.R_far (p := ⟨gb131, 2, none⟩) (Kd.R_far (p := ⟨gb131, 1, none⟩) (Kd.R_far (p := ⟨gb131, 0, none⟩) (Kd.R_mono HO_6.out (fun k_ hk => (⟨hk, hk.2⟩ : _ ∧ k_ ≠ gb131))) (fun _ hk => hk.2) (.int .i64 ((rd_T26 l0 x16_1).f0))) (fun _ hk => hk.2) (.int .i64 ((rd_T26 l0 x16_1).f1))) (fun _ hk => hk.2) (.int .i64 ((rd_T26 l0 x16_1).f2))) (fun _ hk => hk.2) (.int .i64 ((rd_T26 l0 x16_1).f3))) (fun _ hk => ⟨hk.1.1.1, ⟨hk.1.1.2, hk.1.2⟩⟩))); (case aS => exact (below_size (by repeat (first | (with_reducible first | exact HB.out | apply below_alloc | apply pw_below_drewN | apply below_drew1 | refine below_set ?_ GE131.out) | exact HB.out)))); (case aL => have := LMc19.out; omega); intro v139 w22 ho hb hg hat; rw [← Ny138.out] at ho; have n0_ := Aside0.mk (Kd.R_after (ok := (fun k_ => (w.heap.size ≤ k_) ∧ k_ ≠ gb131)) (by (with_reducible repeat (first | apply Kd.R_alloc | apply Kd.R_drewN | apply Kd.R_drew)); exact Kd.R_mono (Kd.R_far (p := ⟨gb131, 3, none⟩) (Kd.R_far (p := ⟨gb131, 2, none⟩) (Kd.R_far (p := ⟨gb131, 1, none⟩) (Kd.R_far (p := ⟨gb131, 0, none⟩) (Kd.R_mono HO_7.out (fun k_ hk => (⟨hk, hk.2⟩ : _ ∧ k_ ≠ gb131))) (fun _ hk => hk.2) (.int .i64 ((rd_T26 l0 x16_1).f0))) (fun _ hk => hk.2) (.int .i64 ((rd_T26 l0 x16_1).f1))) (fun _ hk => hk.2) (.int .i64 ((rd_T26 l0 x16_1).f2))) (fun _ hk => hk.2) (.int .i64 ((rd_T26 l0 x16_1).f3))) (fun _ hk => ⟨⟨hk.1.1.1, hk.1.2⟩, hk.1.1.2⟩)) hg hat); have n1_ := Aside0.mk (Kd.V_afterv (ok := (fun k_ => (P0_ k_ ∨ w.heap.size ≤ k_) ∧ some k_ ≠ (u7 : Value).ownBlock ∧ k_ ≠ gb131)) (by (with_reducible repeat (first | apply Kd.V_alloc | apply Kd.V_drewN | apply Kd.V_drew)); exact Kd.V_mono (Kd.V_far (p := ⟨gb131, 3, none⟩) (Kd.V_far (p := ⟨gb131, 2, none⟩) (Kd.V_far (p := ⟨gb131, 1, none⟩) (Kd.V_far (p := ⟨gb131, 0, none⟩) (Kd.V_mono HO_14.out (fun k_ hk => (⟨hk, hk.2⟩ : _ ∧ k_ ≠ gb131))) (fun _ hk => hk.2) (.int .i64 ((rd_T26 l0 x16_1).f0))) (fun _ hk => hk.2) (.int .i64 ((rd_T26 l0 x16_1).f1))) (fun _ hk => hk.2) (.int .i64 ((rd_T26 l0 x16_1).f2))) (fun _ hk => hk.2) (.int .i64 ((rd_T26 l0 x16_1).f3))) (fun _ hk => ⟨⟨hk.1.1.1, ⟨hk.1.1.2.2, hk.1.2⟩⟩, hk.1.1.2.1⟩)) hg hat); have n2_ := Aside0.mk (blk_grown (g := gb131) (o := .cells #[.int .i64 ((rd_T26 l0 x16_1).f0), .int .i64 ((rd_T26 l0 x16_1).f1), .int .i64 ((rd_T26 l0 x16_1).f2), .int .i64 ((rd_T26 l0 x16_1).f3)] 26 (0, 0)) (by (with_reducible repeat (first | refine blk_drewN ?_ _ | refine blk_drew ?_ | refine blk_alloc ?_ _)); refine blk_put (cs := #[.int .i64 ((rd_T26 l0 x16_1).f0), .int .i64 ((rd_T26 l0 x16_1).f1), .int .i64 ((rd_T26 l0 x16_1).f2), .int .i64 0]) ?_ 3 _ rfl; (with_reducible repeat (first | refine blk_drewN ?_ _ | refine blk_drew ?_ | refine blk_alloc ?_ _)); refine blk_put (cs := #[.int .i64 ((rd_T26 l0 x16_1).f0), .int .i64 ((rd_T26 l0 x16_1).f1), .int .i64 0, .int .i64 0]) ?_ 2 _ rfl; (with_reducible repeat (first | refine blk_drewN ?_ _ | refine blk_drew ?_ | refine blk_alloc ?_ _)); refine blk_put (cs := #[.int .i64 ((rd_T26 l0 x16_1).f0), .int .i64 0, .int .i64 0, .int .i64 0]) ?_ 1 _ rfl; (with_reducible repeat (first | refine blk_drewN ?_ _ | refine blk_drew ?_ | refine blk_alloc ?_ _)); refine blk_put (cs := #[.int .i64 0, .int .i64 0, .int .i64 0, .int .i64 0]) ?_ 0 _ rfl; (with_reducible repeat (first | refine blk_drewN ?_ _ | refine blk_drew ?_ | refine blk_alloc ?_ _)); exact BK131.out) hg (Kd.R_away HO_6.out (fun _ hk => hk.2))); have n3_ := Aside0.mk (hb); have n4_ := Aside0.mk (ho); clear HO_7; clear HO_14; clear BK131; clear HB; clear HO_6; have HO_7 := n0_; have HO_14 := n1_; have BK131 := n2_; have HB := n3_; have HO140 := n4_; clear n0_ n1_ n2_ n3_ n4_; clear ho hb hg hat))
                    go_roundg k1
                    case measure => have := HK1.out; omega
                    case rel => exact ⟨(y138), (x7_1), (wrap64 (x16_1 + 1)), (by first | rfl | (simp; done) | (simp [*]; done)), H', ⟨by have := HK1.out; omega⟩, ⟨by (with_reducible repeat (first | apply Kd.R_alloc | apply Kd.R_drewN | apply Kd.R_drew)); exact Kd.R_mono HO140.out (fun _ hk => ⟨hk.1, hk.2.1⟩)⟩, ⟨by (with_reducible repeat (first | apply Kd.R_alloc | apply Kd.R_drewN | apply Kd.R_drew)); exact Kd.R_mono HO_7.out (fun _ hk => ⟨hk.1.1, hk.2⟩)⟩, ⟨by (with_reducible repeat (first | apply Kd.V_alloc | apply Kd.V_drewN | apply Kd.V_drew)); exact Kd.V_mono HO_14.out (fun _ hk => ⟨hk.1.1, ⟨hk.2, hk.1.2.1⟩⟩)⟩, ⟨by repeat (first | (with_reducible first | exact HB.out | apply below_alloc | apply pw_below_drewN | apply below_drew1 | refine below_set ?_ GE131.out) | exact HB.out)⟩⟩
                  · rw [if_neg c19] at H
                    exact absurd H (by simp)
            · rw [if_neg c8] at H
              exact absurd H (by simp)
          · rw [if_neg c7] at H
            exact absurd H (by simp)
        · rw [if_neg c6] at H
          have c6b0 : decide (x16_1 < (l0.length : Int)) = false := decide_eq_false c6
          clear c6
          simp only [Option.some.injEq, Prod.mk.injEq] at H
          obtain ⟨rfl, rfl⟩ := H
          go_wp2
          go_ret2
          exact ⟨_, _, by first | rfl | (simp [errW_none, errW_some] <;> rfl) | (simp [*, errW_none, errW_some] <;> rfl), Kd.V_mono (Kd.R_V (Kd.R_mono (ok' := fun k_ => ((w.heap.size ≤ k_) ∧ some k_ ≠ (u7 : Value).ownBlock)) (by (with_reducible repeat (first | apply Kd.R_alloc | apply Kd.R_drewN | apply Kd.R_drew)); exact HO_6.out) (fun _ h_ => h_))) (fun k_ hk => by first | exact ⟨(.inr (hk.1)), hk.2⟩ | exact (.inr (hk))), by (with_reducible repeat (first | apply Kd.R_alloc | apply Kd.R_drewN | apply Kd.R_drew)); exact Kd.R_mono HO_7.out (fun _ hk => hk.1), by repeat (first | (with_reducible first | exact HB.out | apply below_alloc | apply pw_below_drewN | apply below_drew1) | exact HB.out)⟩
  · replace c4 := Bool.eq_false_iff.mpr c4
    subst c4
    have H1 : (some (l0, ([] : List (S26)))) = some (r1, r2) := by rw [if_neg (show ¬ (false = true) by decide)] at H; exact H
    clear H
    have H := H1
    clear H1
    simp only [Option.some.injEq, Prod.mk.injEq] at H
    obtain ⟨rfl, rfl⟩ := H
    go_enter Try.func10, Try.ntmps10
    go_wp2_with (first | ((with_reducible refine gate_callee (f := 14) rfl ?_); refine goesL_ (some 11) rfl rfl Try.func14 (by kernel_rfl) rfl #[.slice A0 l0.length c0] rfl (by (try simp only [List.map_toArray, List.map_cons, List.map_nil]); first | done | rfl | (simp only [List.length_drop, List.length_take]; rfl)) ?_; (with_reducible refine (swap_Right.calls k _ _ l0 false _ ?side1 ?side2 A3.out).mono ?_); (case side1 => repeat (first | exact (Kd.V_reads' HO0.out).2.2 | (with_reducible refine Kd.C_alloc ?_ _) | (with_reducible refine Kd.C_drewN ?_ _) | (with_reducible refine Kd.C_drew ?_))); (case side2 => exact (Kd.V_reads' HO0.out).2.1); rintro e w23 ⟨rfl, hb⟩; refine ⟨_, rfl, ?_⟩; have n0_ := Aside0.mk (Kd.V_below (by (with_reducible repeat (first | apply Kd.V_alloc | apply Kd.V_drewN | apply Kd.V_drew)); exact HO0.out) hb); have n1_ := Aside0.mk (below_step (by repeat (first | (with_reducible first | exact HB.out | apply below_alloc | apply pw_below_drewN | apply below_drew1) | exact HB.out)) hb); clear HO0; clear HB; have HO0 := n0_; have HB := n1_; clear n0_ n1_; (try clear hb); (try clear hb2); (try clear hk); (try clear hi)))
    go_ret2
    exact ⟨_, _, by first | rfl | (simp [errW_none, errW_some] <;> rfl) | (simp [*, errW_none, errW_some] <;> rfl), by (with_reducible repeat (first | apply Kd.V_alloc | apply Kd.V_drewN | apply Kd.V_drew)); exact Kd.V_mono HO0.out (fun _ hk => ⟨hk, (by simp [Value.ownBlock])⟩), by first | exact Kd.R_nil _ _ _ _ _ | exact Kd.N_nil _ _ _ _ _ | exact Kd.V_nil _ _ _ _ _ | exact Kd.Q_nil _ _ _ _ _ | exact Kd.S_nil _ _ _ _ _, by repeat (first | (with_reducible first | exact HB.out | apply below_alloc | apply pw_below_drewN | apply below_drew1) | exact HB.out)⟩

/-! ### swap_Put_1: function 22 (by hand) -/
def swap_Put_1.p (q0 : Int) (q1 : Int) (q2 : Int) (q3 : Int) (x : S26) : Bool := swap_Meet.b x.f0 x.f1 x.f2 x.f3 q0 q1 q2 q3
set_option maxHeartbeats 8000000 in
set_option maxRecDepth 100000 in
theorem swap_Put_1.calls (x : S26) (g : Nat) (q0 : Int) (q1 : Int) (q2 : Int) (q3 : Int) (w : World) (hb : w.heap[g]? = some (.cells #[.int .i64 q0, .int .i64 q1, .int .i64 q2, .int .i64 q3] 26 (0, 0))) :
    Calls Try.prog 22 #[.agg #[.int .i64 x.f0, .int .i64 x.f1, .int .i64 x.f2, .int .i64 x.f3], .pointer (some ⟨g, 0, none⟩)] w fun e w' => e = .returned (.bool (swap_Put_1.p q0 q1 q2 q3 x)) ∧ Below w.heap.size w w' := by
  have hlt : g < w.heap.size := blk_lt hb
  have hc0 := blk_cell hb 0
  have hf0 := blk_frozen hb 0
  have hc1 := blk_cell hb 1
  have hf1 := blk_frozen hb 1
  have hc2 := blk_cell hb 2
  have hf2 := blk_frozen hb 2
  have hc3 := blk_cell hb 3
  have hf3 := blk_frozen hb 3
  have HM := Aside0.mk (swap_Meet.tells x.f0 x.f1 x.f2 x.f3 q0 q1 q2 q3)
  clear hb
  go_enter Try.func22, Try.ntmps22
  go_wp2_with (go_at_call 13; (refine (swap_Meet.calls x.f0 x.f1 x.f2 x.f3 q0 q1 q2 q3 _ _ HM.out).mono ?_); rintro e w2 ⟨rfl, hb⟩; have HB2 := Aside0.mk hb; clear hb)
  go_ret
  exact ⟨rfl, below_step ((Below.refl _ _).alloc (Nat.le_refl _) _) (HB2.out)⟩

/-! ### idx_swap_Put_1: function 21 over 22 (by hand) -/
def idx_swap_Put_1.f (l0 : List (S26)) (q0 : Int) (q1 : Int) (q2 : Int) (q3 : Int) : Option (Int) := some (Go.Proofs.YtpmcoehggajmcaaG.idxBy (swap_Put_1.p q0 q1 q2 q3) l0)
set_option maxHeartbeats 8000000 in
set_option maxRecDepth 100000 in
theorem idx_swap_Put_1.calls (A0 : Option Addr) (c0 : Nat) (l0 : List (S26)) (g : Nat) (q0 : Int) (q1 : Int) (q2 : Int) (q3 : Int) (r : Int) (w : World) (hr0 : Kd.C k26 w A0 l0.length l0) (hc0 : l0.length ≤ c0) (hb0 : w.heap[g]? = some (.cells #[.int .i64 q0, .int .i64 q1, .int .i64 q2, .int .i64 q3] 26 (0, 0))) (h : idx_swap_Put_1.f l0 q0 q1 q2 q3 = some r) :
    Calls Try.prog 21 #[.slice A0 l0.length c0, .func (.func 22) #[] #[.pointer (some ⟨g, 0, none⟩)]] w fun e w' => e = .returned (.int .i64 r) ∧ Below w.heap.size w w' := by
  obtain rfl := Option.some.inj h
  clear h
  have HR := Aside0.mk hr0
  have HM := Aside0.mk hr0.2.1
  have HC := Aside0.mk hc0
  have HBX := Aside0.mk hb0
  clear hr0 hc0 hb0
  have hm := HM.out
  go_enter Try.func21, Try.ntmps21
  go_wp2
  go_loopw [8] (fun v8 wr => ∃ j : Nat, v8 = .int .i64 (j : Int) ∧ j ≤ l0.length ∧ Aside0 (∀ (i : Nat) (y : S26), i < j → l0[i]? = some y → swap_Put_1.p q0 q1 q2 q3 y = false) ∧ Aside0 (Below w.heap.size w wr)) (fun v8 _ => (l0.length - (intOf v8).toNat))
  case atStart => exact ⟨0, rfl, Nat.zero_le _, ⟨fun i y hi => absurd hi (by omega)⟩, ⟨Below.refl _ _⟩⟩
  case round =>
    obtain ⟨j, rfl, hj, HN, HB⟩ := hrel
    by_cases hlt : j < l0.length
    · obtain ⟨ad, e, h0, h1, h2, h3⟩ := at_T26 HR.out (j : Int) (by omega) (by omega)
      cases e
      simp only [Int.toNat_natCast] at h0 h1 h2 h3
      have hx : l0[j]? = some (rd_T26 l0 (j : Int)) := by
        unfold rd_T26
        rw [Int.toNat_natCast, List.getD_eq_getElem?_getD, List.getElem?_eq_getElem hlt]
        rfl
      have HX := Aside0.mk hx
      clear hx
      replace h0 := pw_cell_below HB.out h0
      replace h1 := pw_cell_below HB.out h1
      replace h2 := pw_cell_below HB.out h2
      replace h3 := pw_cell_below HB.out h3
      have hbx := Aside0.mk (blk_below HBX.out HB.out)
      have hq0_ : (0 : Int) ≤ (j : Int) := by omega
      by_cases hp : swap_Put_1.p q0 q1 q2 q3 (rd_T26 l0 (j : Int)) = true
      · go_wp2_with (go_at_call 22; (with_reducible refine (swap_Put_1.calls (rd_T26 l0 (j : Int)) g q0 q1 q2 q3 _ ?side1).mono ?_); (case side1 => first | exact hbx.out | exact blk_drewN hbx.out _ | exact blk_drew hbx.out); rintro e w2 ⟨rfl, hb⟩; have HB2 := Aside0.mk hb; clear hb)
        go_ret
        exact ⟨by rw [Go.Proofs.YtpmcoehggajmcaaG.idxBy_some HX.out hp HN.out]; rfl, below_step HB.out HB2.out⟩
      · have hpf : swap_Put_1.p q0 q1 q2 q3 (rd_T26 l0 (j : Int)) = false := by simpa using hp
        clear hp
        go_wp2_with (go_at_call 22; (with_reducible refine (swap_Put_1.calls (rd_T26 l0 (j : Int)) g q0 q1 q2 q3 _ ?side1).mono ?_); (case side1 => first | exact hbx.out | exact blk_drewN hbx.out _ | exact blk_drew hbx.out); rintro e w2 ⟨rfl, hb⟩; have HB2 := Aside0.mk hb; clear hb)
        go_roundw
        case rel => exact ⟨j + 1, by go_num, by omega, ⟨fun i y hi hy => by
          rcases Nat.lt_succ_iff_lt_or_eq.1 hi with h | h
          · exact HN.out i y h hy
          · subst h; rw [HX.out] at hy; injection hy with hy; rw [← hy]; exact hpf⟩, ⟨below_step HB.out HB2.out⟩⟩
        case measure => simp [intOf]; omega
    · have hjl : j = l0.length := by omega
      subst hjl
      go_wp2
      go_ret
      exact ⟨by rw [Go.Proofs.YtpmcoehggajmcaaG.idxBy_none (fun i x hx => HN.out i x (List.getElem?_eq_some_iff.1 hx).1 hx)]; rfl, HB.out⟩

end Go.Proofs.Ytpmcoehggajmcaa.PSwapBoth
