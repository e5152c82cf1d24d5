/- Lean functions that say what functions of the given program compute, and proofs by walking the code that each call does just that; no condition but those that each statement names. -/
import Derived.Test.YthbcajkphkdnmaaPSemaLeavesx0
import Derived.Test.YthbcajkphkdnmaaPSemaLeavesx6
import Derived.Test.YthbcajkphkdnmaaPSemaLeavesx8
import Derived.Test.YthbcajkphkdnmaaPSemaLeavesx9
namespace Go.Proofs.Ythbcajkphkdnmaa.PSemaLeaves
open Go.RowKit Go.Proofs.YthbcajkphkdnmaaW.PrintWords Go.Proofs.YthbcajkphkdnmaaW.PrintLast Go.Proofs.YthbcajkphkdnmaaW.PrintMore
attribute [local go_sem] max2_int min2_int max_two min_two max_three min_three max_four min_four   -- for this text's walks alone
set_option linter.unusedVariables false
set_option linter.unusedSimpArgs false

/-! ### handshakerlaw18_SemaLeaves: function 6 -/
def handshakerlaw18_SemaLeaves.f (k : Nat) (a0_0 : Int) (a0_1 : Int) (l0_2 : List (S50)) (a1 : Int) (a2 : Int) : Option (Bool) := if (l0_2.length : Int) > 30 then ((handshakerlaw18_awake.f k).bind fun t267 => (some t267)) else ((sema_Take.f k a0_0 a0_1 l0_2 a1 a2).bind fun bt268 => (if bt268.2.2.2.2 = 0 then (if bt268.2.2.2.1 = true then ((sema_Give.f k bt268.1 bt268.2.1 bt268.2.2.1 a2).bind fun bt288 => (if bt288.2.2.2.2 = 0 then (if (bt288.2.2.2.1.length : Int) = 0 then ((handshakerlaw18_Ref.f k bt288.1 bt288.2.1 bt288.2.2.1).bind fun bt298 => ((handshakerlaw18_Ref.f k a0_0 a0_1 l0_2).bind fun bt303 => ((handshakerref18_Same.f k bt298.1 bt298.2.1 bt298.2.2 bt303.1 bt303.2.1 bt303.2.2).bind fun t308 => (if t308 = true then ((handshakerlaw18_awake.f k).bind fun t309 => (some t309)) else (none))))) else (none)) else (none))) else ((sema_Leave.f k bt268.1 bt268.2.1 bt268.2.2.1 a1).bind fun bt310 => (if bt310.2.2.2.2 = 0 then (if (bt310.2.2.2.1.length : Int) = 0 then ((handshakerlaw18_Ref.f k bt310.1 bt310.2.1 bt310.2.2.1).bind fun bt320 => ((handshakerlaw18_Ref.f k a0_0 a0_1 l0_2).bind fun bt325 => ((handshakerref18_Same.f k bt320.1 bt320.2.1 bt320.2.2 bt325.1 bt325.2.1 bt325.2.2).bind fun t330 => (if t330 = true then ((handshakerlaw18_awake.f k).bind fun t331 => (some t331)) else (none))))) else (none)) else (none)))) else (if bt268.2.2.2.1 = true then (none) else ((handshakerlaw18_Ref.f k bt268.1 bt268.2.1 bt268.2.2.1).bind fun bt276 => ((handshakerlaw18_Ref.f k a0_0 a0_1 l0_2).bind fun bt281 => ((handshakerref18_Same.f k bt276.1 bt276.2.1 bt276.2.2 bt281.1 bt281.2.1 bt281.2.2).bind fun t286 => (if t286 = true then ((handshakerlaw18_awake.f k).bind fun t287 => (some t287)) else (none))))))))
theorem handshakerlaw18_SemaLeaves.mono : ∀ a0 a1 a2 a3 a4 k, LeO (handshakerlaw18_SemaLeaves.f k a0 a1 a2 a3 a4) (handshakerlaw18_SemaLeaves.f (k + 1) a0 a1 a2 a3 a4) := by
  intro a0 a1 a2 a3 a4 k
  unfold handshakerlaw18_SemaLeaves.f
  repeat' first
      | (with_reducible exact handshakerlaw18_Ref.mono _ _ _ _)
      | (with_reducible exact handshakerlaw18_awake.mono _)
      | (with_reducible exact handshakerref18_Same.mono _ _ _ _ _ _ _)
      | (with_reducible exact sema_Give.mono _ _ _ _ _)
      | (with_reducible exact sema_Leave.mono _ _ _ _ _)
      | (with_reducible exact sema_Take.mono _ _ _ _ _ _)
      | (with_reducible exact LeO.refl _)
      | (with_reducible exact LeO.none _)
      | (with_reducible refine LeO.ite ?_ ?_)
      | (with_reducible refine LeO.bind ?_ (fun _ => ?_))
      | exact handshakerlaw18_Ref.mono _ _ _ _
      | exact handshakerlaw18_awake.mono _
      | exact handshakerref18_Same.mono _ _ _ _ _ _ _
      | exact sema_Give.mono _ _ _ _ _
      | exact sema_Leave.mono _ _ _ _ _
      | exact sema_Take.mono _ _ _ _ _ _
      | exact LeO.none _
      | refine LeO.ite ?_ ?_
      | refine LeO.bind ?_ (fun _ => ?_)
def handshakerlaw18_SemaLeaves.T5 : Bool × List (List Nat × List Nat) := (true, [([], []), ([0], [0]), ([1], [1]), ([2], [2]), ([3, 2, 2], [2, 3]), ([2], [2]), ([5, 4, 2], [2, 5]), ([4, 6, 6, 2], [2, 4, 6]), ([2, 7], [2, 7]), ([8, 7], [8]), ([9, 9], [9]), ([9, 10], [9, 10]), ([11, 10, 0, 1, 2, 3, 4, 5, 6, 7, 8, 9, 10, 11], [11])])
def handshakerlaw18_SemaLeaves.B5 : List Nat := [0, 1, 3, 7, 15, 7, 63, 127, 255, 511, 1023, 2047, 4095]
theorem handshakerlaw18_SemaLeaves.tab5 : rtab .any (opsOf Try.f6 5) = handshakerlaw18_SemaLeaves.T5 := by kernel_rfl
theorem handshakerlaw18_SemaLeaves.bits5 : waitsOk handshakerlaw18_SemaLeaves.T5.2 handshakerlaw18_SemaLeaves.B5 = true := by kernel_rfl
def handshakerlaw18_SemaLeaves.T8 : Bool × List (List Nat × List Nat) := (true, [([], []), ([0], [0]), ([1], [1]), ([2], [2]), ([3, 2], [2, 3]), ([4, 2], [2, 4]), ([2, 5], [2, 5]), ([6, 2], [6]), ([7], [7]), ([8, 7, 7], [7, 8]), ([7], [7]), ([10, 9, 7], [7, 10]), ([9, 11, 11, 7], [7, 9, 11]), ([7, 12], [7, 12]), ([13, 12], [13]), ([14, 14], [14]), ([14, 15], [14, 15]), ([16, 15, 0, 1, 2, 3, 4, 5, 6, 7, 8, 9, 10, 11, 12, 13, 14, 15, 16], [16])])
def handshakerlaw18_SemaLeaves.B8 : List Nat := [0, 1, 3, 7, 15, 31, 63, 127, 255, 511, 255, 2047, 4095, 8191, 16383, 32767, 65535, 131071]
theorem handshakerlaw18_SemaLeaves.tab8 : rtab .any (opsOf Try.f6 8) = handshakerlaw18_SemaLeaves.T8 := by kernel_rfl
theorem handshakerlaw18_SemaLeaves.bits8 : waitsOk handshakerlaw18_SemaLeaves.T8.2 handshakerlaw18_SemaLeaves.B8 = true := by kernel_rfl
def handshakerlaw18_SemaLeaves.T10 : Bool × List (List Nat × List Nat) := (true, [([], []), ([0], [0]), ([1], [1]), ([2], [2]), ([3, 2], [2, 3]), ([4, 2], [2, 4]), ([2, 5], [2, 5]), ([6, 2], [6]), ([7], [7]), ([8, 7, 7], [7, 8]), ([7], [7]), ([10, 9, 7], [7, 10]), ([9, 11, 11, 7], [7, 9, 11]), ([7, 12], [7, 12]), ([13, 12], [13]), ([14, 14], [14]), ([14, 15], [14, 15]), ([16, 15, 0, 1, 2, 3, 4, 5, 6, 7, 8, 9, 10, 11, 12, 13, 14, 15, 16], [16])])
def handshakerlaw18_SemaLeaves.B10 : List Nat := [0, 1, 3, 7, 15, 31, 63, 127, 255, 511, 255, 2047, 4095, 8191, 16383, 32767, 65535, 131071]
theorem handshakerlaw18_SemaLeaves.tab10 : rtab .any (opsOf Try.f6 10) = handshakerlaw18_SemaLeaves.T10 := by kernel_rfl
theorem handshakerlaw18_SemaLeaves.bits10 : waitsOk handshakerlaw18_SemaLeaves.T10.2 handshakerlaw18_SemaLeaves.B10 = true := by kernel_rfl
set_option maxHeartbeats 8000000 in
set_option maxRecDepth 100000 in
theorem handshakerlaw18_SemaLeaves.calls (k : Nat) (a0_0 : Int) (a0_1 : Int) (A0_2 : Option Addr) (c0_2 : Nat) (l0_2 : List (S50)) (a1 : Int) (a2 : Int) (r : Bool) (w : World) (hr0_2 : Kd.C k50 w A0_2 l0_2.length l0_2) (hc0_2 : l0_2.length ≤ c0_2) (h : handshakerlaw18_SemaLeaves.f k a0_0 a0_1 l0_2 a1 a2 = some r) :
    Calls Try.prog 6 #[.agg #[.int .i64 a0_0, .int .i64 a0_1, .slice A0_2 l0_2.length c0_2], .int .i64 a1, .int .i64 a2] w fun e w' => e = .returned (.bool r) ∧ Below w.heap.size w w' := by
  have hu24 := Try.underlying24
  have HR0_2 := Aside0.mk hr0_2
  have HC0_2 := Aside0.mk hc0_2
  clear hr0_2 hc0_2
  have HB := Aside0.mk (Below.refl w.heap.size w)
  have H : (if (l0_2.length : Int) > 30 then ((handshakerlaw18_awake.f k).bind fun t267 => (some t267)) else ((sema_Take.f k a0_0 a0_1 l0_2 a1 a2).bind fun bt268 => (if bt268.2.2.2.2 = 0 then (if bt268.2.2.2.1 = true then ((sema_Give.f k bt268.1 bt268.2.1 bt268.2.2.1 a2).bind fun bt288 => (if bt288.2.2.2.2 = 0 then (if (bt288.2.2.2.1.length : Int) = 0 then ((handshakerlaw18_Ref.f k bt288.1 bt288.2.1 bt288.2.2.1).bind fun bt298 => ((handshakerlaw18_Ref.f k a0_0 a0_1 l0_2).bind fun bt303 => ((handshakerref18_Same.f k bt298.1 bt298.2.1 bt298.2.2 bt303.1 bt303.2.1 bt303.2.2).bind fun t308 => (if t308 = true then ((handshakerlaw18_awake.f k).bind fun t309 => (some t309)) else (none))))) else (none)) else (none))) else ((sema_Leave.f k bt268.1 bt268.2.1 bt268.2.2.1 a1).bind fun bt310 => (if bt310.2.2.2.2 = 0 then (if (bt310.2.2.2.1.length : Int) = 0 then ((handshakerlaw18_Ref.f k bt310.1 bt310.2.1 bt310.2.2.1).bind fun bt320 => ((handshakerlaw18_Ref.f k a0_0 a0_1 l0_2).bind fun bt325 => ((handshakerref18_Same.f k bt320.1 bt320.2.1 bt320.2.2 bt325.1 bt325.2.1 bt325.2.2).bind fun t330 => (if t330 = true then ((handshakerlaw18_awake.f k).bind fun t331 => (some t331)) else (none))))) else (none)) else (none)))) else (if bt268.2.2.2.1 = true then (none) else ((handshakerlaw18_Ref.f k bt268.1 bt268.2.1 bt268.2.2.1).bind fun bt276 => ((handshakerlaw18_Ref.f k a0_0 a0_1 l0_2).bind fun bt281 => ((handshakerref18_Same.f k bt276.1 bt276.2.1 bt276.2.2 bt281.1 bt281.2.1 bt281.2.2).bind fun t286 => (if t286 = true then ((handshakerlaw18_awake.f k).bind fun t287 => (some t287)) else (none))))))))) = some r := h
  clear h
  by_cases c4 : (l0_2.length : Int) > 30
  · rw [if_pos c4] at H
    have c4b0 : decide (30 < (l0_2.length : Int)) = true := decide_eq_true c4
    have c4b1 : decide (30 < l0_2.length) = true := decide_eq_true (by omega)
    clear c4
    replace H := Option.bind_eq_some_iff.mp H
    obtain ⟨t267, A50, H⟩ := H
    replace H : (some t267) = some r := H
    have A5 := Aside0.mk A50
    clear A50
    obtain rfl := Option.some.inj H
    go_enter Try.func6, Try.ntmps6
    go_wp2_with (first | ((with_reducible refine gate_dst (N := 3) rfl ?_); (try (refine gate_guard (by rfl) ?_; dsimp only)); refine box_event ?hg (N := 3) ?hd (cs := #[.int .i64 a0_0, .int .i64 a0_1, .slice A0_2 l0_2.length c0_2]) (t := 24) ?hr ?_; (case hd => rfl); (case hg => rfl); (case hr => first | (go_simp; done) | (go_simp; rfl)); intro gb266 hg w6 hbox hb; have n0_ := Aside0.mk (below_step (zc0 HB) hb); have n1_ := Aside0.mk (hbox); have n2_ := Aside0.mk ((by rw [hg]; exact (below_size (zc0 HB)) : w.heap.size ≤ gb266)); have n3_ := Aside0.mk ((by rw [hg]; exact (below_size (zc0 HB)) : w.heap.size ≤ gb266)); clear HB; have HB := n0_; have BK266 := n1_; have GW266 := n2_; have GE266 := n3_; clear n0_ n1_ n2_ n3_; clear hb hbox hg; have hcz7_0 : w6.cell? ⟨gb266, 0, none⟩ = some (.int .i64 a0_0) := (blk_cell BK266.out 0).trans rfl; have hcz7_1 : w6.cell? ⟨gb266, 1, none⟩ = some (.int .i64 a0_1) := (blk_cell BK266.out 1).trans rfl; have hcz7_2 : w6.cell? ⟨gb266, 2, none⟩ = some (.slice A0_2 l0_2.length c0_2) := (blk_cell BK266.out 2).trans rfl; have hfz7_0 := blk_frozen BK266.out 0; have hfz7_1 := blk_frozen BK266.out 1; have hfz7_2 := blk_frozen BK266.out 2) | ((with_reducible refine gate_callee (f := 9) rfl ?_); refine goesL_ (some 20) rfl rfl Try.func9 (by kernel_rfl) rfl #[] rfl zm ?_; (with_reducible refine (handshakerlaw18_awake.calls k  t267 _ A5.out).mono ?_); rintro e w8 ⟨rfl, hb⟩; refine ⟨_, rfl, ?_⟩; have n0_ := Aside0.mk (blk_below (g := gb266) (o := .cells #[.int .i64 a0_0, .int .i64 a0_1, .slice A0_2 l0_2.length c0_2] 24 (0, 0)) (zb BK266) hb); have n1_ := Aside0.mk (below_step (zc1 HB GE266) hb); clear BK266; clear HB; have BK266 := n0_; have HB := n1_; clear n0_ n1_; (try clear hb); (try clear hb2); (try clear hk); (try clear hi)))
    go_ret
    exact ⟨by first | rfl | (simp [errW_none, errW_some] <;> rfl) | (simp [*, errW_none, errW_some] <;> rfl), by repeat (first | (with_reducible first | exact HB.out | apply below_alloc | apply pw_below_drewN | apply below_drew1 | refine below_set ?_ GE266.out) | exact HB.out)⟩
  · rw [if_neg c4] at H
    have c4b0 : decide (30 < (l0_2.length : Int)) = false := decide_eq_false c4
    have c4b1 : decide (30 < l0_2.length) = false := decide_eq_false (by omega)
    clear c4
    replace H := Option.bind_eq_some_iff.mp H
    obtain ⟨⟨t268, t269, t270, t273, t274⟩, A90, H⟩ := H
    replace H : (if t274 = 0 then (if t273 = true then ((sema_Give.f k t268 t269 t270 a2).bind fun bt288 => (if bt288.2.2.2.2 = 0 then (if (bt288.2.2.2.1.length : Int) = 0 then ((handshakerlaw18_Ref.f k bt288.1 bt288.2.1 bt288.2.2.1).bind fun bt298 => ((handshakerlaw18_Ref.f k a0_0 a0_1 l0_2).bind fun bt303 => ((handshakerref18_Same.f k bt298.1 bt298.2.1 bt298.2.2 bt303.1 bt303.2.1 bt303.2.2).bind fun t308 => (if t308 = true then ((handshakerlaw18_awake.f k).bind fun t309 => (some t309)) else (none))))) else (none)) else (none))) else ((sema_Leave.f k t268 t269 t270 a1).bind fun bt310 => (if bt310.2.2.2.2 = 0 then (if (bt310.2.2.2.1.length : Int) = 0 then ((handshakerlaw18_Ref.f k bt310.1 bt310.2.1 bt310.2.2.1).bind fun bt320 => ((handshakerlaw18_Ref.f k a0_0 a0_1 l0_2).bind fun bt325 => ((handshakerref18_Same.f k bt320.1 bt320.2.1 bt320.2.2 bt325.1 bt325.2.1 bt325.2.2).bind fun t330 => (if t330 = true then ((handshakerlaw18_awake.f k).bind fun t331 => (some t331)) else (none))))) else (none)) else (none)))) else (if t273 = true then (none) else ((handshakerlaw18_Ref.f k t268 t269 t270).bind fun bt276 => ((handshakerlaw18_Ref.f k a0_0 a0_1 l0_2).bind fun bt281 => ((handshakerref18_Same.f k bt276.1 bt276.2.1 bt276.2.2 bt281.1 bt281.2.1 bt281.2.2).bind fun t286 => (if t286 = true then ((handshakerlaw18_awake.f k).bind fun t287 => (some t287)) else (none))))))) = some r := H
    have A9 := Aside0.mk A90
    clear A90
    by_cases c10 : t274 = 0
    · rw [if_pos c10] at H
      have c10b0 : (t274 == 0) = true := beq_iff_eq.mpr c10
      have c10b1 : (t274 != 0) = false := bne_eq_false_iff_eq.mpr c10
      clear c10
      by_cases c11 : t273 = true
      · subst c11
        have H1 : ((sema_Give.f k t268 t269 t270 a2).bind fun bt288 => (if bt288.2.2.2.2 = 0 then (if (bt288.2.2.2.1.length : Int) = 0 then ((handshakerlaw18_Ref.f k bt288.1 bt288.2.1 bt288.2.2.1).bind fun bt298 => ((handshakerlaw18_Ref.f k a0_0 a0_1 l0_2).bind fun bt303 => ((handshakerref18_Same.f k bt298.1 bt298.2.1 bt298.2.2 bt303.1 bt303.2.1 bt303.2.2).bind fun t308 => (if t308 = true then ((handshakerlaw18_awake.f k).bind fun t309 => (some t309)) else (none))))) else (none)) else (none))) = some r := by rw [if_pos rfl] at H; exact H
        clear H
        have H := H1
        clear H1
        replace H := Option.bind_eq_some_iff.mp H
        obtain ⟨⟨t288, t289, t290, t293, t296⟩, A120, H⟩ := H
        replace H : (if t296 = 0 then (if (t293.length : Int) = 0 then ((handshakerlaw18_Ref.f k t288 t289 t290).bind fun bt298 => ((handshakerlaw18_Ref.f k a0_0 a0_1 l0_2).bind fun bt303 => ((handshakerref18_Same.f k bt298.1 bt298.2.1 bt298.2.2 bt303.1 bt303.2.1 bt303.2.2).bind fun t308 => (if t308 = true then ((handshakerlaw18_awake.f k).bind fun t309 => (some t309)) else (none))))) else (none)) else (none)) = some r := H
        have A12 := Aside0.mk A120
        clear A120
        by_cases c13 : t296 = 0
        · rw [if_pos c13] at H
          have c13b0 : (t296 == 0) = true := beq_iff_eq.mpr c13
          have c13b1 : (t296 != 0) = false := bne_eq_false_iff_eq.mpr c13
          clear c13
          by_cases c14 : (t293.length : Int) = 0
          · rw [if_pos c14] at H
            have c14b0 : ((t293.length : Int) == 0) = true := beq_iff_eq.mpr c14
            have c14b1 : ((t293.length : Int) != 0) = false := bne_eq_false_iff_eq.mpr c14
            clear c14
            replace H := Option.bind_eq_some_iff.mp H
            obtain ⟨⟨t298, t299, t300⟩, A150, H⟩ := H
            replace H : ((handshakerlaw18_Ref.f k a0_0 a0_1 l0_2).bind fun bt303 => ((handshakerref18_Same.f k t298 t299 t300 bt303.1 bt303.2.1 bt303.2.2).bind fun t308 => (if t308 = true then ((handshakerlaw18_awake.f k).bind fun t309 => (some t309)) else (none)))) = some r := H
            have A15 := Aside0.mk A150
            clear A150
            replace H := Option.bind_eq_some_iff.mp H
            obtain ⟨⟨t303, t304, t305⟩, A160, H⟩ := H
            replace H : ((handshakerref18_Same.f k t298 t299 t300 t303 t304 t305).bind fun t308 => (if t308 = true then ((handshakerlaw18_awake.f k).bind fun t309 => (some t309)) else (none))) = some r := H
            have A16 := Aside0.mk A160
            clear A160
            replace H := Option.bind_eq_some_iff.mp H
            obtain ⟨t308, A170, H⟩ := H
            replace H : (if t308 = true then ((handshakerlaw18_awake.f k).bind fun t309 => (some t309)) else (none)) = some r := H
            have A17 := Aside0.mk A170
            clear A170
            by_cases c18 : t308 = true
            · subst c18
              have H1 : ((handshakerlaw18_awake.f k).bind fun t309 => (some t309)) = some r := by rw [if_pos rfl] at H; exact H
              clear H
              have H := H1
              clear H1
              replace H := Option.bind_eq_some_iff.mp H
              obtain ⟨t309, A190, H⟩ := H
              replace H : (some t309) = some r := H
              have A19 := Aside0.mk A190
              clear A190
              obtain rfl := Option.some.inj H
              go_enter Try.func6, Try.ntmps6
              try go_wp2_with (first | ((with_reducible refine gate_dst (N := 3) rfl ?_); (try (refine gate_guard (by rfl) ?_; dsimp only)); refine box_event ?hg (N := 3) ?hd (cs := #[.int .i64 a0_0, .int .i64 a0_1, .slice A0_2 l0_2.length c0_2]) (t := 24) ?hr ?_; (case hd => rfl); (case hg => rfl); (case hr => first | (go_simp; done) | (go_simp; rfl)); intro gb266 hg w20 hbox hb; have n0_ := Aside0.mk (below_step (zc0 HB) hb); have n1_ := Aside0.mk (hbox); have n2_ := Aside0.mk ((by rw [hg]; exact (below_size (zc0 HB)) : w.heap.size ≤ gb266)); have n3_ := Aside0.mk ((by rw [hg]; exact (below_size (zc0 HB)) : w.heap.size ≤ gb266)); clear HB; have HB := n0_; have BK266 := n1_; have GW266 := n2_; have GE266 := n3_; clear n0_ n1_ n2_ n3_; clear hb hbox hg; have hcz21_0 : w20.cell? ⟨gb266, 0, none⟩ = some (.int .i64 a0_0) := (blk_cell BK266.out 0).trans rfl; have hcz21_1 : w20.cell? ⟨gb266, 1, none⟩ = some (.int .i64 a0_1) := (blk_cell BK266.out 1).trans rfl; have hcz21_2 : w20.cell? ⟨gb266, 2, none⟩ = some (.slice A0_2 l0_2.length c0_2) := (blk_cell BK266.out 2).trans rfl; have hfz21_0 := blk_frozen BK266.out 0; have hfz21_1 := blk_frozen BK266.out 1; have hfz21_2 := blk_frozen BK266.out 2) | ((with_reducible refine gate_callee (f := 11) rfl ?_); refine goesL_ (some 25) rfl rfl Try.func11 (by kernel_rfl) rfl #[.agg #[.int .i64 a0_0, .int .i64 a0_1, .slice A0_2 l0_2.length c0_2], .int .i64 a1, .int .i64 a2] rfl zm ?_; (with_reducible refine (sema_Take.calls k a0_0 a0_1 (fun k_ => k_ < w.heap.size) _ _ l0_2 a1 a2 t268 t269 t270 true t274 _ ?side1 A9.out).mono ?_); (case side1 => exact Kd.V_mk HC0_2.out (Kd.F_below (Kd.C_F k50_heap HR0_2.out) (zc1 HB GE266))); rintro e w22 ⟨v271, rfl, ho0, hb⟩; refine ⟨_, rfl, ?_⟩; have n0_ := Aside0.mk (Kd.V_lower (Kd.V_mono (ok' := fun k_ => k_ ≠ gb266) ho0 (fun k_ hk_ => Or.elim hk_ (fun hs_ => fun e_ => Nat.not_le.2 hs_ (by rw [e_]; exact GW266.out)) (fun hn_ => (Kd.freshB (g := gb266) (o := .cells #[.int .i64 a0_0, .int .i64 a0_1, .slice A0_2 l0_2.length c0_2] 24 (0, 0)) (zb BK266) k_ hn_)))) (below_size (zc1 HB GE266))); have n1_ := Aside0.mk (blk_below (g := gb266) (o := .cells #[.int .i64 a0_0, .int .i64 a0_1, .slice A0_2 l0_2.length c0_2] 24 (0, 0)) (zb BK266) hb); have n2_ := Aside0.mk (below_step (zc1 HB GE266) hb); clear BK266; clear HB; have HO272 := n0_; have BK266 := n1_; have HB := n2_; clear n0_ n1_ n2_; (try clear hb); (try clear hb2); (try clear hk); (try clear hi); (try clear ho0)) | ((with_reducible refine gate_dst (N := 7) rfl ?_); (try (refine gate_guard (by rfl) ?_; dsimp only)); refine box_event ?hg (N := 7) ?hd (cs := #[.int .i64 0, .int .i64 0, .slice none 0 0]) (t := 24) ?hr ?_; (case hd => rfl); (case hg => rfl); (case hr => first | (go_simp; done) | (go_simp; rfl)); intro gb275 hg w23 hbox hb; have n0_ := Aside0.mk (Kd.V_below (Kd.V_elderB (zV HO272) gb275 (Nat.le_of_eq hg.symm)) hb); have n1_ := Aside0.mk (blk_below (g := gb266) (o := .cells #[.int .i64 a0_0, .int .i64 a0_1, .slice A0_2 l0_2.length c0_2] 24 (0, 0)) (zb BK266) hb); have n2_ := Aside0.mk (below_step (zc1 HB GE266) hb); have n3_ := Aside0.mk (hbox); have n4_ := Aside0.mk ((by rw [hg]; exact (below_size (zc1 HB GE266)) : w.heap.size ≤ gb275)); have n5_ := Aside0.mk ((by rw [hg]; exact (below_size (zc1 HB GE266)) : w.heap.size ≤ gb275)); have n6_ := Aside0.mk ((by rw [hg]; exact Nat.ne_of_lt (blk_lt (g := gb266) (o := .cells #[.int .i64 a0_0, .int .i64 a0_1, .slice A0_2 l0_2.length c0_2] 24 (0, 0)) (zb BK266)) : gb266 ≠ gb275)); have n7_ := Aside0.mk ((by rw [hg]; exact Nat.ne_of_gt (blk_lt (g := gb266) (o := .cells #[.int .i64 a0_0, .int .i64 a0_1, .slice A0_2 l0_2.length c0_2] 24 (0, 0)) (zb BK266)) : gb275 ≠ gb266)); clear HO272; clear BK266; clear HB; have HO272 := n0_; have BK266 := n1_; have HB := n2_; have BK275 := n3_; have GW275 := n4_; have GE275 := n5_; have NB266_275 := n6_; have NB275_266 := n7_; clear n0_ n1_ n2_ n3_ n4_ n5_ n6_ n7_; clear hb hbox hg; have hnb24 := NB275_266.out; have hnc24 := NB266_275.out; have hcz25_0 : w23.cell? ⟨gb275, 0, none⟩ = some (.int .i64 0) := (blk_cell BK275.out 0).trans rfl; have hcz25_1 : w23.cell? ⟨gb275, 1, none⟩ = some (.int .i64 0) := (blk_cell BK275.out 1).trans rfl; have hcz25_2 : w23.cell? ⟨gb275, 2, none⟩ = some (.slice none 0 0) := (blk_cell BK275.out 2).trans rfl; have hfz25_0 := blk_frozen BK275.out 0; have hfz25_1 := blk_frozen BK275.out 1; have hfz25_2 := blk_frozen BK275.out 2; obtain ⟨Ao26, co26, eo26⟩ := Kd.V_slice HO272.out; subst eo26) | ((with_reducible refine gate_store (t := 24) (p := 7) rfl ?_); refine store_event (t := 24) (p := 7) (v := ?vo_w27) (w1 := (((w23.setCell ⟨gb275, 0, none⟩ (.int .i64 t268)).setCell ⟨gb275, 1, none⟩ (.int .i64 t269)).setCell ⟨gb275, 2, none⟩ (.slice Ao26 t270.length co26))) ?hg ?ho ?hn ?hr ?_; (case ho => rfl); (case hg => rfl); (case hn => rfl); (case hr => first | (go_simp; done) | (go_simp; rfl)); intro w27 hw; have n0_ : Aside0 (Kd.V k50 50 w27 w.heap.size (fun k_ => k_ ≠ gb266 ∧ k_ ≠ gb275) (.slice Ao26 t270.length co26) t270) := ⟨(by rw [hw]; exact (by (with_reducible repeat (first | apply Kd.V_alloc | apply Kd.V_drewN | apply Kd.V_drew)); exact Kd.V_mono (Kd.V_far (p := ⟨gb275, 2, none⟩) (Kd.V_far (p := ⟨gb275, 1, none⟩) (Kd.V_far (p := ⟨gb275, 0, none⟩) (Kd.V_mono HO272.out (fun k_ hk => (⟨hk, hk.2⟩ : _ ∧ k_ ≠ gb275))) (fun _ hk => hk.2) (.int .i64 t268)) (fun _ hk => hk.2) (.int .i64 t269)) (fun _ hk => hk.2) (.slice Ao26 t270.length co26)) (fun _ hk => ⟨hk.1.1, hk.1.2⟩)))⟩; have n1_ : Aside0 (w27.heap[gb266]? = some (.cells #[.int .i64 a0_0, .int .i64 a0_1, .slice A0_2 l0_2.length c0_2] 24 (0, 0))) := ⟨(by rw [hw]; exact (by (with_reducible repeat (first | refine blk_drewN ?_ _ | refine blk_drew ?_ | refine blk_alloc ?_ _)); refine blk_far ?_ NB266_275.out _; (with_reducible repeat (first | refine blk_drewN ?_ _ | refine blk_drew ?_ | refine blk_alloc ?_ _)); refine blk_far ?_ NB266_275.out _; (with_reducible repeat (first | refine blk_drewN ?_ _ | refine blk_drew ?_ | refine blk_alloc ?_ _)); refine blk_far ?_ NB266_275.out _; (with_reducible repeat (first | refine blk_drewN ?_ _ | refine blk_drew ?_ | refine blk_alloc ?_ _)); exact BK266.out))⟩; have n2_ : Aside0 (w27.heap[gb275]? = some (.cells #[.int .i64 t268, .int .i64 t269, .slice Ao26 t270.length co26] 24 (0, 0))) := ⟨(by rw [hw]; exact (by (with_reducible repeat (first | refine blk_drewN ?_ _ | refine blk_drew ?_ | refine blk_alloc ?_ _)); refine blk_put (cs := #[.int .i64 t268, .int .i64 t269, .slice none 0 0]) ?_ 2 _ rfl; (with_reducible repeat (first | refine blk_drewN ?_ _ | refine blk_drew ?_ | refine blk_alloc ?_ _)); refine blk_put (cs := #[.int .i64 t268, .int .i64 0, .slice none 0 0]) ?_ 1 _ rfl; (with_reducible repeat (first | refine blk_drewN ?_ _ | refine blk_drew ?_ | refine blk_alloc ?_ _)); refine blk_put (cs := #[.int .i64 0, .int .i64 0, .slice none 0 0]) ?_ 0 _ rfl; (with_reducible repeat (first | refine blk_drewN ?_ _ | refine blk_drew ?_ | refine blk_alloc ?_ _)); exact BK275.out))⟩; have n3_ : Aside0 (Below w.heap.size w w27) := ⟨(by rw [hw]; exact (zc2 HB GE266 GE275))⟩; clear hw; clear HO272; clear BK266; clear BK275; clear HB; have HO272 := n0_; have BK266 := n1_; have BK275 := n2_; have HB := n3_; clear n0_ n1_ n2_ n3_; have hcz28_0 : w27.cell? ⟨gb275, 0, none⟩ = some (.int .i64 t268) := (blk_cell BK275.out 0).trans rfl; have hcz28_1 : w27.cell? ⟨gb275, 1, none⟩ = some (.int .i64 t269) := (blk_cell BK275.out 1).trans rfl; have hcz28_2 : w27.cell? ⟨gb275, 2, none⟩ = some (.slice Ao26 t270.length co26) := (blk_cell BK275.out 2).trans rfl; have hfz28_0 := blk_frozen BK275.out 0; have hfz28_1 := blk_frozen BK275.out 1; have hfz28_2 := blk_frozen BK275.out 2) | ((with_reducible refine gate_callee (f := 13) rfl ?_); refine goesL_ (some 47) rfl rfl Try.func13 (by kernel_rfl) rfl #[.agg #[.int .i64 t268, .int .i64 t269, .slice Ao26 t270.length co26], .int .i64 a2] rfl zm ?_; (with_reducible refine (sema_Give.calls k t268 t269 (fun k_ => (k_ ≠ gb266 ∧ k_ ≠ gb275)) _ _ t270 a2 t288 t289 t290 t293 t296 _ ?side1 A12.out).mono ?_); (case side1 => exact HO272.out); rintro e w29 ⟨v291, v294, rfl, ho0, ho1, hb⟩; refine ⟨_, rfl, ?_⟩; have n0_ := Aside0.mk (Kd.V_elder' (zV HO272) (Kd.R_base ho1) hb); have n1_ := Aside0.mk (Kd.V_lower (Kd.V_mono (ok' := fun k_ => some k_ ≠ (v294 : Value).ownBlock ∧ k_ ≠ gb266 ∧ k_ ≠ gb275) ho0 (fun k_ hk_ => ⟨hk_.2, Or.elim hk_.1 (fun hs_ => hs_.1) (fun hn_ => (Kd.freshB (g := gb266) (o := .cells #[.int .i64 a0_0, .int .i64 a0_1, .slice A0_2 l0_2.length c0_2] 24 (0, 0)) (zb BK266) k_ hn_)), Or.elim hk_.1 (fun hs_ => hs_.2) (fun hn_ => (Kd.freshB (g := gb275) (o := .cells #[.int .i64 t268, .int .i64 t269, .slice Ao26 t270.length co26] 24 (0, 0)) (zb BK275) k_ hn_))⟩)) (below_size (zc2 HB GE266 GE275))); have n2_ := Aside0.mk (Kd.R_lower (Kd.R_mono (ok' := fun k_ => True) ho1 (fun _ hk_ => trivial)) (below_size (zc2 HB GE266 GE275))); have n3_ := Aside0.mk (blk_below (g := gb266) (o := .cells #[.int .i64 a0_0, .int .i64 a0_1, .slice A0_2 l0_2.length c0_2] 24 (0, 0)) (zb BK266) hb); have n4_ := Aside0.mk (blk_below (g := gb275) (o := .cells #[.int .i64 t268, .int .i64 t269, .slice Ao26 t270.length co26] 24 (0, 0)) (zb BK275) hb); have n5_ := Aside0.mk (below_step (zc2 HB GE266 GE275) hb); clear HO272; clear BK266; clear BK275; clear HB; have HO272 := n0_; have HO292 := n1_; have HO295 := n2_; have BK266 := n3_; have BK275 := n4_; have HB := n5_; clear n0_ n1_ n2_ n3_ n4_ n5_; (try clear hb); (try clear hb2); (try clear hk); (try clear hi); (try clear ho0); (try clear ho1)) | ((with_reducible refine gate_dst (N := 10) rfl ?_); (try (refine gate_guard (by rfl) ?_; dsimp only)); refine box_event ?hg (N := 10) ?hd (cs := #[.int .i64 0, .int .i64 0, .slice none 0 0]) (t := 24) ?hr ?_; (case hd => rfl); (case hg => rfl); (case hr => first | (go_simp; done) | (go_simp; rfl)); intro gb297 hg w30 hbox hb; have n0_ := Aside0.mk (Kd.V_below (Kd.V_elderB (zV HO272) gb297 (Nat.le_of_eq hg.symm)) hb); have n1_ := Aside0.mk (Kd.V_below (Kd.V_elderB (zV HO292) gb297 (Nat.le_of_eq hg.symm)) hb); have n2_ := Aside0.mk (Kd.R_below (zR HO295) hb); have n3_ := Aside0.mk (blk_below (g := gb266) (o := .cells #[.int .i64 a0_0, .int .i64 a0_1, .slice A0_2 l0_2.length c0_2] 24 (0, 0)) (zb BK266) hb); have n4_ := Aside0.mk (blk_below (g := gb275) (o := .cells #[.int .i64 t268, .int .i64 t269, .slice Ao26 t270.length co26] 24 (0, 0)) (zb BK275) hb); have n5_ := Aside0.mk (below_step (zc2 HB GE266 GE275) hb); have n6_ := Aside0.mk (hbox); have n7_ := Aside0.mk ((by rw [hg]; exact (below_size (zc2 HB GE266 GE275)) : w.heap.size ≤ gb297)); have n8_ := Aside0.mk ((by rw [hg]; exact (below_size (zc2 HB GE266 GE275)) : w.heap.size ≤ gb297)); have n9_ := Aside0.mk ((by rw [hg]; exact Nat.ne_of_lt (blk_lt (g := gb266) (o := .cells #[.int .i64 a0_0, .int .i64 a0_1, .slice A0_2 l0_2.length c0_2] 24 (0, 0)) (zb BK266)) : gb266 ≠ gb297)); have n10_ := Aside0.mk ((by rw [hg]; exact Nat.ne_of_gt (blk_lt (g := gb266) (o := .cells #[.int .i64 a0_0, .int .i64 a0_1, .slice A0_2 l0_2.length c0_2] 24 (0, 0)) (zb BK266)) : gb297 ≠ gb266)); have n11_ := Aside0.mk ((by rw [hg]; exact Nat.ne_of_lt (blk_lt (g := gb275) (o := .cells #[.int .i64 t268, .int .i64 t269, .slice Ao26 t270.length co26] 24 (0, 0)) (zb BK275)) : gb275 ≠ gb297)); have n12_ := Aside0.mk ((by rw [hg]; exact Nat.ne_of_gt (blk_lt (g := gb275) (o := .cells #[.int .i64 t268, .int .i64 t269, .slice Ao26 t270.length co26] 24 (0, 0)) (zb BK275)) : gb297 ≠ gb275)); clear HO272; clear HO292; clear HO295; clear BK266; clear BK275; clear HB; have HO272 := n0_; have HO292 := n1_; have HO295 := n2_; have BK266 := n3_; have BK275 := n4_; have HB := n5_; have BK297 := n6_; have GW297 := n7_; have GE297 := n8_; have NB266_297 := n9_; have NB297_266 := n10_; have NB275_297 := n11_; have NB297_275 := n12_; clear n0_ n1_ n2_ n3_ n4_ n5_ n6_ n7_ n8_ n9_ n10_ n11_ n12_; clear hb hbox hg; have hnb31 := NB297_266.out; have hnc31 := NB266_297.out; have hnb32 := NB297_275.out; have hnc32 := NB275_297.out; have hcz33_0 : w30.cell? ⟨gb297, 0, none⟩ = some (.int .i64 0) := (blk_cell BK297.out 0).trans rfl; have hcz33_1 : w30.cell? ⟨gb297, 1, none⟩ = some (.int .i64 0) := (blk_cell BK297.out 1).trans rfl; have hcz33_2 : w30.cell? ⟨gb297, 2, none⟩ = some (.slice none 0 0) := (blk_cell BK297.out 2).trans rfl; have hfz33_0 := blk_frozen BK297.out 0; have hfz33_1 := blk_frozen BK297.out 1; have hfz33_2 := blk_frozen BK297.out 2; obtain ⟨Ao34, co34, eo34⟩ := Kd.V_slice HO292.out; subst eo34))
              have n0_ : Aside0 (Kd.V k50 50 (((w30.setCell ⟨gb297, 0, none⟩ (.int .i64 t288)).setCell ⟨gb297, 1, none⟩ (.int .i64 t289)).setCell ⟨gb297, 2, none⟩ (.slice Ao34 t290.length co34)) w.heap.size (fun k_ => some k_ ≠ (v294 : Value).ownBlock ∧ k_ ≠ gb266 ∧ k_ ≠ gb275 ∧ k_ ≠ gb297) (.slice Ao26 t270.length co26) t270) := ⟨by (with_reducible repeat (first | apply Kd.V_alloc | apply Kd.V_drewN | apply Kd.V_drew)); exact Kd.V_mono (Kd.V_far (p := ⟨gb297, 2, none⟩) (Kd.V_far (p := ⟨gb297, 1, none⟩) (Kd.V_far (p := ⟨gb297, 0, none⟩) (Kd.V_mono HO272.out (fun k_ hk => (⟨hk, hk.2⟩ : _ ∧ k_ ≠ gb297))) (fun _ hk => hk.2) (.int .i64 t288)) (fun _ hk => hk.2) (.int .i64 t289)) (fun _ hk => hk.2) (.slice Ao34 t290.length co34)) (fun _ hk => ⟨hk.1.1.2, ⟨hk.1.1.1.1, ⟨hk.1.1.1.2, hk.1.2⟩⟩⟩)⟩
              have n1_ : Aside0 (Kd.V k50 50 (((w30.setCell ⟨gb297, 0, none⟩ (.int .i64 t288)).setCell ⟨gb297, 1, none⟩ (.int .i64 t289)).setCell ⟨gb297, 2, none⟩ (.slice Ao34 t290.length co34)) w.heap.size (fun k_ => some k_ ≠ (v294 : Value).ownBlock ∧ k_ ≠ gb266 ∧ k_ ≠ gb275 ∧ k_ ≠ gb297) (.slice Ao34 t290.length co34) t290) := ⟨by (with_reducible repeat (first | apply Kd.V_alloc | apply Kd.V_drewN | apply Kd.V_drew)); exact Kd.V_mono (Kd.V_far (p := ⟨gb297, 2, none⟩) (Kd.V_far (p := ⟨gb297, 1, none⟩) (Kd.V_far (p := ⟨gb297, 0, none⟩) (Kd.V_mono HO292.out (fun k_ hk => (⟨hk, hk.2⟩ : _ ∧ k_ ≠ gb297))) (fun _ hk => hk.2) (.int .i64 t288)) (fun _ hk => hk.2) (.int .i64 t289)) (fun _ hk => hk.2) (.slice Ao34 t290.length co34)) (fun _ hk => ⟨hk.1.1.1, ⟨hk.1.1.2.1, ⟨hk.1.1.2.2, hk.1.2⟩⟩⟩)⟩
              have n2_ : Aside0 (Kd.R k50 50 (((w30.setCell ⟨gb297, 0, none⟩ (.int .i64 t288)).setCell ⟨gb297, 1, none⟩ (.int .i64 t289)).setCell ⟨gb297, 2, none⟩ (.slice Ao34 t290.length co34)) w.heap.size (fun _ => True) v294 t293) := ⟨by (with_reducible repeat (first | apply Kd.R_alloc | apply Kd.R_drewN | apply Kd.R_drew)); exact Kd.R_mono (Kd.R_far (p := ⟨gb297, 2, none⟩) (Kd.R_far (p := ⟨gb297, 1, none⟩) (Kd.R_far (p := ⟨gb297, 0, none⟩) (Kd.R_types HO295.out BK297.out (by decide)) (fun _ hk => hk.2) (.int .i64 t288)) (fun _ hk => hk.2) (.int .i64 t289)) (fun _ hk => hk.2) (.slice Ao34 t290.length co34)) (fun _ hk => trivial)⟩
              have n3_ : Aside0 ((((w30.setCell ⟨gb297, 0, none⟩ (.int .i64 t288)).setCell ⟨gb297, 1, none⟩ (.int .i64 t289)).setCell ⟨gb297, 2, none⟩ (.slice Ao34 t290.length co34)).heap[gb266]? = some (.cells #[.int .i64 a0_0, .int .i64 a0_1, .slice A0_2 l0_2.length c0_2] 24 (0, 0))) := ⟨by (with_reducible repeat (first | refine blk_drewN ?_ _ | refine blk_drew ?_ | refine blk_alloc ?_ _)); refine blk_far ?_ NB266_297.out _; (with_reducible repeat (first | refine blk_drewN ?_ _ | refine blk_drew ?_ | refine blk_alloc ?_ _)); refine blk_far ?_ NB266_297.out _; (with_reducible repeat (first | refine blk_drewN ?_ _ | refine blk_drew ?_ | refine blk_alloc ?_ _)); refine blk_far ?_ NB266_297.out _; (with_reducible repeat (first | refine blk_drewN ?_ _ | refine blk_drew ?_ | refine blk_alloc ?_ _)); exact BK266.out⟩
              have n4_ : Aside0 ((((w30.setCell ⟨gb297, 0, none⟩ (.int .i64 t288)).setCell ⟨gb297, 1, none⟩ (.int .i64 t289)).setCell ⟨gb297, 2, none⟩ (.slice Ao34 t290.length co34)).heap[gb275]? = some (.cells #[.int .i64 t268, .int .i64 t269, .slice Ao26 t270.length co26] 24 (0, 0))) := ⟨by (with_reducible repeat (first | refine blk_drewN ?_ _ | refine blk_drew ?_ | refine blk_alloc ?_ _)); refine blk_far ?_ NB275_297.out _; (with_reducible repeat (first | refine blk_drewN ?_ _ | refine blk_drew ?_ | refine blk_alloc ?_ _)); refine blk_far ?_ NB275_297.out _; (with_reducible repeat (first | refine blk_drewN ?_ _ | refine blk_drew ?_ | refine blk_alloc ?_ _)); refine blk_far ?_ NB275_297.out _; (with_reducible repeat (first | refine blk_drewN ?_ _ | refine blk_drew ?_ | refine blk_alloc ?_ _)); exact BK275.out⟩
              have n5_ : Aside0 ((((w30.setCell ⟨gb297, 0, none⟩ (.int .i64 t288)).setCell ⟨gb297, 1, none⟩ (.int .i64 t289)).setCell ⟨gb297, 2, none⟩ (.slice Ao34 t290.length co34)).heap[gb297]? = some (.cells #[.int .i64 t288, .int .i64 t289, .slice Ao34 t290.length co34] 24 (0, 0))) := ⟨by (with_reducible repeat (first | refine blk_drewN ?_ _ | refine blk_drew ?_ | refine blk_alloc ?_ _)); refine blk_put (cs := #[.int .i64 t288, .int .i64 t289, .slice none 0 0]) ?_ 2 _ rfl; (with_reducible repeat (first | refine blk_drewN ?_ _ | refine blk_drew ?_ | refine blk_alloc ?_ _)); refine blk_put (cs := #[.int .i64 t288, .int .i64 0, .slice none 0 0]) ?_ 1 _ rfl; (with_reducible repeat (first | refine blk_drewN ?_ _ | refine blk_drew ?_ | refine blk_alloc ?_ _)); refine blk_put (cs := #[.int .i64 0, .int .i64 0, .slice none 0 0]) ?_ 0 _ rfl; (with_reducible repeat (first | refine blk_drewN ?_ _ | refine blk_drew ?_ | refine blk_alloc ?_ _)); exact BK297.out⟩
              have n6_ : Aside0 (Below w.heap.size w (((w30.setCell ⟨gb297, 0, none⟩ (.int .i64 t288)).setCell ⟨gb297, 1, none⟩ (.int .i64 t289)).setCell ⟨gb297, 2, none⟩ (.slice Ao34 t290.length co34))) := ⟨by repeat (first | (with_reducible first | exact HB.out | apply below_alloc | apply pw_below_drewN | apply below_drew1 | refine below_set ?_ GE266.out | refine below_set ?_ GE275.out | refine below_set ?_ GE297.out) | exact HB.out)⟩
              (try clear HO272)
              (try clear HO292)
              (try clear HO295)
              (try clear BK266)
              (try clear BK275)
              (try clear BK297)
              (try clear HB)
              generalize (((w30.setCell ⟨gb297, 0, none⟩ (.int .i64 t288)).setCell ⟨gb297, 1, none⟩ (.int .i64 t289)).setCell ⟨gb297, 2, none⟩ (.slice Ao34 t290.length co34)) = w35 at n0_ n1_ n2_ n3_ n4_ n5_ n6_ ⊢
              have HO272 := n0_
              have HO292 := n1_
              have HO295 := n2_
              have BK266 := n3_
              have BK275 := n4_
              have BK297 := n5_
              have HB := n6_
              clear n0_ n1_ n2_ n3_ n4_ n5_ n6_
              have n0_ := Aside0.mk (Kd.V_drew HO272.out)
              have n1_ := Aside0.mk (Kd.V_drew HO292.out)
              have n2_ := Aside0.mk (Kd.R_drew HO295.out)
              have n3_ := Aside0.mk (blk_drew BK266.out)
              have n4_ := Aside0.mk (blk_drew BK275.out)
              have n5_ := Aside0.mk (blk_drew BK297.out)
              have n6_ := Aside0.mk (below_drew1 HB.out)
              clear HO272
              clear HO292
              clear HO295
              clear BK266
              clear BK275
              clear BK297
              clear HB
              have HO272 := n0_
              have HO292 := n1_
              have HO295 := n2_
              have BK266 := n3_
              have BK275 := n4_
              have BK297 := n5_
              have HB := n6_
              clear n0_ n1_ n2_ n3_ n4_ n5_ n6_
              obtain ⟨Ao37, co37, eo37⟩ := Kd.R_slice HO295.out
              (first | subst eo37 | (injection eo37 with f1_ f2_ f3_; have f4_ := f1_.symm; have f5_ := f3_.symm; clear f1_ f2_ f3_; subst f4_; subst f5_))
              refine start_ (n := 18) (S := fun w' => w'.cell? ⟨gb297, 0, none⟩ = some (.int .i64 t288) ∧ w'.cell? ⟨gb297, 1, none⟩ = some (.int .i64 t289) ∧ w'.cell? ⟨gb297, 2, none⟩ = some (.slice Ao34 t290.length co34) ∧ w'.cell? ⟨gb266, 0, none⟩ = some (.int .i64 a0_0) ∧ w'.cell? ⟨gb266, 1, none⟩ = some (.int .i64 a0_1) ∧ w'.cell? ⟨gb266, 2, none⟩ = some (.slice A0_2 l0_2.length c0_2)) (ds := []) #[false, false, false, false, false, false, false, false, false, false, false, false, false, false, false, false, false, false] (by kernel_rfl) rfl rfl ⟨(blk_cell BK297.out 0).trans rfl, (blk_cell BK297.out 1).trans rfl, (blk_cell BK297.out 2).trans rfl, (blk_cell BK266.out 0).trans rfl, (blk_cell BK266.out 1).trans rfl, (blk_cell BK266.out 2).trans rfl⟩ (fun hHeld => ?_); refine with_tabW handshakerlaw18_SemaLeaves.tab8 handshakerlaw18_SemaLeaves.bits8 (fun HT_ HW_ => ?_)
              generalize w35.drew = w36 at HO272 HO292 HO295 BK266 BK275 BK297 HB hHeld ⊢
              refine pure_ (i := 0) (N := some 51) (v := ?_) (a' := ?_) #[true, false, false, false, false, false, false, false, false, false, false, false, false, false, false, false, false, false] rfl rfl (any_of HT_.out (by kernel_rfl)) (fun _ _ _ h => h) (Or.inl ⟨by rfl, ?_⟩) ?_ ?_
              rotate_left
              · intro w'
                go_simp
                with_reducible rfl
              rotate_left
              · simp only [Act.put, List.setIfInBounds_toArray, List.set_cons_zero, List.set_cons_succ, i64_w, i32_w]
                rfl
              refine pure_ (i := 1) (N := some 52) (v := ?_) (a' := ?_) #[true, true, false, false, false, false, false, false, false, false, false, false, false, false, false, false, false, false] rfl rfl (any_of HT_.out (by kernel_rfl)) (fun _ _ _ h => h) (Or.inl ⟨by rfl, ?_⟩) ?_ ?_
              rotate_left
              · intro w'
                go_simp
                with_reducible rfl
              rotate_left
              · simp only [Act.put, List.setIfInBounds_toArray, List.set_cons_zero, List.set_cons_succ, i64_w, i32_w]
                rfl
              refine pure_ (i := 2) (N := some 53) (v := ?_) (a' := ?_) #[true, true, true, false, false, false, false, false, false, false, false, false, false, false, false, false, false, false] rfl rfl (any_of HT_.out (by kernel_rfl)) (fun _ _ _ h => h) (Or.inl ⟨by rfl, ?_⟩) ?_ ?_
              rotate_left
              · intro w'
                go_simp
                with_reducible rfl
              rotate_left
              · simp only [Act.put, List.setIfInBounds_toArray, List.set_cons_zero, List.set_cons_succ, i64_w, i32_w]
                rfl
              refine pure_ (i := 3) (N := some 54) (v := ?_) (a' := ?_) #[true, true, true, true, false, false, false, false, false, false, false, false, false, false, false, false, false, false] rfl rfl (any_of HT_.out (by kernel_rfl)) (fun _ _ _ h => h) (Or.inl ⟨by rfl, ?_⟩) ?_ ?_
              rotate_left
              · intro w'
                go_simp
                with_reducible rfl
              rotate_left
              · simp only [Act.put, List.setIfInBounds_toArray, List.set_cons_zero, List.set_cons_succ, i64_w, i32_w]
                rfl
              refine pure_ (i := 4) (N := some 55) (v := ?_) (a' := ?_) #[true, true, true, true, true, false, false, false, false, false, false, false, false, false, false, false, false, false] rfl rfl (any_of HT_.out (by kernel_rfl)) (fun _ _ _ h => h) (Or.inl ⟨by rfl, ?_⟩) ?_ ?_
              rotate_left
              · intro w'
                go_simp
                with_reducible rfl
              rotate_left
              · simp only [Act.put, List.setIfInBounds_toArray, List.set_cons_zero, List.set_cons_succ, i64_w, i32_w]
                rfl
              refine pure_ (i := 5) (N := some 56) (v := ?_) (a' := ?_) #[true, true, true, true, true, true, false, false, false, false, false, false, false, false, false, false, false, false] rfl rfl (any_of HT_.out (by kernel_rfl)) (fun _ _ _ h => h) (Or.inl ⟨by rfl, ?_⟩) ?_ ?_
              rotate_left
              · intro w'
                go_simp
                with_reducible rfl
              rotate_left
              · simp only [Act.put, List.setIfInBounds_toArray, List.set_cons_zero, List.set_cons_succ, i64_w, i32_w]
                rfl
              refine pure_ (i := 6) (N := some 57) (v := ?_) (a' := ?_) #[true, true, true, true, true, true, true, false, false, false, false, false, false, false, false, false, false, false] rfl rfl (any_of HT_.out (by kernel_rfl)) (fun _ _ _ h => h) (Or.inl ⟨by rfl, ?_⟩) ?_ ?_
              rotate_left
              · intro w'
                go_simp
                with_reducible rfl
              rotate_left
              · simp only [Act.put, List.setIfInBounds_toArray, List.set_cons_zero, List.set_cons_succ, i64_w, i32_w]
                rfl
              refine pure_ (i := 7) (N := some 58) (v := ?_) (a' := ?_) #[true, true, true, true, true, true, true, true, false, false, false, false, false, false, false, false, false, false] rfl rfl (any_of HT_.out (by kernel_rfl)) (fun _ _ _ h => h) (Or.inl ⟨by rfl, ?_⟩) ?_ ?_
              rotate_left
              · intro w'
                go_simp
                with_reducible rfl
              rotate_left
              · simp only [Act.put, List.setIfInBounds_toArray, List.set_cons_zero, List.set_cons_succ, i64_w, i32_w]
                rfl
              refine take_ (i := 8) (N := some 59) (v := ?_) (a' := ?_) #[true, true, true, true, true, true, true, true, true, false, false, false, false, false, false, false, false, false] rfl rfl (take_ofW HT_.out HW_.out (by kernel_rfl)) (fun _ _ _ h => h) (Or.inl ⟨by rfl, ?_⟩) hHeld ?_ ?_
              rotate_left
              · rintro w' ⟨s0, s1, s2, s3, s4, s5⟩
                go_simp
                with_reducible rfl
              rotate_left
              · simp only [Act.put, List.setIfInBounds_toArray, List.set_cons_zero, List.set_cons_succ, i64_w, i32_w]
                rfl
              refine take_ (i := 10) (N := some 61) (v := ?_) (a' := ?_) #[true, true, true, true, true, true, true, true, true, false, true, false, false, false, false, false, false, false] rfl rfl (take_ofW HT_.out HW_.out (by kernel_rfl)) (fun _ _ _ h => h) (Or.inl ⟨by rfl, ?_⟩) hHeld ?_ ?_
              rotate_left
              · rintro w' ⟨s0, s1, s2, s3, s4, s5⟩
                go_simp
                with_reducible rfl
              rotate_left
              · simp only [Act.put, List.setIfInBounds_toArray, List.set_cons_zero, List.set_cons_succ, i64_w, i32_w]
                rfl
              refine one_ (i := 9) (N := some 60) #[true, true, true, true, true, true, true, true, true, true, true, false, false, false, false, false, false, false] rfl rfl (one_of HT_.out (by kernel_rfl)) (by decide) (fun K hK => ?_)
              refine goes_ Try.func10 (by kernel_rfl) rfl #[.agg #[.int .i64 t288, .int .i64 t289, .slice Ao34 t290.length co34]] (by rfl) rfl rfl zm ?_
              with_reducible refine (handshakerlaw18_Ref.calls k t288 t289 _ _ t290 t298 t299 t300 _ ?side1 ?side2 A15.out).mono ?_
              (case side1 => repeat (first | exact (Kd.V_reads' HO292.out).2.2 | (with_reducible refine Kd.C_alloc ?_ _) | (with_reducible refine Kd.C_drewN ?_ _) | (with_reducible refine Kd.C_drew ?_)))
              (case side2 => exact (Kd.V_reads' HO292.out).2.1)
              rintro e w38 ⟨v301, rfl, ho0, hb⟩
              refine ⟨_, rfl, ?_⟩
              have n0_ := Aside0.mk (Kd.V_elder' (zV HO272) (Kd.R_base ho0) hb)
              have n1_ := Aside0.mk (Kd.V_elder' (zV HO292) (Kd.R_base ho0) hb)
              have n2_ := Aside0.mk (Kd.R_below (zR HO295) hb)
              have n3_ := Aside0.mk (Kd.R_lower ho0 (below_size (zc3 HB GE266 GE275 GE297)))
              have n4_ := Aside0.mk (blk_below (g := gb266) (o := .cells #[.int .i64 a0_0, .int .i64 a0_1, .slice A0_2 l0_2.length c0_2] 24 (0, 0)) (zb BK266) hb)
              have n5_ := Aside0.mk (blk_below (g := gb275) (o := .cells #[.int .i64 t268, .int .i64 t269, .slice Ao26 t270.length co26] 24 (0, 0)) (zb BK275) hb)
              have n6_ := Aside0.mk (blk_below (g := gb297) (o := .cells #[.int .i64 t288, .int .i64 t289, .slice Ao34 t290.length co34] 24 (0, 0)) (zb BK297) hb)
              have n7_ := Aside0.mk (below_step (zc3 HB GE266 GE275 GE297) hb)
              clear HO272
              clear HO292
              clear HO295
              clear BK266
              clear BK275
              clear BK297
              clear HB
              have HO272 := n0_
              have HO292 := n1_
              have HO295 := n2_
              have HO302 := n3_
              have BK266 := n4_
              have BK275 := n5_
              have BK297 := n6_
              have HB := n7_
              clear n0_ n1_ n2_ n3_ n4_ n5_ n6_ n7_
              (try clear hb)
              (try clear hb2)
              (try clear hk)
              (try clear hi)
              (try clear ho0)
              refine hK.out _ _ ⟨(blk_cell BK297.out 0).trans rfl, (blk_cell BK297.out 1).trans rfl, (blk_cell BK297.out 2).trans rfl, (blk_cell BK266.out 0).trans rfl, (blk_cell BK266.out 1).trans rfl, (blk_cell BK266.out 2).trans rfl⟩ (fun hHeld => ?_)
              clear hK K
              refine norm_ (a' := ?_) ?_ ?_
              rotate_left
              · show Act.put _ (some 60) _ = _
                simp only [Act.put, List.setIfInBounds_toArray, List.set_cons_zero, List.set_cons_succ, i64_w, i32_w]
                rfl
              refine one_ (i := 11) (N := some 62) #[true, true, true, true, true, true, true, true, true, true, true, true, false, false, false, false, false, false] rfl rfl (one_of HT_.out (by kernel_rfl)) (by decide) (fun K hK => ?_)
              refine goes_ Try.func10 (by kernel_rfl) rfl #[.agg #[.int .i64 a0_0, .int .i64 a0_1, .slice A0_2 l0_2.length c0_2]] (by rfl) rfl rfl zm ?_
              with_reducible refine (handshakerlaw18_Ref.calls k a0_0 a0_1 _ _ l0_2 t303 t304 t305 _ ?side1 ?side2 A16.out).mono ?_
              (case side1 => repeat (first | exact (Kd.C_below HR0_2.out HB.out) | (with_reducible refine Kd.C_alloc ?_ _) | (with_reducible refine Kd.C_drewN ?_ _) | (with_reducible refine Kd.C_drew ?_)))
              (case side2 => exact HC0_2.out)
              rintro e w39 ⟨v306, rfl, ho0, hb⟩
              refine ⟨_, rfl, ?_⟩
              have n0_ := Aside0.mk (Kd.V_elder' (zV HO272) (Kd.R_base ho0) hb)
              have n1_ := Aside0.mk (Kd.V_elder' (zV HO292) (Kd.R_base ho0) hb)
              have n2_ := Aside0.mk (Kd.R_below (zR HO295) hb)
              have n3_ := Aside0.mk (Kd.R_elder' (zR HO302) (Kd.R_base ho0) hb)
              have n4_ := Aside0.mk (Kd.R_lower (Kd.R_new' ho0 (Kd.R_lt (zR HO302))) (below_size (zc3 HB GE266 GE275 GE297)))
              have n5_ := Aside0.mk (blk_below (g := gb266) (o := .cells #[.int .i64 a0_0, .int .i64 a0_1, .slice A0_2 l0_2.length c0_2] 24 (0, 0)) (zb BK266) hb)
              have n6_ := Aside0.mk (blk_below (g := gb275) (o := .cells #[.int .i64 t268, .int .i64 t269, .slice Ao26 t270.length co26] 24 (0, 0)) (zb BK275) hb)
              have n7_ := Aside0.mk (blk_below (g := gb297) (o := .cells #[.int .i64 t288, .int .i64 t289, .slice Ao34 t290.length co34] 24 (0, 0)) (zb BK297) hb)
              have n8_ := Aside0.mk (below_step (zc3 HB GE266 GE275 GE297) hb)
              clear HO272
              clear HO292
              clear HO295
              clear HO302
              clear BK266
              clear BK275
              clear BK297
              clear HB
              have HO272 := n0_
              have HO292 := n1_
              have HO295 := n2_
              have HO302 := n3_
              have HO307 := n4_
              have BK266 := n5_
              have BK275 := n6_
              have BK297 := n7_
              have HB := n8_
              clear n0_ n1_ n2_ n3_ n4_ n5_ n6_ n7_ n8_
              (try clear hb)
              (try clear hb2)
              (try clear hk)
              (try clear hi)
              (try clear ho0)
              obtain ⟨Ao40, co40, eo40⟩ := Kd.R_slice HO302.out
              (first | subst eo40 | (injection eo40 with f1_ f2_ f3_; have f4_ := f1_.symm; have f5_ := f3_.symm; clear f1_ f2_ f3_; subst f4_; subst f5_))
              obtain ⟨Ao41, co41, eo41⟩ := Kd.R_slice HO307.out
              (first | subst eo41 | (injection eo41 with f1_ f2_ f3_; have f4_ := f1_.symm; have f5_ := f3_.symm; clear f1_ f2_ f3_; subst f4_; subst f5_))
              refine hK.out _ _ ⟨(blk_cell BK297.out 0).trans rfl, (blk_cell BK297.out 1).trans rfl, (blk_cell BK297.out 2).trans rfl, (blk_cell BK266.out 0).trans rfl, (blk_cell BK266.out 1).trans rfl, (blk_cell BK266.out 2).trans rfl⟩ (fun hHeld => ?_)
              clear hK K
              refine norm_ (a' := ?_) ?_ ?_
              rotate_left
              · show Act.put _ (some 62) _ = _
                simp only [Act.put, List.setIfInBounds_toArray, List.set_cons_zero, List.set_cons_succ, i64_w, i32_w]
                rfl
              refine one_ (i := 12) (N := some 63) #[true, true, true, true, true, true, true, true, true, true, true, true, true, false, false, false, false, false] rfl rfl (one_of HT_.out (by kernel_rfl)) (by decide) (fun K hK => ?_)
              refine goes_ Try.func20 (by kernel_rfl) rfl #[.agg #[.int .i64 t298, .int .i64 t299, .slice Ao40 t300.length co40], .agg #[.int .i64 t303, .int .i64 t304, .slice Ao41 t305.length co41]] (by rfl) rfl rfl zm ?_
              with_reducible refine (handshakerref18_Same.calls k t298 t299 _ _ t300 t303 t304 _ _ t305 true _ ?side1 ?side2 ?side3 ?side4 A17.out).mono ?_
              (case side1 => repeat (first | exact (Kd.R_reads' HO302.out).2.2 | (with_reducible refine Kd.C_alloc ?_ _) | (with_reducible refine Kd.C_drewN ?_ _) | (with_reducible refine Kd.C_drew ?_)))
              (case side2 => exact (Kd.R_reads' HO302.out).2.1)
              (case side3 => repeat (first | exact (Kd.R_reads' HO307.out).2.2 | (with_reducible refine Kd.C_alloc ?_ _) | (with_reducible refine Kd.C_drewN ?_ _) | (with_reducible refine Kd.C_drew ?_)))
              (case side4 => exact (Kd.R_reads' HO307.out).2.1)
              rintro e w42 ⟨rfl, hb⟩
              refine ⟨_, rfl, ?_⟩
              have n0_ := Aside0.mk (Kd.V_below (zV HO272) hb)
              have n1_ := Aside0.mk (Kd.V_below (zV HO292) hb)
              have n2_ := Aside0.mk (Kd.R_below (zR HO295) hb)
              have n3_ := Aside0.mk (Kd.R_below (zR HO302) hb)
              have n4_ := Aside0.mk (Kd.R_below (zR HO307) hb)
              have n5_ := Aside0.mk (blk_below (g := gb266) (o := .cells #[.int .i64 a0_0, .int .i64 a0_1, .slice A0_2 l0_2.length c0_2] 24 (0, 0)) (zb BK266) hb)
              have n6_ := Aside0.mk (blk_below (g := gb275) (o := .cells #[.int .i64 t268, .int .i64 t269, .slice Ao26 t270.length co26] 24 (0, 0)) (zb BK275) hb)
              have n7_ := Aside0.mk (blk_below (g := gb297) (o := .cells #[.int .i64 t288, .int .i64 t289, .slice Ao34 t290.length co34] 24 (0, 0)) (zb BK297) hb)
              have n8_ := Aside0.mk (below_step (zc3 HB GE266 GE275 GE297) hb)
              clear HO272
              clear HO292
              clear HO295
              clear HO302
              clear HO307
              clear BK266
              clear BK275
              clear BK297
              clear HB
              have HO272 := n0_
              have HO292 := n1_
              have HO295 := n2_
              have HO302 := n3_
              have HO307 := n4_
              have BK266 := n5_
              have BK275 := n6_
              have BK297 := n7_
              have HB := n8_
              clear n0_ n1_ n2_ n3_ n4_ n5_ n6_ n7_ n8_
              (try clear hb)
              (try clear hb2)
              (try clear hk)
              (try clear hi)
              refine hK.out _ _ ⟨(blk_cell BK297.out 0).trans rfl, (blk_cell BK297.out 1).trans rfl, (blk_cell BK297.out 2).trans rfl, (blk_cell BK266.out 0).trans rfl, (blk_cell BK266.out 1).trans rfl, (blk_cell BK266.out 2).trans rfl⟩ (fun hHeld => ?_)
              clear hK K
              refine norm_ (a' := ?_) ?_ ?_
              rotate_left
              · show Act.put _ (some 63) _ = _
                simp only [Act.put, List.setIfInBounds_toArray, List.set_cons_zero, List.set_cons_succ, i64_w, i32_w]
                rfl
              refine pure_ (i := 13) (N := some 64) (v := ?_) (a' := ?_) #[true, true, true, true, true, true, true, true, true, true, true, true, true, true, false, false, false, false] rfl rfl (any_of HT_.out (by kernel_rfl)) (fun _ _ _ h => h) (Or.inl ⟨by rfl, ?_⟩) ?_ ?_
              rotate_left
              · intro w'
                go_simp
                with_reducible rfl
              rotate_left
              · simp only [Act.put, List.setIfInBounds_toArray, List.set_cons_zero, List.set_cons_succ, i64_w, i32_w]
                rfl
              refine pure_ (i := 14) (N := some 65) (v := ?_) (a' := ?_) #[true, true, true, true, true, true, true, true, true, true, true, true, true, true, true, false, false, false] rfl rfl (any_of HT_.out (by kernel_rfl)) (fun _ _ _ h => h) (Or.inl ⟨by rfl, ?_⟩) ?_ ?_
              rotate_left
              · intro w'
                go_simp
                with_reducible rfl
              rotate_left
              · simp only [Act.put, List.setIfInBounds_toArray, List.set_cons_zero, List.set_cons_succ, i64_w, i32_w]
                rfl
              refine one_ (i := 15) (N := some 66) #[true, true, true, true, true, true, true, true, true, true, true, true, true, true, true, true, false, false] rfl rfl (one_of HT_.out (by kernel_rfl)) (by decide) (fun K hK => ?_)
              refine goes_ Try.func9 (by kernel_rfl) rfl #[] (by rfl) rfl rfl zm ?_
              with_reducible refine (handshakerlaw18_awake.calls k  t309 _ A19.out).mono ?_
              rintro e w43 ⟨rfl, hb⟩
              refine ⟨_, rfl, ?_⟩
              have n0_ := Aside0.mk (Kd.V_below (zV HO272) hb)
              have n1_ := Aside0.mk (Kd.V_below (zV HO292) hb)
              have n2_ := Aside0.mk (Kd.R_below (zR HO295) hb)
              have n3_ := Aside0.mk (Kd.R_below (zR HO302) hb)
              have n4_ := Aside0.mk (Kd.R_below (zR HO307) hb)
              have n5_ := Aside0.mk (blk_below (g := gb266) (o := .cells #[.int .i64 a0_0, .int .i64 a0_1, .slice A0_2 l0_2.length c0_2] 24 (0, 0)) (zb BK266) hb)
              have n6_ := Aside0.mk (blk_below (g := gb275) (o := .cells #[.int .i64 t268, .int .i64 t269, .slice Ao26 t270.length co26] 24 (0, 0)) (zb BK275) hb)
              have n7_ := Aside0.mk (blk_below (g := gb297) (o := .cells #[.int .i64 t288, .int .i64 t289, .slice Ao34 t290.length co34] 24 (0, 0)) (zb BK297) hb)
              have n8_ := Aside0.mk (below_step (zc3 HB GE266 GE275 GE297) hb)
              clear HO272
              clear HO292
              clear HO295
              clear HO302
              clear HO307
              clear BK266
              clear BK275
              clear BK297
              clear HB
              have HO272 := n0_
              have HO292 := n1_
              have HO295 := n2_
              have HO302 := n3_
              have HO307 := n4_
              have BK266 := n5_
              have BK275 := n6_
              have BK297 := n7_
              have HB := n8_
              clear n0_ n1_ n2_ n3_ n4_ n5_ n6_ n7_ n8_
              (try clear hb)
              (try clear hb2)
              (try clear hk)
              (try clear hi)
              refine hK.out _ _ ⟨(blk_cell BK297.out 0).trans rfl, (blk_cell BK297.out 1).trans rfl, (blk_cell BK297.out 2).trans rfl, (blk_cell BK266.out 0).trans rfl, (blk_cell BK266.out 1).trans rfl, (blk_cell BK266.out 2).trans rfl⟩ (fun hHeld => ?_)
              clear hK K
              refine norm_ (a' := ?_) ?_ ?_
              rotate_left
              · show Act.put _ (some 66) _ = _
                simp only [Act.put, List.setIfInBounds_toArray, List.set_cons_zero, List.set_cons_succ, i64_w, i32_w]
                rfl
              refine pure_ (i := 16) (N := some 67) (v := ?_) (a' := ?_) #[true, true, true, true, true, true, true, true, true, true, true, true, true, true, true, true, true, false] rfl rfl (any_of HT_.out (by kernel_rfl)) (fun _ _ _ h => h) (Or.inl ⟨by rfl, ?_⟩) ?_ ?_
              rotate_left
              · intro w'
                go_simp
                with_reducible rfl
              rotate_left
              · simp only [Act.put, List.setIfInBounds_toArray, List.set_cons_zero, List.set_cons_succ, i64_w, i32_w]
                rfl
              refine pure_ (i := 17) (N := some 6) (v := ?_) (a' := ?_) #[true, true, true, true, true, true, true, true, true, true, true, true, true, true, true, true, true, true] rfl rfl (any_of HT_.out (by kernel_rfl)) (fun _ _ _ h => h) (Or.inl ⟨by rfl, ?_⟩) ?_ ?_
              rotate_left
              · intro w'
                go_simp
                with_reducible rfl
              rotate_left
              · simp only [Act.put, List.setIfInBounds_toArray, List.set_cons_zero, List.set_cons_succ, i64_w, i32_w]
                rfl
              refine done_ (done_of HT_.out (by kernel_rfl)) ?_
              try go_wp2
              go_ret
              exact ⟨by first | rfl | (simp [errW_none, errW_some] <;> rfl) | (simp [*, errW_none, errW_some] <;> rfl), by repeat (first | (with_reducible first | exact HB.out | apply below_alloc | apply pw_below_drewN | apply below_drew1 | refine below_set ?_ GE266.out | refine below_set ?_ GE275.out | refine below_set ?_ GE297.out) | exact HB.out)⟩
            · replace c18 := Bool.eq_false_iff.mpr c18
              subst c18
              have H1 : (none) = some r := by rw [if_neg (show ¬ (false = true) by decide)] at H; exact H
              clear H
              have H := H1
              clear H1
              exact absurd H (by simp)
          · rw [if_neg c14] at H
            exact absurd H (by simp)
        · rw [if_neg c13] at H
          exact absurd H (by simp)
      · replace c11 := Bool.eq_false_iff.mpr c11
        subst c11
        have H1 : ((sema_Leave.f k t268 t269 t270 a1).bind fun bt310 => (if bt310.2.2.2.2 = 0 then (if (bt310.2.2.2.1.length : Int) = 0 then ((handshakerlaw18_Ref.f k bt310.1 bt310.2.1 bt310.2.2.1).bind fun bt320 => ((handshakerlaw18_Ref.f k a0_0 a0_1 l0_2).bind fun bt325 => ((handshakerref18_Same.f k bt320.1 bt320.2.1 bt320.2.2 bt325.1 bt325.2.1 bt325.2.2).bind fun t330 => (if t330 = true then ((handshakerlaw18_awake.f k).bind fun t331 => (some t331)) else (none))))) else (none)) else (none))) = some r := by rw [if_neg (show ¬ (false = true) by decide)] at H; exact H
        clear H
        have H := H1
        clear H1
        replace H := Option.bind_eq_some_iff.mp H
        obtain ⟨⟨t310, t311, t312, t315, t318⟩, A440, H⟩ := H
        replace H : (if t318 = 0 then (if (t315.length : Int) = 0 then ((handshakerlaw18_Ref.f k t310 t311 t312).bind fun bt320 => ((handshakerlaw18_Ref.f k a0_0 a0_1 l0_2).bind fun bt325 => ((handshakerref18_Same.f k bt320.1 bt320.2.1 bt320.2.2 bt325.1 bt325.2.1 bt325.2.2).bind fun t330 => (if t330 = true then ((handshakerlaw18_awake.f k).bind fun t331 => (some t331)) else (none))))) else (none)) else (none)) = some r := H
        have A44 := Aside0.mk A440
        clear A440
        by_cases c45 : t318 = 0
        · rw [if_pos c45] at H
          have c45b0 : (t318 == 0) = true := beq_iff_eq.mpr c45
          have c45b1 : (t318 != 0) = false := bne_eq_false_iff_eq.mpr c45
          clear c45
          by_cases c46 : (t315.length : Int) = 0
          · rw [if_pos c46] at H
            have c46b0 : ((t315.length : Int) == 0) = true := beq_iff_eq.mpr c46
            have c46b1 : ((t315.length : Int) != 0) = false := bne_eq_false_iff_eq.mpr c46
            clear c46
            replace H := Option.bind_eq_some_iff.mp H
            obtain ⟨⟨t320, t321, t322⟩, A470, H⟩ := H
            replace H : ((handshakerlaw18_Ref.f k a0_0 a0_1 l0_2).bind fun bt325 => ((handshakerref18_Same.f k t320 t321 t322 bt325.1 bt325.2.1 bt325.2.2).bind fun t330 => (if t330 = true then ((handshakerlaw18_awake.f k).bind fun t331 => (some t331)) else (none)))) = some r := H
            have A47 := Aside0.mk A470
            clear A470
            replace H := Option.bind_eq_some_iff.mp H
            obtain ⟨⟨t325, t326, t327⟩, A480, H⟩ := H
            replace H : ((handshakerref18_Same.f k t320 t321 t322 t325 t326 t327).bind fun t330 => (if t330 = true then ((handshakerlaw18_awake.f k).bind fun t331 => (some t331)) else (none))) = some r := H
            have A48 := Aside0.mk A480
            clear A480
            replace H := Option.bind_eq_some_iff.mp H
            obtain ⟨t330, A490, H⟩ := H
            replace H : (if t330 = true then ((handshakerlaw18_awake.f k).bind fun t331 => (some t331)) else (none)) = some r := H
            have A49 := Aside0.mk A490
            clear A490
            by_cases c50 : t330 = true
            · subst c50
              have H1 : ((handshakerlaw18_awake.f k).bind fun t331 => (some t331)) = some r := by rw [if_pos rfl] at H; exact H
              clear H
              have H := H1
              clear H1
              replace H := Option.bind_eq_some_iff.mp H
              obtain ⟨t331, A510, H⟩ := H
              replace H : (some t331) = some r := H
              have A51 := Aside0.mk A510
              clear A510
              obtain rfl := Option.some.inj H
              go_enter Try.func6, Try.ntmps6
              try go_wp2_with (first | ((with_reducible refine gate_dst (N := 3) rfl ?_); (try (refine gate_guard (by rfl) ?_; dsimp only)); refine box_event ?hg (N := 3) ?hd (cs := #[.int .i64 a0_0, .int .i64 a0_1, .slice A0_2 l0_2.length c0_2]) (t := 24) ?hr ?_; (case hd => rfl); (case hg => rfl); (case hr => first | (go_simp; done) | (go_simp; rfl)); intro gb266 hg w52 hbox hb; have n0_ := Aside0.mk (below_step (zc0 HB) hb); have n1_ := Aside0.mk (hbox); have n2_ := Aside0.mk ((by rw [hg]; exact (below_size (zc0 HB)) : w.heap.size ≤ gb266)); have n3_ := Aside0.mk ((by rw [hg]; exact (below_size (zc0 HB)) : w.heap.size ≤ gb266)); clear HB; have HB := n0_; have BK266 := n1_; have GW266 := n2_; have GE266 := n3_; clear n0_ n1_ n2_ n3_; clear hb hbox hg; have hcz53_0 : w52.cell? ⟨gb266, 0, none⟩ = some (.int .i64 a0_0) := (blk_cell BK266.out 0).trans rfl; have hcz53_1 : w52.cell? ⟨gb266, 1, none⟩ = some (.int .i64 a0_1) := (blk_cell BK266.out 1).trans rfl; have hcz53_2 : w52.cell? ⟨gb266, 2, none⟩ = some (.slice A0_2 l0_2.length c0_2) := (blk_cell BK266.out 2).trans rfl; have hfz53_0 := blk_frozen BK266.out 0; have hfz53_1 := blk_frozen BK266.out 1; have hfz53_2 := blk_frozen BK266.out 2) | ((with_reducible refine gate_callee (f := 11) rfl ?_); refine goesL_ (some 25) rfl rfl Try.func11 (by kernel_rfl) rfl #[.agg #[.int .i64 a0_0, .int .i64 a0_1, .slice A0_2 l0_2.length c0_2], .int .i64 a1, .int .i64 a2] rfl zm ?_; (with_reducible refine (sema_Take.calls k a0_0 a0_1 (fun k_ => k_ < w.heap.size) _ _ l0_2 a1 a2 t268 t269 t270 false t274 _ ?side1 A9.out).mono ?_); (case side1 => exact Kd.V_mk HC0_2.out (Kd.F_below (Kd.C_F k50_heap HR0_2.out) (zc1 HB GE266))); rintro e w54 ⟨v271, rfl, ho0, hb⟩; refine ⟨_, rfl, ?_⟩; have n0_ := Aside0.mk (Kd.V_lower (Kd.V_mono (ok' := fun k_ => k_ ≠ gb266) ho0 (fun k_ hk_ => Or.elim hk_ (fun hs_ => fun e_ => Nat.not_le.2 hs_ (by rw [e_]; exact GW266.out)) (fun hn_ => (Kd.freshB (g := gb266) (o := .cells #[.int .i64 a0_0, .int .i64 a0_1, .slice A0_2 l0_2.length c0_2] 24 (0, 0)) (zb BK266) k_ hn_)))) (below_size (zc1 HB GE266))); have n1_ := Aside0.mk (blk_below (g := gb266) (o := .cells #[.int .i64 a0_0, .int .i64 a0_1, .slice A0_2 l0_2.length c0_2] 24 (0, 0)) (zb BK266) hb); have n2_ := Aside0.mk (below_step (zc1 HB GE266) hb); clear BK266; clear HB; have HO272 := n0_; have BK266 := n1_; have HB := n2_; clear n0_ n1_ n2_; (try clear hb); (try clear hb2); (try clear hk); (try clear hi); (try clear ho0)) | ((with_reducible refine gate_dst (N := 7) rfl ?_); (try (refine gate_guard (by rfl) ?_; dsimp only)); refine box_event ?hg (N := 7) ?hd (cs := #[.int .i64 0, .int .i64 0, .slice none 0 0]) (t := 24) ?hr ?_; (case hd => rfl); (case hg => rfl); (case hr => first | (go_simp; done) | (go_simp; rfl)); intro gb275 hg w55 hbox hb; have n0_ := Aside0.mk (Kd.V_below (Kd.V_elderB (zV HO272) gb275 (Nat.le_of_eq hg.symm)) hb); have n1_ := Aside0.mk (blk_below (g := gb266) (o := .cells #[.int .i64 a0_0, .int .i64 a0_1, .slice A0_2 l0_2.length c0_2] 24 (0, 0)) (zb BK266) hb); have n2_ := Aside0.mk (below_step (zc1 HB GE266) hb); have n3_ := Aside0.mk (hbox); have n4_ := Aside0.mk ((by rw [hg]; exact (below_size (zc1 HB GE266)) : w.heap.size ≤ gb275)); have n5_ := Aside0.mk ((by rw [hg]; exact (below_size (zc1 HB GE266)) : w.heap.size ≤ gb275)); have n6_ := Aside0.mk ((by rw [hg]; exact Nat.ne_of_lt (blk_lt (g := gb266) (o := .cells #[.int .i64 a0_0, .int .i64 a0_1, .slice A0_2 l0_2.length c0_2] 24 (0, 0)) (zb BK266)) : gb266 ≠ gb275)); have n7_ := Aside0.mk ((by rw [hg]; exact Nat.ne_of_gt (blk_lt (g := gb266) (o := .cells #[.int .i64 a0_0, .int .i64 a0_1, .slice A0_2 l0_2.length c0_2] 24 (0, 0)) (zb BK266)) : gb275 ≠ gb266)); clear HO272; clear BK266; clear HB; have HO272 := n0_; have BK266 := n1_; have HB := n2_; have BK275 := n3_; have GW275 := n4_; have GE275 := n5_; have NB266_275 := n6_; have NB275_266 := n7_; clear n0_ n1_ n2_ n3_ n4_ n5_ n6_ n7_; clear hb hbox hg; have hnb56 := NB275_266.out; have hnc56 := NB266_275.out; have hcz57_0 : w55.cell? ⟨gb275, 0, none⟩ = some (.int .i64 0) := (blk_cell BK275.out 0).trans rfl; have hcz57_1 : w55.cell? ⟨gb275, 1, none⟩ = some (.int .i64 0) := (blk_cell BK275.out 1).trans rfl; have hcz57_2 : w55.cell? ⟨gb275, 2, none⟩ = some (.slice none 0 0) := (blk_cell BK275.out 2).trans rfl; have hfz57_0 := blk_frozen BK275.out 0; have hfz57_1 := blk_frozen BK275.out 1; have hfz57_2 := blk_frozen BK275.out 2; obtain ⟨Ao58, co58, eo58⟩ := Kd.V_slice HO272.out; subst eo58) | ((with_reducible refine gate_store (t := 24) (p := 7) rfl ?_); refine store_event (t := 24) (p := 7) (v := ?vo_w59) (w1 := (((w55.setCell ⟨gb275, 0, none⟩ (.int .i64 t268)).setCell ⟨gb275, 1, none⟩ (.int .i64 t269)).setCell ⟨gb275, 2, none⟩ (.slice Ao58 t270.length co58))) ?hg ?ho ?hn ?hr ?_; (case ho => rfl); (case hg => rfl); (case hn => rfl); (case hr => first | (go_simp; done) | (go_simp; rfl)); intro w59 hw; have n0_ : Aside0 (Kd.V k50 50 w59 w.heap.size (fun k_ => k_ ≠ gb266 ∧ k_ ≠ gb275) (.slice Ao58 t270.length co58) t270) := ⟨(by rw [hw]; exact (by (with_reducible repeat (first | apply Kd.V_alloc | apply Kd.V_drewN | apply Kd.V_drew)); exact Kd.V_mono (Kd.V_far (p := ⟨gb275, 2, none⟩) (Kd.V_far (p := ⟨gb275, 1, none⟩) (Kd.V_far (p := ⟨gb275, 0, none⟩) (Kd.V_mono HO272.out (fun k_ hk => (⟨hk, hk.2⟩ : _ ∧ k_ ≠ gb275))) (fun _ hk => hk.2) (.int .i64 t268)) (fun _ hk => hk.2) (.int .i64 t269)) (fun _ hk => hk.2) (.slice Ao58 t270.length co58)) (fun _ hk => ⟨hk.1.1, hk.1.2⟩)))⟩; have n1_ : Aside0 (w59.heap[gb266]? = some (.cells #[.int .i64 a0_0, .int .i64 a0_1, .slice A0_2 l0_2.length c0_2] 24 (0, 0))) := ⟨(by rw [hw]; exact (by (with_reducible repeat (first | refine blk_drewN ?_ _ | refine blk_drew ?_ | refine blk_alloc ?_ _)); refine blk_far ?_ NB266_275.out _; (with_reducible repeat (first | refine blk_drewN ?_ _ | refine blk_drew ?_ | refine blk_alloc ?_ _)); refine blk_far ?_ NB266_275.out _; (with_reducible repeat (first | refine blk_drewN ?_ _ | refine blk_drew ?_ | refine blk_alloc ?_ _)); refine blk_far ?_ NB266_275.out _; (with_reducible repeat (first | refine blk_drewN ?_ _ | refine blk_drew ?_ | refine blk_alloc ?_ _)); exact BK266.out))⟩; have n2_ : Aside0 (w59.heap[gb275]? = some (.cells #[.int .i64 t268, .int .i64 t269, .slice Ao58 t270.length co58] 24 (0, 0))) := ⟨(by rw [hw]; exact (by (with_reducible repeat (first | refine blk_drewN ?_ _ | refine blk_drew ?_ | refine blk_alloc ?_ _)); refine blk_put (cs := #[.int .i64 t268, .int .i64 t269, .slice none 0 0]) ?_ 2 _ rfl; (with_reducible repeat (first | refine blk_drewN ?_ _ | refine blk_drew ?_ | refine blk_alloc ?_ _)); refine blk_put (cs := #[.int .i64 t268, .int .i64 0, .slice none 0 0]) ?_ 1 _ rfl; (with_reducible repeat (first | refine blk_drewN ?_ _ | refine blk_drew ?_ | refine blk_alloc ?_ _)); refine blk_put (cs := #[.int .i64 0, .int .i64 0, .slice none 0 0]) ?_ 0 _ rfl; (with_reducible repeat (first | refine blk_drewN ?_ _ | refine blk_drew ?_ | refine blk_alloc ?_ _)); exact BK275.out))⟩; have n3_ : Aside0 (Below w.heap.size w w59) := ⟨(by rw [hw]; exact (zc2 HB GE266 GE275))⟩; clear hw; clear HO272; clear BK266; clear BK275; clear HB; have HO272 := n0_; have BK266 := n1_; have BK275 := n2_; have HB := n3_; clear n0_ n1_ n2_ n3_; have hcz60_0 : w59.cell? ⟨gb275, 0, none⟩ = some (.int .i64 t268) := (blk_cell BK275.out 0).trans rfl; have hcz60_1 : w59.cell? ⟨gb275, 1, none⟩ = some (.int .i64 t269) := (blk_cell BK275.out 1).trans rfl; have hcz60_2 : w59.cell? ⟨gb275, 2, none⟩ = some (.slice Ao58 t270.length co58) := (blk_cell BK275.out 2).trans rfl; have hfz60_0 := blk_frozen BK275.out 0; have hfz60_1 := blk_frozen BK275.out 1; have hfz60_2 := blk_frozen BK275.out 2) | ((with_reducible refine gate_callee (f := 15) rfl ?_); refine goesL_ (some 71) rfl rfl Try.func15 (by kernel_rfl) rfl #[.agg #[.int .i64 t268, .int .i64 t269, .slice Ao58 t270.length co58], .int .i64 a1] rfl zm ?_; (with_reducible refine (sema_Leave.calls k t268 t269 (fun k_ => (k_ ≠ gb266 ∧ k_ ≠ gb275)) _ _ t270 a1 t310 t311 t312 t315 t318 _ ?side1 A44.out).mono ?_); (case side1 => exact HO272.out); rintro e w61 ⟨v313, v316, rfl, ho0, ho1, hb⟩; refine ⟨_, rfl, ?_⟩; have n0_ := Aside0.mk (Kd.V_elder' (zV HO272) (Kd.R_base ho1) hb); have n1_ := Aside0.mk (Kd.V_lower (Kd.V_mono (ok' := fun k_ => some k_ ≠ (v316 : Value).ownBlock ∧ k_ ≠ gb266 ∧ k_ ≠ gb275) ho0 (fun k_ hk_ => ⟨hk_.2, Or.elim hk_.1 (fun hs_ => hs_.1) (fun hn_ => (Kd.freshB (g := gb266) (o := .cells #[.int .i64 a0_0, .int .i64 a0_1, .slice A0_2 l0_2.length c0_2] 24 (0, 0)) (zb BK266) k_ hn_)), Or.elim hk_.1 (fun hs_ => hs_.2) (fun hn_ => (Kd.freshB (g := gb275) (o := .cells #[.int .i64 t268, .int .i64 t269, .slice Ao58 t270.length co58] 24 (0, 0)) (zb BK275) k_ hn_))⟩)) (below_size (zc2 HB GE266 GE275))); have n2_ := Aside0.mk (Kd.R_lower (Kd.R_mono (ok' := fun k_ => True) ho1 (fun _ hk_ => trivial)) (below_size (zc2 HB GE266 GE275))); have n3_ := Aside0.mk (blk_below (g := gb266) (o := .cells #[.int .i64 a0_0, .int .i64 a0_1, .slice A0_2 l0_2.length c0_2] 24 (0, 0)) (zb BK266) hb); have n4_ := Aside0.mk (blk_below (g := gb275) (o := .cells #[.int .i64 t268, .int .i64 t269, .slice Ao58 t270.length co58] 24 (0, 0)) (zb BK275) hb); have n5_ := Aside0.mk (below_step (zc2 HB GE266 GE275) hb); clear HO272; clear BK266; clear BK275; clear HB; have HO272 := n0_; have HO314 := n1_; have HO317 := n2_; have BK266 := n3_; have BK275 := n4_; have HB := n5_; clear n0_ n1_ n2_ n3_ n4_ n5_; (try clear hb); (try clear hb2); (try clear hk); (try clear hi); (try clear ho0); (try clear ho1)) | ((with_reducible refine gate_dst (N := 13) rfl ?_); (try (refine gate_guard (by rfl) ?_; dsimp only)); refine box_event ?hg (N := 13) ?hd (cs := #[.int .i64 0, .int .i64 0, .slice none 0 0]) (t := 24) ?hr ?_; (case hd => rfl); (case hg => rfl); (case hr => first | (go_simp; done) | (go_simp; rfl)); intro gb319 hg w62 hbox hb; have n0_ := Aside0.mk (Kd.V_below (Kd.V_elderB (zV HO272) gb319 (Nat.le_of_eq hg.symm)) hb); have n1_ := Aside0.mk (Kd.V_below (Kd.V_elderB (zV HO314) gb319 (Nat.le_of_eq hg.symm)) hb); have n2_ := Aside0.mk (Kd.R_below (zR HO317) hb); have n3_ := Aside0.mk (blk_below (g := gb266) (o := .cells #[.int .i64 a0_0, .int .i64 a0_1, .slice A0_2 l0_2.length c0_2] 24 (0, 0)) (zb BK266) hb); have n4_ := Aside0.mk (blk_below (g := gb275) (o := .cells #[.int .i64 t268, .int .i64 t269, .slice Ao58 t270.length co58] 24 (0, 0)) (zb BK275) hb); have n5_ := Aside0.mk (below_step (zc2 HB GE266 GE275) hb); have n6_ := Aside0.mk (hbox); have n7_ := Aside0.mk ((by rw [hg]; exact (below_size (zc2 HB GE266 GE275)) : w.heap.size ≤ gb319)); have n8_ := Aside0.mk ((by rw [hg]; exact (below_size (zc2 HB GE266 GE275)) : w.heap.size ≤ gb319)); have n9_ := Aside0.mk ((by rw [hg]; exact Nat.ne_of_lt (blk_lt (g := gb266) (o := .cells #[.int .i64 a0_0, .int .i64 a0_1, .slice A0_2 l0_2.length c0_2] 24 (0, 0)) (zb BK266)) : gb266 ≠ gb319)); have n10_ := Aside0.mk ((by rw [hg]; exact Nat.ne_of_gt (blk_lt (g := gb266) (o := .cells #[.int .i64 a0_0, .int .i64 a0_1, .slice A0_2 l0_2.length c0_2] 24 (0, 0)) (zb BK266)) : gb319 ≠ gb266)); have n11_ := Aside0.mk ((by rw [hg]; exact Nat.ne_of_lt (blk_lt (g := gb275) (o := .cells #[.int .i64 t268, .int .i64 t269, .slice Ao58 t270.length co58] 24 (0, 0)) (zb BK275)) : gb275 ≠ gb319)); have n12_ := Aside0.mk ((by rw [hg]; exact Nat.ne_of_gt (blk_lt (g := gb275) (o := .cells #[.int .i64 t268, .int .i64 t269, .slice Ao58 t270.length co58] 24 (0, 0)) (zb BK275)) : gb319 ≠ gb275)); clear HO272; clear HO314; clear HO317; clear BK266; clear BK275; clear HB; have HO272 := n0_; have HO314 := n1_; have HO317 := n2_; have BK266 := n3_; have BK275 := n4_; have HB := n5_; have BK319 := n6_; have GW319 := n7_; have GE319 := n8_; have NB266_319 := n9_; have NB319_266 := n10_; have NB275_319 := n11_; have NB319_275 := n12_; clear n0_ n1_ n2_ n3_ n4_ n5_ n6_ n7_ n8_ n9_ n10_ n11_ n12_; clear hb hbox hg; have hnb63 := NB319_266.out; have hnc63 := NB266_319.out; have hnb64 := NB319_275.out; have hnc64 := NB275_319.out; have hcz65_0 : w62.cell? ⟨gb319, 0, none⟩ = some (.int .i64 0) := (blk_cell BK319.out 0).trans rfl; have hcz65_1 : w62.cell? ⟨gb319, 1, none⟩ = some (.int .i64 0) := (blk_cell BK319.out 1).trans rfl; have hcz65_2 : w62.cell? ⟨gb319, 2, none⟩ = some (.slice none 0 0) := (blk_cell BK319.out 2).trans rfl; have hfz65_0 := blk_frozen BK319.out 0; have hfz65_1 := blk_frozen BK319.out 1; have hfz65_2 := blk_frozen BK319.out 2; obtain ⟨Ao66, co66, eo66⟩ := Kd.V_slice HO314.out; subst eo66))
              have n0_ : Aside0 (Kd.V k50 50 (((w62.setCell ⟨gb319, 0, none⟩ (.int .i64 t310)).setCell ⟨gb319, 1, none⟩ (.int .i64 t311)).setCell ⟨gb319, 2, none⟩ (.slice Ao66 t312.length co66)) w.heap.size (fun k_ => some k_ ≠ (v316 : Value).ownBlock ∧ k_ ≠ gb266 ∧ k_ ≠ gb275 ∧ k_ ≠ gb319) (.slice Ao58 t270.length co58) t270) := ⟨by (with_reducible repeat (first | apply Kd.V_alloc | apply Kd.V_drewN | apply Kd.V_drew)); exact Kd.V_mono (Kd.V_far (p := ⟨gb319, 2, none⟩) (Kd.V_far (p := ⟨gb319, 1, none⟩) (Kd.V_far (p := ⟨gb319, 0, none⟩) (Kd.V_mono HO272.out (fun k_ hk => (⟨hk, hk.2⟩ : _ ∧ k_ ≠ gb319))) (fun _ hk => hk.2) (.int .i64 t310)) (fun _ hk => hk.2) (.int .i64 t311)) (fun _ hk => hk.2) (.slice Ao66 t312.length co66)) (fun _ hk => ⟨hk.1.1.2, ⟨hk.1.1.1.1, ⟨hk.1.1.1.2, hk.1.2⟩⟩⟩)⟩
              have n1_ : Aside0 (Kd.V k50 50 (((w62.setCell ⟨gb319, 0, none⟩ (.int .i64 t310)).setCell ⟨gb319, 1, none⟩ (.int .i64 t311)).setCell ⟨gb319, 2, none⟩ (.slice Ao66 t312.length co66)) w.heap.size (fun k_ => some k_ ≠ (v316 : Value).ownBlock ∧ k_ ≠ gb266 ∧ k_ ≠ gb275 ∧ k_ ≠ gb319) (.slice Ao66 t312.length co66) t312) := ⟨by (with_reducible repeat (first | apply Kd.V_alloc | apply Kd.V_drewN | apply Kd.V_drew)); exact Kd.V_mono (Kd.V_far (p := ⟨gb319, 2, none⟩) (Kd.V_far (p := ⟨gb319, 1, none⟩) (Kd.V_far (p := ⟨gb319, 0, none⟩) (Kd.V_mono HO314.out (fun k_ hk => (⟨hk, hk.2⟩ : _ ∧ k_ ≠ gb319))) (fun _ hk => hk.2) (.int .i64 t310)) (fun _ hk => hk.2) (.int .i64 t311)) (fun _ hk => hk.2) (.slice Ao66 t312.length co66)) (fun _ hk => ⟨hk.1.1.1, ⟨hk.1.1.2.1, ⟨hk.1.1.2.2, hk.1.2⟩⟩⟩)⟩
              have n2_ : Aside0 (Kd.R k50 50 (((w62.setCell ⟨gb319, 0, none⟩ (.int .i64 t310)).setCell ⟨gb319, 1, none⟩ (.int .i64 t311)).setCell ⟨gb319, 2, none⟩ (.slice Ao66 t312.length co66)) w.heap.size (fun _ => True) v316 t315) := ⟨by (with_reducible repeat (first | apply Kd.R_alloc | apply Kd.R_drewN | apply Kd.R_drew)); exact Kd.R_mono (Kd.R_far (p := ⟨gb319, 2, none⟩) (Kd.R_far (p := ⟨gb319, 1, none⟩) (Kd.R_far (p := ⟨gb319, 0, none⟩) (Kd.R_types HO317.out BK319.out (by decide)) (fun _ hk => hk.2) (.int .i64 t310)) (fun _ hk => hk.2) (.int .i64 t311)) (fun _ hk => hk.2) (.slice Ao66 t312.length co66)) (fun _ hk => trivial)⟩
              have n3_ : Aside0 ((((w62.setCell ⟨gb319, 0, none⟩ (.int .i64 t310)).setCell ⟨gb319, 1, none⟩ (.int .i64 t311)).setCell ⟨gb319, 2, none⟩ (.slice Ao66 t312.length co66)).heap[gb266]? = some (.cells #[.int .i64 a0_0, .int .i64 a0_1, .slice A0_2 l0_2.length c0_2] 24 (0, 0))) := ⟨by (with_reducible repeat (first | refine blk_drewN ?_ _ | refine blk_drew ?_ | refine blk_alloc ?_ _)); refine blk_far ?_ NB266_319.out _; (with_reducible repeat (first | refine blk_drewN ?_ _ | refine blk_drew ?_ | refine blk_alloc ?_ _)); refine blk_far ?_ NB266_319.out _; (with_reducible repeat (first | refine blk_drewN ?_ _ | refine blk_drew ?_ | refine blk_alloc ?_ _)); refine blk_far ?_ NB266_319.out _; (with_reducible repeat (first | refine blk_drewN ?_ _ | refine blk_drew ?_ | refine blk_alloc ?_ _)); exact BK266.out⟩
              have n4_ : Aside0 ((((w62.setCell ⟨gb319, 0, none⟩ (.int .i64 t310)).setCell ⟨gb319, 1, none⟩ (.int .i64 t311)).setCell ⟨gb319, 2, none⟩ (.slice Ao66 t312.length co66)).heap[gb275]? = some (.cells #[.int .i64 t268, .int .i64 t269, .slice Ao58 t270.length co58] 24 (0, 0))) := ⟨by (with_reducible repeat (first | refine blk_drewN ?_ _ | refine blk_drew ?_ | refine blk_alloc ?_ _)); refine blk_far ?_ NB275_319.out _; (with_reducible repeat (first | refine blk_drewN ?_ _ | refine blk_drew ?_ | refine blk_alloc ?_ _)); refine blk_far ?_ NB275_319.out _; (with_reducible repeat (first | refine blk_drewN ?_ _ | refine blk_drew ?_ | refine blk_alloc ?_ _)); refine blk_far ?_ NB275_319.out _; (with_reducible repeat (first | refine blk_drewN ?_ _ | refine blk_drew ?_ | refine blk_alloc ?_ _)); exact BK275.out⟩
              have n5_ : Aside0 ((((w62.setCell ⟨gb319, 0, none⟩ (.int .i64 t310)).setCell ⟨gb319, 1, none⟩ (.int .i64 t311)).setCell ⟨gb319, 2, none⟩ (.slice Ao66 t312.length co66)).heap[gb319]? = some (.cells #[.int .i64 t310, .int .i64 t311, .slice Ao66 t312.length co66] 24 (0, 0))) := ⟨by (with_reducible repeat (first | refine blk_drewN ?_ _ | refine blk_drew ?_ | refine blk_alloc ?_ _)); refine blk_put (cs := #[.int .i64 t310, .int .i64 t311, .slice none 0 0]) ?_ 2 _ rfl; (with_reducible repeat (first | refine blk_drewN ?_ _ | refine blk_drew ?_ | refine blk_alloc ?_ _)); refine blk_put (cs := #[.int .i64 t310, .int .i64 0, .slice none 0 0]) ?_ 1 _ rfl; (with_reducible repeat (first | refine blk_drewN ?_ _ | refine blk_drew ?_ | refine blk_alloc ?_ _)); refine blk_put (cs := #[.int .i64 0, .int .i64 0, .slice none 0 0]) ?_ 0 _ rfl; (with_reducible repeat (first | refine blk_drewN ?_ _ | refine blk_drew ?_ | refine blk_alloc ?_ _)); exact BK319.out⟩
              have n6_ : Aside0 (Below w.heap.size w (((w62.setCell ⟨gb319, 0, none⟩ (.int .i64 t310)).setCell ⟨gb319, 1, none⟩ (.int .i64 t311)).setCell ⟨gb319, 2, none⟩ (.slice Ao66 t312.length co66))) := ⟨by repeat (first | (with_reducible first | exact HB.out | apply below_alloc | apply pw_below_drewN | apply below_drew1 | refine below_set ?_ GE266.out | refine below_set ?_ GE275.out | refine below_set ?_ GE319.out) | exact HB.out)⟩
              (try clear HO272)
              (try clear HO314)
              (try clear HO317)
              (try clear BK266)
              (try clear BK275)
              (try clear BK319)
              (try clear HB)
              generalize (((w62.setCell ⟨gb319, 0, none⟩ (.int .i64 t310)).setCell ⟨gb319, 1, none⟩ (.int .i64 t311)).setCell ⟨gb319, 2, none⟩ (.slice Ao66 t312.length co66)) = w67 at n0_ n1_ n2_ n3_ n4_ n5_ n6_ ⊢
              have HO272 := n0_
              have HO314 := n1_
              have HO317 := n2_
              have BK266 := n3_
              have BK275 := n4_
              have BK319 := n5_
              have HB := n6_
              clear n0_ n1_ n2_ n3_ n4_ n5_ n6_
              have n0_ := Aside0.mk (Kd.V_drew HO272.out)
              have n1_ := Aside0.mk (Kd.V_drew HO314.out)
              have n2_ := Aside0.mk (Kd.R_drew HO317.out)
              have n3_ := Aside0.mk (blk_drew BK266.out)
              have n4_ := Aside0.mk (blk_drew BK275.out)
              have n5_ := Aside0.mk (blk_drew BK319.out)
              have n6_ := Aside0.mk (below_drew1 HB.out)
              clear HO272
              clear HO314
              clear HO317
              clear BK266
              clear BK275
              clear BK319
              clear HB
              have HO272 := n0_
              have HO314 := n1_
              have HO317 := n2_
              have BK266 := n3_
              have BK275 := n4_
              have BK319 := n5_
              have HB := n6_
              clear n0_ n1_ n2_ n3_ n4_ n5_ n6_
              obtain ⟨Ao69, co69, eo69⟩ := Kd.R_slice HO317.out
              (first | subst eo69 | (injection eo69 with f1_ f2_ f3_; have f4_ := f1_.symm; have f5_ := f3_.symm; clear f1_ f2_ f3_; subst f4_; subst f5_))
              refine start_ (n := 18) (S := fun w' => w'.cell? ⟨gb319, 0, none⟩ = some (.int .i64 t310) ∧ w'.cell? ⟨gb319, 1, none⟩ = some (.int .i64 t311) ∧ w'.cell? ⟨gb319, 2, none⟩ = some (.slice Ao66 t312.length co66) ∧ w'.cell? ⟨gb266, 0, none⟩ = some (.int .i64 a0_0) ∧ w'.cell? ⟨gb266, 1, none⟩ = some (.int .i64 a0_1) ∧ w'.cell? ⟨gb266, 2, none⟩ = some (.slice A0_2 l0_2.length c0_2)) (ds := []) #[false, false, false, false, false, false, false, false, false, false, false, false, false, false, false, false, false, false] (by kernel_rfl) rfl rfl ⟨(blk_cell BK319.out 0).trans rfl, (blk_cell BK319.out 1).trans rfl, (blk_cell BK319.out 2).trans rfl, (blk_cell BK266.out 0).trans rfl, (blk_cell BK266.out 1).trans rfl, (blk_cell BK266.out 2).trans rfl⟩ (fun hHeld => ?_); refine with_tabW handshakerlaw18_SemaLeaves.tab10 handshakerlaw18_SemaLeaves.bits10 (fun HT_ HW_ => ?_)
              generalize w67.drew = w68 at HO272 HO314 HO317 BK266 BK275 BK319 HB hHeld ⊢
              refine pure_ (i := 0) (N := some 75) (v := ?_) (a' := ?_) #[true, false, false, false, false, false, false, false, false, false, false, false, false, false, false, false, false, false] rfl rfl (any_of HT_.out (by kernel_rfl)) (fun _ _ _ h => h) (Or.inl ⟨by rfl, ?_⟩) ?_ ?_
              rotate_left
              · intro w'
                go_simp
                with_reducible rfl
              rotate_left
              · simp only [Act.put, List.setIfInBounds_toArray, List.set_cons_zero, List.set_cons_succ, i64_w, i32_w]
                rfl
              refine pure_ (i := 1) (N := some 76) (v := ?_) (a' := ?_) #[true, true, false, false, false, false, false, false, false, false, false, false, false, false, false, false, false, false] rfl rfl (any_of HT_.out (by kernel_rfl)) (fun _ _ _ h => h) (Or.inl ⟨by rfl, ?_⟩) ?_ ?_
              rotate_left
              · intro w'
                go_simp
                with_reducible rfl
              rotate_left
              · simp only [Act.put, List.setIfInBounds_toArray, List.set_cons_zero, List.set_cons_succ, i64_w, i32_w]
                rfl
              refine pure_ (i := 2) (N := some 77) (v := ?_) (a' := ?_) #[true, true, true, false, false, false, false, false, false, false, false, false, false, false, false, false, false, false] rfl rfl (any_of HT_.out (by kernel_rfl)) (fun _ _ _ h => h) (Or.inl ⟨by rfl, ?_⟩) ?_ ?_
              rotate_left
              · intro w'
                go_simp
                with_reducible rfl
              rotate_left
              · simp only [Act.put, List.setIfInBounds_toArray, List.set_cons_zero, List.set_cons_succ, i64_w, i32_w]
                rfl
              refine pure_ (i := 3) (N := some 78) (v := ?_) (a' := ?_) #[true, true, true, true, false, false, false, false, false, false, false, false, false, false, false, false, false, false] rfl rfl (any_of HT_.out (by kernel_rfl)) (fun _ _ _ h => h) (Or.inl ⟨by rfl, ?_⟩) ?_ ?_
              rotate_left
              · intro w'
                go_simp
                with_reducible rfl
              rotate_left
              · simp only [Act.put, List.setIfInBounds_toArray, List.set_cons_zero, List.set_cons_succ, i64_w, i32_w]
                rfl
              refine pure_ (i := 4) (N := some 79) (v := ?_) (a' := ?_) #[true, true, true, true, true, false, false, false, false, false, false, false, false, false, false, false, false, false] rfl rfl (any_of HT_.out (by kernel_rfl)) (fun _ _ _ h => h) (Or.inl ⟨by rfl, ?_⟩) ?_ ?_
              rotate_left
              · intro w'
                go_simp
                with_reducible rfl
              rotate_left
              · simp only [Act.put, List.setIfInBounds_toArray, List.set_cons_zero, List.set_cons_succ, i64_w, i32_w]
                rfl
              refine pure_ (i := 5) (N := some 80) (v := ?_) (a' := ?_) #[true, true, true, true, true, true, false, false, false, false, false, false, false, false, false, false, false, false] rfl rfl (any_of HT_.out (by kernel_rfl)) (fun _ _ _ h => h) (Or.inl ⟨by rfl, ?_⟩) ?_ ?_
              rotate_left
              · intro w'
                go_simp
                with_reducible rfl
              rotate_left
              · simp only [Act.put, List.setIfInBounds_toArray, List.set_cons_zero, List.set_cons_succ, i64_w, i32_w]
                rfl
              refine pure_ (i := 6) (N := some 81) (v := ?_) (a' := ?_) #[true, true, true, true, true, true, true, false, false, false, false, false, false, false, false, false, false, false] rfl rfl (any_of HT_.out (by kernel_rfl)) (fun _ _ _ h => h) (Or.inl ⟨by rfl, ?_⟩) ?_ ?_
              rotate_left
              · intro w'
                go_simp
                with_reducible rfl
              rotate_left
              · simp only [Act.put, List.setIfInBounds_toArray, List.set_cons_zero, List.set_cons_succ, i64_w, i32_w]
                rfl
              refine pure_ (i := 7) (N := some 82) (v := ?_) (a' := ?_) #[true, true, true, true, true, true, true, true, false, false, false, false, false, false, false, false, false, false] rfl rfl (any_of HT_.out (by kernel_rfl)) (fun _ _ _ h => h) (Or.inl ⟨by rfl, ?_⟩) ?_ ?_
              rotate_left
              · intro w'
                go_simp
                with_reducible rfl
              rotate_left
              · simp only [Act.put, List.setIfInBounds_toArray, List.set_cons_zero, List.set_cons_succ, i64_w, i32_w]
                rfl
              refine take_ (i := 8) (N := some 83) (v := ?_) (a' := ?_) #[true, true, true, true, true, true, true, true, true, false, false, false, false, false, false, false, false, false] rfl rfl (take_ofW HT_.out HW_.out (by kernel_rfl)) (fun _ _ _ h => h) (Or.inl ⟨by rfl, ?_⟩) hHeld ?_ ?_
              rotate_left
              · rintro w' ⟨s0, s1, s2, s3, s4, s5⟩
                go_simp
                with_reducible rfl
              rotate_left
              · simp only [Act.put, List.setIfInBounds_toArray, List.set_cons_zero, List.set_cons_succ, i64_w, i32_w]
                rfl
              refine take_ (i := 10) (N := some 85) (v := ?_) (a' := ?_) #[true, true, true, true, true, true, true, true, true, false, true, false, false, false, false, false, false, false] rfl rfl (take_ofW HT_.out HW_.out (by kernel_rfl)) (fun _ _ _ h => h) (Or.inl ⟨by rfl, ?_⟩) hHeld ?_ ?_
              rotate_left
              · rintro w' ⟨s0, s1, s2, s3, s4, s5⟩
                go_simp
                with_reducible rfl
              rotate_left
              · simp only [Act.put, List.setIfInBounds_toArray, List.set_cons_zero, List.set_cons_succ, i64_w, i32_w]
                rfl
              refine one_ (i := 9) (N := some 84) #[true, true, true, true, true, true, true, true, true, true, true, false, false, false, false, false, false, false] rfl rfl (one_of HT_.out (by kernel_rfl)) (by decide) (fun K hK => ?_)
              refine goes_ Try.func10 (by kernel_rfl) rfl #[.agg #[.int .i64 t310, .int .i64 t311, .slice Ao66 t312.length co66]] (by rfl) rfl rfl zm ?_
              with_reducible refine (handshakerlaw18_Ref.calls k t310 t311 _ _ t312 t320 t321 t322 _ ?side1 ?side2 A47.out).mono ?_
              (case side1 => repeat (first | exact (Kd.V_reads' HO314.out).2.2 | (with_reducible refine Kd.C_alloc ?_ _) | (with_reducible refine Kd.C_drewN ?_ _) | (with_reducible refine Kd.C_drew ?_)))
              (case side2 => exact (Kd.V_reads' HO314.out).2.1)
              rintro e w70 ⟨v323, rfl, ho0, hb⟩
              refine ⟨_, rfl, ?_⟩
              have n0_ := Aside0.mk (Kd.V_elder' (zV HO272) (Kd.R_base ho0) hb)
              have n1_ := Aside0.mk (Kd.V_elder' (zV HO314) (Kd.R_base ho0) hb)
              have n2_ := Aside0.mk (Kd.R_below (zR HO317) hb)
              have n3_ := Aside0.mk (Kd.R_lower ho0 (below_size (zc3 HB GE266 GE275 GE319)))
              have n4_ := Aside0.mk (blk_below (g := gb266) (o := .cells #[.int .i64 a0_0, .int .i64 a0_1, .slice A0_2 l0_2.length c0_2] 24 (0, 0)) (zb BK266) hb)
              have n5_ := Aside0.mk (blk_below (g := gb275) (o := .cells #[.int .i64 t268, .int .i64 t269, .slice Ao58 t270.length co58] 24 (0, 0)) (zb BK275) hb)
              have n6_ := Aside0.mk (blk_below (g := gb319) (o := .cells #[.int .i64 t310, .int .i64 t311, .slice Ao66 t312.length co66] 24 (0, 0)) (zb BK319) hb)
              have n7_ := Aside0.mk (below_step (zc3 HB GE266 GE275 GE319) hb)
              clear HO272
              clear HO314
              clear HO317
              clear BK266
              clear BK275
              clear BK319
              clear HB
              have HO272 := n0_
              have HO314 := n1_
              have HO317 := n2_
              have HO324 := n3_
              have BK266 := n4_
              have BK275 := n5_
              have BK319 := n6_
              have HB := n7_
              clear n0_ n1_ n2_ n3_ n4_ n5_ n6_ n7_
              (try clear hb)
              (try clear hb2)
              (try clear hk)
              (try clear hi)
              (try clear ho0)
              refine hK.out _ _ ⟨(blk_cell BK319.out 0).trans rfl, (blk_cell BK319.out 1).trans rfl, (blk_cell BK319.out 2).trans rfl, (blk_cell BK266.out 0).trans rfl, (blk_cell BK266.out 1).trans rfl, (blk_cell BK266.out 2).trans rfl⟩ (fun hHeld => ?_)
              clear hK K
              refine norm_ (a' := ?_) ?_ ?_
              rotate_left
              · show Act.put _ (some 84) _ = _
                simp only [Act.put, List.setIfInBounds_toArray, List.set_cons_zero, List.set_cons_succ, i64_w, i32_w]
                rfl
              refine one_ (i := 11) (N := some 86) #[true, true, true, true, true, true, true, true, true, true, true, true, false, false, false, false, false, false] rfl rfl (one_of HT_.out (by kernel_rfl)) (by decide) (fun K hK => ?_)
              refine goes_ Try.func10 (by kernel_rfl) rfl #[.agg #[.int .i64 a0_0, .int .i64 a0_1, .slice A0_2 l0_2.length c0_2]] (by rfl) rfl rfl zm ?_
              with_reducible refine (handshakerlaw18_Ref.calls k a0_0 a0_1 _ _ l0_2 t325 t326 t327 _ ?side1 ?side2 A48.out).mono ?_
              (case side1 => repeat (first | exact (Kd.C_below HR0_2.out HB.out) | (with_reducible refine Kd.C_alloc ?_ _) | (with_reducible refine Kd.C_drewN ?_ _) | (with_reducible refine Kd.C_drew ?_)))
              (case side2 => exact HC0_2.out)
              rintro e w71 ⟨v328, rfl, ho0, hb⟩
              refine ⟨_, rfl, ?_⟩
              have n0_ := Aside0.mk (Kd.V_elder' (zV HO272) (Kd.R_base ho0) hb)
              have n1_ := Aside0.mk (Kd.V_elder' (zV HO314) (Kd.R_base ho0) hb)
              have n2_ := Aside0.mk (Kd.R_below (zR HO317) hb)
              have n3_ := Aside0.mk (Kd.R_elder' (zR HO324) (Kd.R_base ho0) hb)
              have n4_ := Aside0.mk (Kd.R_lower (Kd.R_new' ho0 (Kd.R_lt (zR HO324))) (below_size (zc3 HB GE266 GE275 GE319)))
              have n5_ := Aside0.mk (blk_below (g := gb266) (o := .cells #[.int .i64 a0_0, .int .i64 a0_1, .slice A0_2 l0_2.length c0_2] 24 (0, 0)) (zb BK266) hb)
              have n6_ := Aside0.mk (blk_below (g := gb275) (o := .cells #[.int .i64 t268, .int .i64 t269, .slice Ao58 t270.length co58] 24 (0, 0)) (zb BK275) hb)
              have n7_ := Aside0.mk (blk_below (g := gb319) (o := .cells #[.int .i64 t310, .int .i64 t311, .slice Ao66 t312.length co66] 24 (0, 0)) (zb BK319) hb)
              have n8_ := Aside0.mk (below_step (zc3 HB GE266 GE275 GE319) hb)
              clear HO272
              clear HO314
              clear HO317
              clear HO324
              clear BK266
              clear BK275
              clear BK319
              clear HB
              have HO272 := n0_
              have HO314 := n1_
              have HO317 := n2_
              have HO324 := n3_
              have HO329 := n4_
              have BK266 := n5_
              have BK275 := n6_
              have BK319 := n7_
              have HB := n8_
              clear n0_ n1_ n2_ n3_ n4_ n5_ n6_ n7_ n8_
              (try clear hb)
              (try clear hb2)
              (try clear hk)
              (try clear hi)
              (try clear ho0)
              obtain ⟨Ao72, co72, eo72⟩ := Kd.R_slice HO324.out
              (first | subst eo72 | (injection eo72 with f1_ f2_ f3_; have f4_ := f1_.symm; have f5_ := f3_.symm; clear f1_ f2_ f3_; subst f4_; subst f5_))
              obtain ⟨Ao73, co73, eo73⟩ := Kd.R_slice HO329.out
              (first | subst eo73 | (injection eo73 with f1_ f2_ f3_; have f4_ := f1_.symm; have f5_ := f3_.symm; clear f1_ f2_ f3_; subst f4_; subst f5_))
              refine hK.out _ _ ⟨(blk_cell BK319.out 0).trans rfl, (blk_cell BK319.out 1).trans rfl, (blk_cell BK319.out 2).trans rfl, (blk_cell BK266.out 0).trans rfl, (blk_cell BK266.out 1).trans rfl, (blk_cell BK266.out 2).trans rfl⟩ (fun hHeld => ?_)
              clear hK K
              refine norm_ (a' := ?_) ?_ ?_
              rotate_left
              · show Act.put _ (some 86) _ = _
                simp only [Act.put, List.setIfInBounds_toArray, List.set_cons_zero, List.set_cons_succ, i64_w, i32_w]
                rfl
              refine one_ (i := 12) (N := some 87) #[true, true, true, true, true, true, true, true, true, true, true, true, true, false, false, false, false, false] rfl rfl (one_of HT_.out (by kernel_rfl)) (by decide) (fun K hK => ?_)
              refine goes_ Try.func20 (by kernel_rfl) rfl #[.agg #[.int .i64 t320, .int .i64 t321, .slice Ao72 t322.length co72], .agg #[.int .i64 t325, .int .i64 t326, .slice Ao73 t327.length co73]] (by rfl) rfl rfl zm ?_
              with_reducible refine (handshakerref18_Same.calls k t320 t321 _ _ t322 t325 t326 _ _ t327 true _ ?side1 ?side2 ?side3 ?side4 A49.out).mono ?_
              (case side1 => repeat (first | exact (Kd.R_reads' HO324.out).2.2 | (with_reducible refine Kd.C_alloc ?_ _) | (with_reducible refine Kd.C_drewN ?_ _) | (with_reducible refine Kd.C_drew ?_)))
              (case side2 => exact (Kd.R_reads' HO324.out).2.1)
              (case side3 => repeat (first | exact (Kd.R_reads' HO329.out).2.2 | (with_reducible refine Kd.C_alloc ?_ _) | (with_reducible refine Kd.C_drewN ?_ _) | (with_reducible refine Kd.C_drew ?_)))
              (case side4 => exact (Kd.R_reads' HO329.out).2.1)
              rintro e w74 ⟨rfl, hb⟩
              refine ⟨_, rfl, ?_⟩
              have n0_ := Aside0.mk (Kd.V_below (zV HO272) hb)
              have n1_ := Aside0.mk (Kd.V_below (zV HO314) hb)
              have n2_ := Aside0.mk (Kd.R_below (zR HO317) hb)
              have n3_ := Aside0.mk (Kd.R_below (zR HO324) hb)
              have n4_ := Aside0.mk (Kd.R_below (zR HO329) hb)
              have n5_ := Aside0.mk (blk_below (g := gb266) (o := .cells #[.int .i64 a0_0, .int .i64 a0_1, .slice A0_2 l0_2.length c0_2] 24 (0, 0)) (zb BK266) hb)
              have n6_ := Aside0.mk (blk_below (g := gb275) (o := .cells #[.int .i64 t268, .int .i64 t269, .slice Ao58 t270.length co58] 24 (0, 0)) (zb BK275) hb)
              have n7_ := Aside0.mk (blk_below (g := gb319) (o := .cells #[.int .i64 t310, .int .i64 t311, .slice Ao66 t312.length co66] 24 (0, 0)) (zb BK319) hb)
              have n8_ := Aside0.mk (below_step (zc3 HB GE266 GE275 GE319) hb)
              clear HO272
              clear HO314
              clear HO317
              clear HO324
              clear HO329
              clear BK266
              clear BK275
              clear BK319
              clear HB
              have HO272 := n0_
              have HO314 := n1_
              have HO317 := n2_
              have HO324 := n3_
              have HO329 := n4_
              have BK266 := n5_
              have BK275 := n6_
              have BK319 := n7_
              have HB := n8_
              clear n0_ n1_ n2_ n3_ n4_ n5_ n6_ n7_ n8_
              (try clear hb)
              (try clear hb2)
              (try clear hk)
              (try clear hi)
              refine hK.out _ _ ⟨(blk_cell BK319.out 0).trans rfl, (blk_cell BK319.out 1).trans rfl, (blk_cell BK319.out 2).trans rfl, (blk_cell BK266.out 0).trans rfl, (blk_cell BK266.out 1).trans rfl, (blk_cell BK266.out 2).trans rfl⟩ (fun hHeld => ?_)
              clear hK K
              refine norm_ (a' := ?_) ?_ ?_
              rotate_left
              · show Act.put _ (some 87) _ = _
                simp only [Act.put, List.setIfInBounds_toArray, List.set_cons_zero, List.set_cons_succ, i64_w, i32_w]
                rfl
              refine pure_ (i := 13) (N := some 88) (v := ?_) (a' := ?_) #[true, true, true, true, true, true, true, true, true, true, true, true, true, true, false, false, false, false] rfl rfl (any_of HT_.out (by kernel_rfl)) (fun _ _ _ h => h) (Or.inl ⟨by rfl, ?_⟩) ?_ ?_
              rotate_left
              · intro w'
                go_simp
                with_reducible rfl
              rotate_left
              · simp only [Act.put, List.setIfInBounds_toArray, List.set_cons_zero, List.set_cons_succ, i64_w, i32_w]
                rfl
              refine pure_ (i := 14) (N := some 89) (v := ?_) (a' := ?_) #[true, true, true, true, true, true, true, true, true, true, true, true, true, true, true, false, false, false] rfl rfl (any_of HT_.out (by kernel_rfl)) (fun _ _ _ h => h) (Or.inl ⟨by rfl, ?_⟩) ?_ ?_
              rotate_left
              · intro w'
                go_simp
                with_reducible rfl
              rotate_left
              · simp only [Act.put, List.setIfInBounds_toArray, List.set_cons_zero, List.set_cons_succ, i64_w, i32_w]
                rfl
              refine one_ (i := 15) (N := some 90) #[true, true, true, true, true, true, true, true, true, true, true, true, true, true, true, true, false, false] rfl rfl (one_of HT_.out (by kernel_rfl)) (by decide) (fun K hK => ?_)
              refine goes_ Try.func9 (by kernel_rfl) rfl #[] (by rfl) rfl rfl zm ?_
              with_reducible refine (handshakerlaw18_awake.calls k  t331 _ A51.out).mono ?_
              rintro e w75 ⟨rfl, hb⟩
              refine ⟨_, rfl, ?_⟩
              have n0_ := Aside0.mk (Kd.V_below (zV HO272) hb)
              have n1_ := Aside0.mk (Kd.V_below (zV HO314) hb)
              have n2_ := Aside0.mk (Kd.R_below (zR HO317) hb)
              have n3_ := Aside0.mk (Kd.R_below (zR HO324) hb)
              have n4_ := Aside0.mk (Kd.R_below (zR HO329) hb)
              have n5_ := Aside0.mk (blk_below (g := gb266) (o := .cells #[.int .i64 a0_0, .int .i64 a0_1, .slice A0_2 l0_2.length c0_2] 24 (0, 0)) (zb BK266) hb)
              have n6_ := Aside0.mk (blk_below (g := gb275) (o := .cells #[.int .i64 t268, .int .i64 t269, .slice Ao58 t270.length co58] 24 (0, 0)) (zb BK275) hb)
              have n7_ := Aside0.mk (blk_below (g := gb319) (o := .cells #[.int .i64 t310, .int .i64 t311, .slice Ao66 t312.length co66] 24 (0, 0)) (zb BK319) hb)
              have n8_ := Aside0.mk (below_step (zc3 HB GE266 GE275 GE319) hb)
              clear HO272
              clear HO314
              clear HO317
              clear HO324
              clear HO329
              clear BK266
              clear BK275
              clear BK319
              clear HB
              have HO272 := n0_
              have HO314 := n1_
              have HO317 := n2_
              have HO324 := n3_
              have HO329 := n4_
              have BK266 := n5_
              have BK275 := n6_
              have BK319 := n7_
              have HB := n8_
              clear n0_ n1_ n2_ n3_ n4_ n5_ n6_ n7_ n8_
              (try clear hb)
              (try clear hb2)
              (try clear hk)
              (try clear hi)
              refine hK.out _ _ ⟨(blk_cell BK319.out 0).trans rfl, (blk_cell BK319.out 1).trans rfl, (blk_cell BK319.out 2).trans rfl, (blk_cell BK266.out 0).trans rfl, (blk_cell BK266.out 1).trans rfl, (blk_cell BK266.out 2).trans rfl⟩ (fun hHeld => ?_)
              clear hK K
              refine norm_ (a' := ?_) ?_ ?_
              rotate_left
              · show Act.put _ (some 90) _ = _
                simp only [Act.put, List.setIfInBounds_toArray, List.set_cons_zero, List.set_cons_succ, i64_w, i32_w]
                rfl
              refine pure_ (i := 16) (N := some 91) (v := ?_) (a' := ?_) #[true, true, true, true, true, true, true, true, true, true, true, true, true, true, true, true, true, false] rfl rfl (any_of HT_.out (by kernel_rfl)) (fun _ _ _ h => h) (Or.inl ⟨by rfl, ?_⟩) ?_ ?_
              rotate_left
              · intro w'
                go_simp
                with_reducible rfl
              rotate_left
              · simp only [Act.put, List.setIfInBounds_toArray, List.set_cons_zero, List.set_cons_succ, i64_w, i32_w]
                rfl
              refine pure_ (i := 17) (N := some 6) (v := ?_) (a' := ?_) #[true, true, true, true, true, true, true, true, true, true, true, true, true, true, true, true, true, true] rfl rfl (any_of HT_.out (by kernel_rfl)) (fun _ _ _ h => h) (Or.inl ⟨by rfl, ?_⟩) ?_ ?_
              rotate_left
              · intro w'
                go_simp
                with_reducible rfl
              rotate_left
              · simp only [Act.put, List.setIfInBounds_toArray, List.set_cons_zero, List.set_cons_succ, i64_w, i32_w]
                rfl
              refine done_ (done_of HT_.out (by kernel_rfl)) ?_
              try go_wp2
              go_ret
              exact ⟨by first | rfl | (simp [errW_none, errW_some] <;> rfl) | (simp [*, errW_none, errW_some] <;> rfl), by repeat (first | (with_reducible first | exact HB.out | apply below_alloc | apply pw_below_drewN | apply below_drew1 | refine below_set ?_ GE266.out | refine below_set ?_ GE275.out | refine below_set ?_ GE319.out) | exact HB.out)⟩
            · replace c50 := Bool.eq_false_iff.mpr c50
              subst c50
              have H1 : (none) = some r := by rw [if_neg (show ¬ (false = true) by decide)] at H; exact H
              clear H
              have H := H1
              clear H1
              exact absurd H (by simp)
          · rw [if_neg c46] at H
            exact absurd H (by simp)
        · rw [if_neg c45] at H
          exact absurd H (by simp)
    · rw [if_neg c10] at H
      have c10b0 : (t274 == 0) = false := beq_eq_false_iff_ne.mpr c10
      have c10b1 : (t274 != 0) = true := bne_iff_ne.mpr c10
      by_cases c76 : t273 = true
      · subst c76
        have H1 : (none) = some r := by rw [if_pos rfl] at H; exact H
        clear H
        have H := H1
        clear H1
        exact absurd H (by simp)
      · replace c76 := Bool.eq_false_iff.mpr c76
        subst c76
        have H1 : ((handshakerlaw18_Ref.f k t268 t269 t270).bind fun bt276 => ((handshakerlaw18_Ref.f k a0_0 a0_1 l0_2).bind fun bt281 => ((handshakerref18_Same.f k bt276.1 bt276.2.1 bt276.2.2 bt281.1 bt281.2.1 bt281.2.2).bind fun t286 => (if t286 = true then ((handshakerlaw18_awake.f k).bind fun t287 => (some t287)) else (none))))) = some r := by rw [if_neg (show ¬ (false = true) by decide)] at H; exact H
        clear H
        have H := H1
        clear H1
        replace H := Option.bind_eq_some_iff.mp H
        obtain ⟨⟨t276, t277, t278⟩, A770, H⟩ := H
        replace H : ((handshakerlaw18_Ref.f k a0_0 a0_1 l0_2).bind fun bt281 => ((handshakerref18_Same.f k t276 t277 t278 bt281.1 bt281.2.1 bt281.2.2).bind fun t286 => (if t286 = true then ((handshakerlaw18_awake.f k).bind fun t287 => (some t287)) else (none)))) = some r := H
        have A77 := Aside0.mk A770
        clear A770
        replace H := Option.bind_eq_some_iff.mp H
        obtain ⟨⟨t281, t282, t283⟩, A780, H⟩ := H
        replace H : ((handshakerref18_Same.f k t276 t277 t278 t281 t282 t283).bind fun t286 => (if t286 = true then ((handshakerlaw18_awake.f k).bind fun t287 => (some t287)) else (none))) = some r := H
        have A78 := Aside0.mk A780
        clear A780
        replace H := Option.bind_eq_some_iff.mp H
        obtain ⟨t286, A790, H⟩ := H
        replace H : (if t286 = true then ((handshakerlaw18_awake.f k).bind fun t287 => (some t287)) else (none)) = some r := H
        have A79 := Aside0.mk A790
        clear A790
        by_cases c80 : t286 = true
        · subst c80
          have H1 : ((handshakerlaw18_awake.f k).bind fun t287 => (some t287)) = some r := by rw [if_pos rfl] at H; exact H
          clear H
          have H := H1
          clear H1
          replace H := Option.bind_eq_some_iff.mp H
          obtain ⟨t287, A810, H⟩ := H
          replace H : (some t287) = some r := H
          have A81 := Aside0.mk A810
          clear A810
          obtain rfl := Option.some.inj H
          go_enter Try.func6, Try.ntmps6
          try go_wp2_with (first | ((with_reducible refine gate_dst (N := 3) rfl ?_); (try (refine gate_guard (by rfl) ?_; dsimp only)); refine box_event ?hg (N := 3) ?hd (cs := #[.int .i64 a0_0, .int .i64 a0_1, .slice A0_2 l0_2.length c0_2]) (t := 24) ?hr ?_; (case hd => rfl); (case hg => rfl); (case hr => first | (go_simp; done) | (go_simp; rfl)); intro gb266 hg w82 hbox hb; have n0_ := Aside0.mk (below_step (zc0 HB) hb); have n1_ := Aside0.mk (hbox); have n2_ := Aside0.mk ((by rw [hg]; exact (below_size (zc0 HB)) : w.heap.size ≤ gb266)); have n3_ := Aside0.mk ((by rw [hg]; exact (below_size (zc0 HB)) : w.heap.size ≤ gb266)); clear HB; have HB := n0_; have BK266 := n1_; have GW266 := n2_; have GE266 := n3_; clear n0_ n1_ n2_ n3_; clear hb hbox hg; have hcz83_0 : w82.cell? ⟨gb266, 0, none⟩ = some (.int .i64 a0_0) := (blk_cell BK266.out 0).trans rfl; have hcz83_1 : w82.cell? ⟨gb266, 1, none⟩ = some (.int .i64 a0_1) := (blk_cell BK266.out 1).trans rfl; have hcz83_2 : w82.cell? ⟨gb266, 2, none⟩ = some (.slice A0_2 l0_2.length c0_2) := (blk_cell BK266.out 2).trans rfl; have hfz83_0 := blk_frozen BK266.out 0; have hfz83_1 := blk_frozen BK266.out 1; have hfz83_2 := blk_frozen BK266.out 2) | ((with_reducible refine gate_callee (f := 11) rfl ?_); refine goesL_ (some 25) rfl rfl Try.func11 (by kernel_rfl) rfl #[.agg #[.int .i64 a0_0, .int .i64 a0_1, .slice A0_2 l0_2.length c0_2], .int .i64 a1, .int .i64 a2] rfl zm ?_; (with_reducible refine (sema_Take.calls k a0_0 a0_1 (fun k_ => k_ < w.heap.size) _ _ l0_2 a1 a2 t268 t269 t270 false t274 _ ?side1 A9.out).mono ?_); (case side1 => exact Kd.V_mk HC0_2.out (Kd.F_below (Kd.C_F k50_heap HR0_2.out) (zc1 HB GE266))); rintro e w84 ⟨v271, rfl, ho0, hb⟩; refine ⟨_, rfl, ?_⟩; have n0_ := Aside0.mk (Kd.V_lower (Kd.V_mono (ok' := fun k_ => k_ ≠ gb266) ho0 (fun k_ hk_ => Or.elim hk_ (fun hs_ => fun e_ => Nat.not_le.2 hs_ (by rw [e_]; exact GW266.out)) (fun hn_ => (Kd.freshB (g := gb266) (o := .cells #[.int .i64 a0_0, .int .i64 a0_1, .slice A0_2 l0_2.length c0_2] 24 (0, 0)) (zb BK266) k_ hn_)))) (below_size (zc1 HB GE266))); have n1_ := Aside0.mk (blk_below (g := gb266) (o := .cells #[.int .i64 a0_0, .int .i64 a0_1, .slice A0_2 l0_2.length c0_2] 24 (0, 0)) (zb BK266) hb); have n2_ := Aside0.mk (below_step (zc1 HB GE266) hb); clear BK266; clear HB; have HO272 := n0_; have BK266 := n1_; have HB := n2_; clear n0_ n1_ n2_; (try clear hb); (try clear hb2); (try clear hk); (try clear hi); (try clear ho0)) | ((with_reducible refine gate_dst (N := 7) rfl ?_); (try (refine gate_guard (by rfl) ?_; dsimp only)); refine box_event ?hg (N := 7) ?hd (cs := #[.int .i64 0, .int .i64 0, .slice none 0 0]) (t := 24) ?hr ?_; (case hd => rfl); (case hg => rfl); (case hr => first | (go_simp; done) | (go_simp; rfl)); intro gb275 hg w85 hbox hb; have n0_ := Aside0.mk (Kd.V_below (Kd.V_elderB (zV HO272) gb275 (Nat.le_of_eq hg.symm)) hb); have n1_ := Aside0.mk (blk_below (g := gb266) (o := .cells #[.int .i64 a0_0, .int .i64 a0_1, .slice A0_2 l0_2.length c0_2] 24 (0, 0)) (zb BK266) hb); have n2_ := Aside0.mk (below_step (zc1 HB GE266) hb); have n3_ := Aside0.mk (hbox); have n4_ := Aside0.mk ((by rw [hg]; exact (below_size (zc1 HB GE266)) : w.heap.size ≤ gb275)); have n5_ := Aside0.mk ((by rw [hg]; exact (below_size (zc1 HB GE266)) : w.heap.size ≤ gb275)); have n6_ := Aside0.mk ((by rw [hg]; exact Nat.ne_of_lt (blk_lt (g := gb266) (o := .cells #[.int .i64 a0_0, .int .i64 a0_1, .slice A0_2 l0_2.length c0_2] 24 (0, 0)) (zb BK266)) : gb266 ≠ gb275)); have n7_ := Aside0.mk ((by rw [hg]; exact Nat.ne_of_gt (blk_lt (g := gb266) (o := .cells #[.int .i64 a0_0, .int .i64 a0_1, .slice A0_2 l0_2.length c0_2] 24 (0, 0)) (zb BK266)) : gb275 ≠ gb266)); clear HO272; clear BK266; clear HB; have HO272 := n0_; have BK266 := n1_; have HB := n2_; have BK275 := n3_; have GW275 := n4_; have GE275 := n5_; have NB266_275 := n6_; have NB275_266 := n7_; clear n0_ n1_ n2_ n3_ n4_ n5_ n6_ n7_; clear hb hbox hg; have hnb86 := NB275_266.out; have hnc86 := NB266_275.out; have hcz87_0 : w85.cell? ⟨gb275, 0, none⟩ = some (.int .i64 0) := (blk_cell BK275.out 0).trans rfl; have hcz87_1 : w85.cell? ⟨gb275, 1, none⟩ = some (.int .i64 0) := (blk_cell BK275.out 1).trans rfl; have hcz87_2 : w85.cell? ⟨gb275, 2, none⟩ = some (.slice none 0 0) := (blk_cell BK275.out 2).trans rfl; have hfz87_0 := blk_frozen BK275.out 0; have hfz87_1 := blk_frozen BK275.out 1; have hfz87_2 := blk_frozen BK275.out 2; obtain ⟨Ao88, co88, eo88⟩ := Kd.V_slice HO272.out; subst eo88))
          have n0_ : Aside0 (Kd.V k50 50 (((w85.setCell ⟨gb275, 0, none⟩ (.int .i64 t268)).setCell ⟨gb275, 1, none⟩ (.int .i64 t269)).setCell ⟨gb275, 2, none⟩ (.slice Ao88 t270.length co88)) w.heap.size (fun k_ => k_ ≠ gb266 ∧ k_ ≠ gb275) (.slice Ao88 t270.length co88) t270) := ⟨by (with_reducible repeat (first | apply Kd.V_alloc | apply Kd.V_drewN | apply Kd.V_drew)); exact Kd.V_mono (Kd.V_far (p := ⟨gb275, 2, none⟩) (Kd.V_far (p := ⟨gb275, 1, none⟩) (Kd.V_far (p := ⟨gb275, 0, none⟩) (Kd.V_mono HO272.out (fun k_ hk => (⟨hk, hk.2⟩ : _ ∧ k_ ≠ gb275))) (fun _ hk => hk.2) (.int .i64 t268)) (fun _ hk => hk.2) (.int .i64 t269)) (fun _ hk => hk.2) (.slice Ao88 t270.length co88)) (fun _ hk => ⟨hk.1.1, hk.1.2⟩)⟩
          have n1_ : Aside0 ((((w85.setCell ⟨gb275, 0, none⟩ (.int .i64 t268)).setCell ⟨gb275, 1, none⟩ (.int .i64 t269)).setCell ⟨gb275, 2, none⟩ (.slice Ao88 t270.length co88)).heap[gb266]? = some (.cells #[.int .i64 a0_0, .int .i64 a0_1, .slice A0_2 l0_2.length c0_2] 24 (0, 0))) := ⟨by (with_reducible repeat (first | refine blk_drewN ?_ _ | refine blk_drew ?_ | refine blk_alloc ?_ _)); refine blk_far ?_ NB266_275.out _; (with_reducible repeat (first | refine blk_drewN ?_ _ | refine blk_drew ?_ | refine blk_alloc ?_ _)); refine blk_far ?_ NB266_275.out _; (with_reducible repeat (first | refine blk_drewN ?_ _ | refine blk_drew ?_ | refine blk_alloc ?_ _)); refine blk_far ?_ NB266_275.out _; (with_reducible repeat (first | refine blk_drewN ?_ _ | refine blk_drew ?_ | refine blk_alloc ?_ _)); exact BK266.out⟩
          have n2_ : Aside0 ((((w85.setCell ⟨gb275, 0, none⟩ (.int .i64 t268)).setCell ⟨gb275, 1, none⟩ (.int .i64 t269)).setCell ⟨gb275, 2, none⟩ (.slice Ao88 t270.length co88)).heap[gb275]? = some (.cells #[.int .i64 t268, .int .i64 t269, .slice Ao88 t270.length co88] 24 (0, 0))) := ⟨by (with_reducible repeat (first | refine blk_drewN ?_ _ | refine blk_drew ?_ | refine blk_alloc ?_ _)); refine blk_put (cs := #[.int .i64 t268, .int .i64 t269, .slice none 0 0]) ?_ 2 _ rfl; (with_reducible repeat (first | refine blk_drewN ?_ _ | refine blk_drew ?_ | refine blk_alloc ?_ _)); refine blk_put (cs := #[.int .i64 t268, .int .i64 0, .slice none 0 0]) ?_ 1 _ rfl; (with_reducible repeat (first | refine blk_drewN ?_ _ | refine blk_drew ?_ | refine blk_alloc ?_ _)); refine blk_put (cs := #[.int .i64 0, .int .i64 0, .slice none 0 0]) ?_ 0 _ rfl; (with_reducible repeat (first | refine blk_drewN ?_ _ | refine blk_drew ?_ | refine blk_alloc ?_ _)); exact BK275.out⟩
          have n3_ : Aside0 (Below w.heap.size w (((w85.setCell ⟨gb275, 0, none⟩ (.int .i64 t268)).setCell ⟨gb275, 1, none⟩ (.int .i64 t269)).setCell ⟨gb275, 2, none⟩ (.slice Ao88 t270.length co88))) := ⟨by repeat (first | (with_reducible first | exact HB.out | apply below_alloc | apply pw_below_drewN | apply below_drew1 | refine below_set ?_ GE266.out | refine below_set ?_ GE275.out) | exact HB.out)⟩
          (try clear HO272)
          (try clear BK266)
          (try clear BK275)
          (try clear HB)
          generalize (((w85.setCell ⟨gb275, 0, none⟩ (.int .i64 t268)).setCell ⟨gb275, 1, none⟩ (.int .i64 t269)).setCell ⟨gb275, 2, none⟩ (.slice Ao88 t270.length co88)) = w89 at n0_ n1_ n2_ n3_ ⊢
          have HO272 := n0_
          have BK266 := n1_
          have BK275 := n2_
          have HB := n3_
          clear n0_ n1_ n2_ n3_
          have n0_ := Aside0.mk (Kd.V_drew HO272.out)
          have n1_ := Aside0.mk (blk_drew BK266.out)
          have n2_ := Aside0.mk (blk_drew BK275.out)
          have n3_ := Aside0.mk (below_drew1 HB.out)
          clear HO272
          clear BK266
          clear BK275
          clear HB
          have HO272 := n0_
          have BK266 := n1_
          have BK275 := n2_
          have HB := n3_
          clear n0_ n1_ n2_ n3_
          refine start_ (n := 13) (S := fun w' => w'.cell? ⟨gb275, 0, none⟩ = some (.int .i64 t268) ∧ w'.cell? ⟨gb275, 1, none⟩ = some (.int .i64 t269) ∧ w'.cell? ⟨gb275, 2, none⟩ = some (.slice Ao88 t270.length co88) ∧ w'.cell? ⟨gb266, 0, none⟩ = some (.int .i64 a0_0) ∧ w'.cell? ⟨gb266, 1, none⟩ = some (.int .i64 a0_1) ∧ w'.cell? ⟨gb266, 2, none⟩ = some (.slice A0_2 l0_2.length c0_2)) (ds := []) #[false, false, false, false, false, false, false, false, false, false, false, false, false] (by kernel_rfl) rfl rfl ⟨(blk_cell BK275.out 0).trans rfl, (blk_cell BK275.out 1).trans rfl, (blk_cell BK275.out 2).trans rfl, (blk_cell BK266.out 0).trans rfl, (blk_cell BK266.out 1).trans rfl, (blk_cell BK266.out 2).trans rfl⟩ (fun hHeld => ?_); refine with_tabW handshakerlaw18_SemaLeaves.tab5 handshakerlaw18_SemaLeaves.bits5 (fun HT_ HW_ => ?_)
          generalize w89.drew = w90 at HO272 BK266 BK275 HB hHeld ⊢
          refine pure_ (i := 0) (N := some 31) (v := ?_) (a' := ?_) #[true, false, false, false, false, false, false, false, false, false, false, false, false] rfl rfl (any_of HT_.out (by kernel_rfl)) (fun _ _ _ h => h) (Or.inl ⟨by rfl, ?_⟩) ?_ ?_
          rotate_left
          · intro w'
            go_simp
            with_reducible rfl
          rotate_left
          · simp only [Act.put, List.setIfInBounds_toArray, List.set_cons_zero, List.set_cons_succ, i64_w, i32_w]
            rfl
          refine pure_ (i := 1) (N := some 32) (v := ?_) (a' := ?_) #[true, true, false, false, false, false, false, false, false, false, false, false, false] rfl rfl (any_of HT_.out (by kernel_rfl)) (fun _ _ _ h => h) (Or.inl ⟨by rfl, ?_⟩) ?_ ?_
          rotate_left
          · intro w'
            go_simp
            with_reducible rfl
          rotate_left
          · simp only [Act.put, List.setIfInBounds_toArray, List.set_cons_zero, List.set_cons_succ, i64_w, i32_w]
            rfl
          refine pure_ (i := 2) (N := some 33) (v := ?_) (a' := ?_) #[true, true, true, false, false, false, false, false, false, false, false, false, false] rfl rfl (any_of HT_.out (by kernel_rfl)) (fun _ _ _ h => h) (Or.inl ⟨by rfl, ?_⟩) ?_ ?_
          rotate_left
          · intro w'
            go_simp
            with_reducible rfl
          rotate_left
          · simp only [Act.put, List.setIfInBounds_toArray, List.set_cons_zero, List.set_cons_succ, i64_w, i32_w]
            rfl
          refine take_ (i := 3) (N := some 34) (v := ?_) (a' := ?_) #[true, true, true, true, false, false, false, false, false, false, false, false, false] rfl rfl (take_ofW HT_.out HW_.out (by kernel_rfl)) (fun _ _ _ h => h) (Or.inl ⟨by rfl, ?_⟩) hHeld ?_ ?_
          rotate_left
          · rintro w' ⟨s0, s1, s2, s3, s4, s5⟩
            go_simp
            with_reducible rfl
          rotate_left
          · simp only [Act.put, List.setIfInBounds_toArray, List.set_cons_zero, List.set_cons_succ, i64_w, i32_w]
            rfl
          refine take_ (i := 5) (N := some 36) (v := ?_) (a' := ?_) #[true, true, true, true, false, true, false, false, false, false, false, false, false] rfl rfl (take_ofW HT_.out HW_.out (by kernel_rfl)) (fun _ _ _ h => h) (Or.inl ⟨by rfl, ?_⟩) hHeld ?_ ?_
          rotate_left
          · rintro w' ⟨s0, s1, s2, s3, s4, s5⟩
            go_simp
            with_reducible rfl
          rotate_left
          · simp only [Act.put, List.setIfInBounds_toArray, List.set_cons_zero, List.set_cons_succ, i64_w, i32_w]
            rfl
          refine one_ (i := 4) (N := some 35) #[true, true, true, true, true, true, false, false, false, false, false, false, false] rfl rfl (one_of HT_.out (by kernel_rfl)) (by decide) (fun K hK => ?_)
          refine goes_ Try.func10 (by kernel_rfl) rfl #[.agg #[.int .i64 t268, .int .i64 t269, .slice Ao88 t270.length co88]] (by rfl) rfl rfl zm ?_
          with_reducible refine (handshakerlaw18_Ref.calls k t268 t269 _ _ t270 t276 t277 t278 _ ?side1 ?side2 A77.out).mono ?_
          (case side1 => repeat (first | exact (Kd.V_reads' HO272.out).2.2 | (with_reducible refine Kd.C_alloc ?_ _) | (with_reducible refine Kd.C_drewN ?_ _) | (with_reducible refine Kd.C_drew ?_)))
          (case side2 => exact (Kd.V_reads' HO272.out).2.1)
          rintro e w91 ⟨v279, rfl, ho0, hb⟩
          refine ⟨_, rfl, ?_⟩
          have n0_ := Aside0.mk (Kd.V_elder' (zV HO272) (Kd.R_base ho0) hb)
          have n1_ := Aside0.mk (Kd.R_lower ho0 (below_size (zc2 HB GE266 GE275)))
          have n2_ := Aside0.mk (blk_below (g := gb266) (o := .cells #[.int .i64 a0_0, .int .i64 a0_1, .slice A0_2 l0_2.length c0_2] 24 (0, 0)) (zb BK266) hb)
          have n3_ := Aside0.mk (blk_below (g := gb275) (o := .cells #[.int .i64 t268, .int .i64 t269, .slice Ao88 t270.length co88] 24 (0, 0)) (zb BK275) hb)
          have n4_ := Aside0.mk (below_step (zc2 HB GE266 GE275) hb)
          clear HO272
          clear BK266
          clear BK275
          clear HB
          have HO272 := n0_
          have HO280 := n1_
          have BK266 := n2_
          have BK275 := n3_
          have HB := n4_
          clear n0_ n1_ n2_ n3_ n4_
          (try clear hb)
          (try clear hb2)
          (try clear hk)
          (try clear hi)
          (try clear ho0)
          refine hK.out _ _ ⟨(blk_cell BK275.out 0).trans rfl, (blk_cell BK275.out 1).trans rfl, (blk_cell BK275.out 2).trans rfl, (blk_cell BK266.out 0).trans rfl, (blk_cell BK266.out 1).trans rfl, (blk_cell BK266.out 2).trans rfl⟩ (fun hHeld => ?_)
          clear hK K
          refine norm_ (a' := ?_) ?_ ?_
          rotate_left
          · show Act.put _ (some 35) _ = _
            simp only [Act.put, List.setIfInBounds_toArray, List.set_cons_zero, List.set_cons_succ, i64_w, i32_w]
            rfl
          refine one_ (i := 6) (N := some 37) #[true, true, true, true, true, true, true, false, false, false, false, false, false] rfl rfl (one_of HT_.out (by kernel_rfl)) (by decide) (fun K hK => ?_)
          refine goes_ Try.func10 (by kernel_rfl) rfl #[.agg #[.int .i64 a0_0, .int .i64 a0_1, .slice A0_2 l0_2.length c0_2]] (by rfl) rfl rfl zm ?_
          with_reducible refine (handshakerlaw18_Ref.calls k a0_0 a0_1 _ _ l0_2 t281 t282 t283 _ ?side1 ?side2 A78.out).mono ?_
          (case side1 => repeat (first | exact (Kd.C_below HR0_2.out HB.out) | (with_reducible refine Kd.C_alloc ?_ _) | (with_reducible refine Kd.C_drewN ?_ _) | (with_reducible refine Kd.C_drew ?_)))
          (case side2 => exact HC0_2.out)
          rintro e w92 ⟨v284, rfl, ho0, hb⟩
          refine ⟨_, rfl, ?_⟩
          have n0_ := Aside0.mk (Kd.V_elder' (zV HO272) (Kd.R_base ho0) hb)
          have n1_ := Aside0.mk (Kd.R_elder' (zR HO280) (Kd.R_base ho0) hb)
          have n2_ := Aside0.mk (Kd.R_lower (Kd.R_new' ho0 (Kd.R_lt (zR HO280))) (below_size (zc2 HB GE266 GE275)))
          have n3_ := Aside0.mk (blk_below (g := gb266) (o := .cells #[.int .i64 a0_0, .int .i64 a0_1, .slice A0_2 l0_2.length c0_2] 24 (0, 0)) (zb BK266) hb)
          have n4_ := Aside0.mk (blk_below (g := gb275) (o := .cells #[.int .i64 t268, .int .i64 t269, .slice Ao88 t270.length co88] 24 (0, 0)) (zb BK275) hb)
          have n5_ := Aside0.mk (below_step (zc2 HB GE266 GE275) hb)
          clear HO272
          clear HO280
          clear BK266
          clear BK275
          clear HB
          have HO272 := n0_
          have HO280 := n1_
          have HO285 := n2_
          have BK266 := n3_
          have BK275 := n4_
          have HB := n5_
          clear n0_ n1_ n2_ n3_ n4_ n5_
          (try clear hb)
          (try clear hb2)
          (try clear hk)
          (try clear hi)
          (try clear ho0)
          obtain ⟨Ao93, co93, eo93⟩ := Kd.R_slice HO280.out
          (first | subst eo93 | (injection eo93 with f1_ f2_ f3_; have f4_ := f1_.symm; have f5_ := f3_.symm; clear f1_ f2_ f3_; subst f4_; subst f5_))
          obtain ⟨Ao94, co94, eo94⟩ := Kd.R_slice HO285.out
          (first | subst eo94 | (injection eo94 with f1_ f2_ f3_; have f4_ := f1_.symm; have f5_ := f3_.symm; clear f1_ f2_ f3_; subst f4_; subst f5_))
          refine hK.out _ _ ⟨(blk_cell BK275.out 0).trans rfl, (blk_cell BK275.out 1).trans rfl, (blk_cell BK275.out 2).trans rfl, (blk_cell BK266.out 0).trans rfl, (blk_cell BK266.out 1).trans rfl, (blk_cell BK266.out 2).trans rfl⟩ (fun hHeld => ?_)
          clear hK K
          refine norm_ (a' := ?_) ?_ ?_
          rotate_left
          · show Act.put _ (some 37) _ = _
            simp only [Act.put, List.setIfInBounds_toArray, List.set_cons_zero, List.set_cons_succ, i64_w, i32_w]
            rfl
          refine one_ (i := 7) (N := some 38) #[true, true, true, true, true, true, true, true, false, false, false, false, false] rfl rfl (one_of HT_.out (by kernel_rfl)) (by decide) (fun K hK => ?_)
          refine goes_ Try.func20 (by kernel_rfl) rfl #[.agg #[.int .i64 t276, .int .i64 t277, .slice Ao93 t278.length co93], .agg #[.int .i64 t281, .int .i64 t282, .slice Ao94 t283.length co94]] (by rfl) rfl rfl zm ?_
          with_reducible refine (handshakerref18_Same.calls k t276 t277 _ _ t278 t281 t282 _ _ t283 true _ ?side1 ?side2 ?side3 ?side4 A79.out).mono ?_
          (case side1 => repeat (first | exact (Kd.R_reads' HO280.out).2.2 | (with_reducible refine Kd.C_alloc ?_ _) | (with_reducible refine Kd.C_drewN ?_ _) | (with_reducible refine Kd.C_drew ?_)))
          (case side2 => exact (Kd.R_reads' HO280.out).2.1)
          (case side3 => repeat (first | exact (Kd.R_reads' HO285.out).2.2 | (with_reducible refine Kd.C_alloc ?_ _) | (with_reducible refine Kd.C_drewN ?_ _) | (with_reducible refine Kd.C_drew ?_)))
          (case side4 => exact (Kd.R_reads' HO285.out).2.1)
          rintro e w95 ⟨rfl, hb⟩
          refine ⟨_, rfl, ?_⟩
          have n0_ := Aside0.mk (Kd.V_below (zV HO272) hb)
          have n1_ := Aside0.mk (Kd.R_below (zR HO280) hb)
          have n2_ := Aside0.mk (Kd.R_below (zR HO285) hb)
          have n3_ := Aside0.mk (blk_below (g := gb266) (o := .cells #[.int .i64 a0_0, .int .i64 a0_1, .slice A0_2 l0_2.length c0_2] 24 (0, 0)) (zb BK266) hb)
          have n4_ := Aside0.mk (blk_below (g := gb275) (o := .cells #[.int .i64 t268, .int .i64 t269, .slice Ao88 t270.length co88] 24 (0, 0)) (zb BK275) hb)
          have n5_ := Aside0.mk (below_step (zc2 HB GE266 GE275) hb)
          clear HO272
          clear HO280
          clear HO285
          clear BK266
          clear BK275
          clear HB
          have HO272 := n0_
          have HO280 := n1_
          have HO285 := n2_
          have BK266 := n3_
          have BK275 := n4_
          have HB := n5_
          clear n0_ n1_ n2_ n3_ n4_ n5_
          (try clear hb)
          (try clear hb2)
          (try clear hk)
          (try clear hi)
          refine hK.out _ _ ⟨(blk_cell BK275.out 0).trans rfl, (blk_cell BK275.out 1).trans rfl, (blk_cell BK275.out 2).trans rfl, (blk_cell BK266.out 0).trans rfl, (blk_cell BK266.out 1).trans rfl, (blk_cell BK266.out 2).trans rfl⟩ (fun hHeld => ?_)
          clear hK K
          refine norm_ (a' := ?_) ?_ ?_
          rotate_left
          · show Act.put _ (some 38) _ = _
            simp only [Act.put, List.setIfInBounds_toArray, List.set_cons_zero, List.set_cons_succ, i64_w, i32_w]
            rfl
          refine pure_ (i := 8) (N := some 39) (v := ?_) (a' := ?_) #[true, true, true, true, true, true, true, true, true, false, false, false, false] rfl rfl (any_of HT_.out (by kernel_rfl)) (fun _ _ _ h => h) (Or.inl ⟨by rfl, ?_⟩) ?_ ?_
          rotate_left
          · intro w'
            go_simp
            with_reducible rfl
          rotate_left
          · simp only [Act.put, List.setIfInBounds_toArray, List.set_cons_zero, List.set_cons_succ, i64_w, i32_w]
            rfl
          refine pure_ (i := 9) (N := some 40) (v := ?_) (a' := ?_) #[true, true, true, true, true, true, true, true, true, true, false, false, false] rfl rfl (any_of HT_.out (by kernel_rfl)) (fun _ _ _ h => h) (Or.inl ⟨by rfl, ?_⟩) ?_ ?_
          rotate_left
          · intro w'
            go_simp
            with_reducible rfl
          rotate_left
          · simp only [Act.put, List.setIfInBounds_toArray, List.set_cons_zero, List.set_cons_succ, i64_w, i32_w]
            rfl
          refine one_ (i := 10) (N := some 41) #[true, true, true, true, true, true, true, true, true, true, true, false, false] rfl rfl (one_of HT_.out (by kernel_rfl)) (by decide) (fun K hK => ?_)
          refine goes_ Try.func9 (by kernel_rfl) rfl #[] (by rfl) rfl rfl zm ?_
          with_reducible refine (handshakerlaw18_awake.calls k  t287 _ A81.out).mono ?_
          rintro e w96 ⟨rfl, hb⟩
          refine ⟨_, rfl, ?_⟩
          have n0_ := Aside0.mk (Kd.V_below (zV HO272) hb)
          have n1_ := Aside0.mk (Kd.R_below (zR HO280) hb)
          have n2_ := Aside0.mk (Kd.R_below (zR HO285) hb)
          have n3_ := Aside0.mk (blk_below (g := gb266) (o := .cells #[.int .i64 a0_0, .int .i64 a0_1, .slice A0_2 l0_2.length c0_2] 24 (0, 0)) (zb BK266) hb)
          have n4_ := Aside0.mk (blk_below (g := gb275) (o := .cells #[.int .i64 t268, .int .i64 t269, .slice Ao88 t270.length co88] 24 (0, 0)) (zb BK275) hb)
          have n5_ := Aside0.mk (below_step (zc2 HB GE266 GE275) hb)
          clear HO272
          clear HO280
          clear HO285
          clear BK266
          clear BK275
          clear HB
          have HO272 := n0_
          have HO280 := n1_
          have HO285 := n2_
          have BK266 := n3_
          have BK275 := n4_
          have HB := n5_
          clear n0_ n1_ n2_ n3_ n4_ n5_
          (try clear hb)
          (try clear hb2)
          (try clear hk)
          (try clear hi)
          refine hK.out _ _ ⟨(blk_cell BK275.out 0).trans rfl, (blk_cell BK275.out 1).trans rfl, (blk_cell BK275.out 2).trans rfl, (blk_cell BK266.out 0).trans rfl, (blk_cell BK266.out 1).trans rfl, (blk_cell BK266.out 2).trans rfl⟩ (fun hHeld => ?_)
          clear hK K
          refine norm_ (a' := ?_) ?_ ?_
          rotate_left
          · show Act.put _ (some 41) _ = _
            simp only [Act.put, List.setIfInBounds_toArray, List.set_cons_zero, List.set_cons_succ, i64_w, i32_w]
            rfl
          refine pure_ (i := 11) (N := some 42) (v := ?_) (a' := ?_) #[true, true, true, true, true, true, true, true, true, true, true, true, false] rfl rfl (any_of HT_.out (by kernel_rfl)) (fun _ _ _ h => h) (Or.inl ⟨by rfl, ?_⟩) ?_ ?_
          rotate_left
          · intro w'
            go_simp
            with_reducible rfl
          rotate_left
          · simp only [Act.put, List.setIfInBounds_toArray, List.set_cons_zero, List.set_cons_succ, i64_w, i32_w]
            rfl
          refine pure_ (i := 12) (N := some 6) (v := ?_) (a' := ?_) #[true, true, true, true, true, true, true, true, true, true, true, true, true] rfl rfl (any_of HT_.out (by kernel_rfl)) (fun _ _ _ h => h) (Or.inl ⟨by rfl, ?_⟩) ?_ ?_
          rotate_left
          · intro w'
            go_simp
            with_reducible rfl
          rotate_left
          · simp only [Act.put, List.setIfInBounds_toArray, List.set_cons_zero, List.set_cons_succ, i64_w, i32_w]
            rfl
          refine done_ (done_of HT_.out (by kernel_rfl)) ?_
          try go_wp2
          go_ret
          exact ⟨by first | rfl | (simp [errW_none, errW_some] <;> rfl) | (simp [*, errW_none, errW_some] <;> rfl), by repeat (first | (with_reducible first | exact HB.out | apply below_alloc | apply pw_below_drewN | apply below_drew1 | refine below_set ?_ GE266.out | refine below_set ?_ GE275.out) | exact HB.out)⟩
        · replace c80 := Bool.eq_false_iff.mpr c80
          subst c80
          have H1 : (none) = some r := by rw [if_neg (show ¬ (false = true) by decide)] at H; exact H
          clear H
          have H := H1
          clear H1
          exact absurd H (by simp)

end Go.Proofs.Ythbcajkphkdnmaa.PSemaLeaves
