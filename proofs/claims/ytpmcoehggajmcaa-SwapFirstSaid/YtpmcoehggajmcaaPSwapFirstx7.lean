/- Lean functions that say what functions of the given program compute, and proofs by walking the code that each call does just that; no condition but those that each statement names. -/
import Derived.Test.YtpmcoehggajmcaaPSwapFirstx0
import Derived.Test.YtpmcoehggajmcaaPSwapFirstx1
import Derived.Test.YtpmcoehggajmcaaPSwapFirstx3
import Derived.Test.YtpmcoehggajmcaaPSwapFirstx5
import Derived.Test.YtpmcoehggajmcaaPSwapFirstx6
namespace Go.Proofs.Ytpmcoehggajmcaa.PSwapFirst
open Go.RowKit Go.Proofs.YtpmcoehggajmcaaW.PrintWords Go.Proofs.YtpmcoehggajmcaaW.PrintLast Go.Proofs.YtpmcoehggajmcaaW.PrintMore
attribute [local go_sem] max2_int min2_int max_two min_two max_three min_three max_four min_four   -- for this text's walks alone
set_option linter.unusedVariables false
set_option linter.unusedSimpArgs false

attribute [local go_sem high] eqA26
/-! ### handshakerlaw21_SwapFirst: function 5 -/
mutual
def handshakerlaw21_SwapFirst.l0 : Nat → List (S26) → Bool → List (S26) → Bool → List (S26) → Int → Int → Int → Int → Int → Int → Int → Int → Int → Int → Int → Int → Int → Int → Option (Bool)
  | 0, _, _, _, _, _, _, _, _, _, _, _, _, _, _, _, _, _, _, _ => none
  | k + 1, x5, x7, x9, x10, x39, x40, x41, x255000, x255001, x255002, x255003, x270000, x270001, x270002, x270003, x270004, x270005, x270006, x270007 => if x41 < x40 then (if 0 ≤ x41 then (if x41 < (x39.length : Int) then (if x10 = true then (handshakerlaw21_SwapFirst.j1 k x5 x7 x9 x10 x39 x40 x41 false x255000 x255001 x255002 x255003 x270000 x270001 x270002 x270003 x270004 x270005 x270006 x270007 ((rd_T26 x39 x41).f0) ((rd_T26 x39 x41).f1) ((rd_T26 x39 x41).f2) ((rd_T26 x39 x41).f3)) else ((swap_Meet.f ((rd_T26 x39 x41).f0) ((rd_T26 x39 x41).f1) ((rd_T26 x39 x41).f2) ((rd_T26 x39 x41).f3) x255000 x255001 x255002 x255003).bind fun t280 => (handshakerlaw21_SwapFirst.j1 k x5 x7 x9 x10 x39 x40 x41 t280 x255000 x255001 x255002 x255003 x270000 x270001 x270002 x270003 x270004 x270005 x270006 x270007 ((rd_T26 x39 x41).f0) ((rd_T26 x39 x41).f1) ((rd_T26 x39 x41).f2) ((rd_T26 x39 x41).f3)))) else (none)) else (none)) else (if x10 = true then (handshakerlaw21_SwapFirst.j2 k x5 x7 x9 x10) else (if x9.length < 4398046511104 then (handshakerlaw21_SwapFirst.j2 k x5 x7 (x9 ++ [(⟨x255000, x255001, x255002, x255003⟩ : S26)]) x10) else (none)))
def handshakerlaw21_SwapFirst.j1 : Nat → List (S26) → Bool → List (S26) → Bool → List (S26) → Int → Int → Bool → Int → Int → Int → Int → Int → Int → Int → Int → Int → Int → Int → Int → Int → Int → Int → Int → Option (Bool)
  | 0, _, _, _, _, _, _, _, _, _, _, _, _, _, _, _, _, _, _, _, _, _, _, _, _ => none
  | k + 1, x5, x7, x9, x10, x39, x40, x41, x51, x255000, x255001, x255002, x255003, x270000, x270001, x270002, x270003, x270004, x270005, x270006, x270007, x280000, x280001, x280002, x280003 => if x51 = true then (if (!(x270000 == x280000) || (!(x270001 == x280001) || (!(x270002 == x280002) || (!(x270003 == x280003))))) = true then (none) else (handshakerlaw21_SwapFirst.l0 k x5 x7 x9 true x39 x40 (wrap64 (x41 + 1)) x255000 x255001 x255002 x255003 x270000 x270001 x270002 x270003 x270004 x270005 x270006 x270007)) else (if x9.length < 4398046511104 then (handshakerlaw21_SwapFirst.l0 k x5 x7 (x9 ++ [(⟨x280000, x280001, x280002, x280003⟩ : S26)]) x10 x39 x40 (wrap64 (x41 + 1)) x255000 x255001 x255002 x255003 x270000 x270001 x270002 x270003 x270004 x270005 x270006 x270007) else (none))
def handshakerlaw21_SwapFirst.j2 : Nat → List (S26) → Bool → List (S26) → Bool → Option (Bool)
  | 0, _, _, _, _ => none
  | k + 1, x5, x7, x9, x10 => if (x7 == x10) = true then ((handshakerlaw21_Refs.f k x5).bind fun t287 => ((handshakerlaw21_Refs.f k x9).bind fun t290 => ((handshakerref21_Same.f k t287 t290).bind fun t293 => (if t293 = true then ((handshakerlaw21_awake.f k).bind fun t294 => (some t294)) else (none))))) else (none)
end
def handshakerlaw21_SwapFirst.f (k : Nat) (l0 : List (S26)) (a1_0 : Int) (a1_1 : Int) (a1_2 : Int) (a1_3 : Int) : Option (Bool) := if (l0.length : Int) > 30 then ((handshakerlaw21_awake.f k).bind fun t255 => (some t255)) else ((swap_Put.f k l0 a1_0 a1_1 a1_2 a1_3).bind fun bt256 => (if bt256.2.2.2.2.2.2.2.2.2.2 = 0 then (handshakerlaw21_SwapFirst.l0 k bt256.1 bt256.2.2.2.2.2.2.2.2.2.1 ([] : List (S26)) false l0 (l0.length : Int) 0 a1_0 a1_1 a1_2 a1_3 bt256.2.1 bt256.2.2.1 bt256.2.2.2.1 bt256.2.2.2.2.1 bt256.2.2.2.2.2.1 bt256.2.2.2.2.2.2.1 bt256.2.2.2.2.2.2.2.1 bt256.2.2.2.2.2.2.2.2.1) else (if bt256.2.2.2.2.2.2.2.2.2.1 = true then (none) else ((handshakerlaw21_Refs.f k bt256.1).bind fun t270 => ((handshakerlaw21_Refs.f k l0).bind fun t273 => ((handshakerref21_Same.f k t270 t273).bind fun t276 => (if t276 = true then ((handshakerlaw21_awake.f k).bind fun t277 => (some t277)) else (none))))))))
theorem handshakerlaw21_SwapFirst.mono_l : ∀ k, (∀ y0 y1 y2 y3 y4 y5 y6 y7 y8 y9 y10 y11 y12 y13 y14 y15 y16 y17 y18, LeO (handshakerlaw21_SwapFirst.l0 k y0 y1 y2 y3 y4 y5 y6 y7 y8 y9 y10 y11 y12 y13 y14 y15 y16 y17 y18) (handshakerlaw21_SwapFirst.l0 (k + 1) y0 y1 y2 y3 y4 y5 y6 y7 y8 y9 y10 y11 y12 y13 y14 y15 y16 y17 y18)) ∧ (∀ y0 y1 y2 y3 y4 y5 y6 y7 y8 y9 y10 y11 y12 y13 y14 y15 y16 y17 y18 y19 y20 y21 y22 y23, LeO (handshakerlaw21_SwapFirst.j1 k y0 y1 y2 y3 y4 y5 y6 y7 y8 y9 y10 y11 y12 y13 y14 y15 y16 y17 y18 y19 y20 y21 y22 y23) (handshakerlaw21_SwapFirst.j1 (k + 1) y0 y1 y2 y3 y4 y5 y6 y7 y8 y9 y10 y11 y12 y13 y14 y15 y16 y17 y18 y19 y20 y21 y22 y23)) ∧ (∀ y0 y1 y2 y3, LeO (handshakerlaw21_SwapFirst.j2 k y0 y1 y2 y3) (handshakerlaw21_SwapFirst.j2 (k + 1) y0 y1 y2 y3))
  | 0 => ⟨fun _ _ _ _ _ _ _ _ _ _ _ _ _ _ _ _ _ _ _ r h => by simp [handshakerlaw21_SwapFirst.l0] at h, fun _ _ _ _ _ _ _ _ _ _ _ _ _ _ _ _ _ _ _ _ _ _ _ _ r h => by simp [handshakerlaw21_SwapFirst.j1] at h, fun _ _ _ _ r h => by simp [handshakerlaw21_SwapFirst.j2] at h⟩
  | k + 1 => by
    obtain ⟨ih0, ih1, ih2⟩ := handshakerlaw21_SwapFirst.mono_l k
    refine ⟨?_, ?_, ?_⟩
    · intro y0 y1 y2 y3 y4 y5 y6 y7 y8 y9 y10 y11 y12 y13 y14 y15 y16 y17 y18
      unfold handshakerlaw21_SwapFirst.l0
      repeat' first
      | (with_reducible exact ih0 _ _ _ _ _ _ _ _ _ _ _ _ _ _ _ _ _ _ _)
      | (with_reducible exact ih1 _ _ _ _ _ _ _ _ _ _ _ _ _ _ _ _ _ _ _ _ _ _ _ _)
      | (with_reducible exact ih2 _ _ _ _)
      | (with_reducible exact handshakerlaw21_Refs.mono _ _)
      | (with_reducible exact handshakerlaw21_awake.mono _)
      | (with_reducible exact handshakerref21_Same.mono _ _ _)
      | (with_reducible exact swap_Put.mono _ _ _ _ _ _)
      | (with_reducible exact LeO.refl _)
      | (with_reducible exact LeO.none _)
      | (with_reducible refine LeO.ite ?_ ?_)
      | (with_reducible refine LeO.bind ?_ (fun _ => ?_))
      | exact ih0 _ _ _ _ _ _ _ _ _ _ _ _ _ _ _ _ _ _ _
      | exact ih1 _ _ _ _ _ _ _ _ _ _ _ _ _ _ _ _ _ _ _ _ _ _ _ _
      | exact ih2 _ _ _ _
      | exact handshakerlaw21_Refs.mono _ _
      | exact handshakerlaw21_awake.mono _
      | exact handshakerref21_Same.mono _ _ _
      | exact swap_Put.mono _ _ _ _ _ _
      | exact LeO.none _
      | refine LeO.ite ?_ ?_
      | refine LeO.bind ?_ (fun _ => ?_)
    · intro y0 y1 y2 y3 y4 y5 y6 y7 y8 y9 y10 y11 y12 y13 y14 y15 y16 y17 y18 y19 y20 y21 y22 y23
      unfold handshakerlaw21_SwapFirst.j1
      repeat' first
      | (with_reducible exact ih0 _ _ _ _ _ _ _ _ _ _ _ _ _ _ _ _ _ _ _)
      | (with_reducible exact ih1 _ _ _ _ _ _ _ _ _ _ _ _ _ _ _ _ _ _ _ _ _ _ _ _)
      | (with_reducible exact ih2 _ _ _ _)
      | (with_reducible exact handshakerlaw21_Refs.mono _ _)
      | (with_reducible exact handshakerlaw21_awake.mono _)
      | (with_reducible exact handshakerref21_Same.mono _ _ _)
      | (with_reducible exact swap_Put.mono _ _ _ _ _ _)
      | (with_reducible exact LeO.refl _)
      | (with_reducible exact LeO.none _)
      | (with_reducible refine LeO.ite ?_ ?_)
      | (with_reducible refine LeO.bind ?_ (fun _ => ?_))
      | exact ih0 _ _ _ _ _ _ _ _ _ _ _ _ _ _ _ _ _ _ _
      | exact ih1 _ _ _ _ _ _ _ _ _ _ _ _ _ _ _ _ _ _ _ _ _ _ _ _
      | exact ih2 _ _ _ _
      | exact handshakerlaw21_Refs.mono _ _
      | exact handshakerlaw21_awake.mono _
      | exact handshakerref21_Same.mono _ _ _
      | exact swap_Put.mono _ _ _ _ _ _
      | exact LeO.none _
      | refine LeO.ite ?_ ?_
      | refine LeO.bind ?_ (fun _ => ?_)
    · intro y0 y1 y2 y3
      unfold handshakerlaw21_SwapFirst.j2
      repeat' first
      | (with_reducible exact ih0 _ _ _ _ _ _ _ _ _ _ _ _ _ _ _ _ _ _ _)
      | (with_reducible exact ih1 _ _ _ _ _ _ _ _ _ _ _ _ _ _ _ _ _ _ _ _ _ _ _ _)
      | (with_reducible exact ih2 _ _ _ _)
      | (with_reducible exact handshakerlaw21_Refs.mono _ _)
      | (with_reducible exact handshakerlaw21_awake.mono _)
      | (with_reducible exact handshakerref21_Same.mono _ _ _)
      | (with_reducible exact swap_Put.mono _ _ _ _ _ _)
      | (with_reducible exact LeO.refl _)
      | (with_reducible exact LeO.none _)
      | (with_reducible refine LeO.ite ?_ ?_)
      | (with_reducible refine LeO.bind ?_ (fun _ => ?_))
      | exact ih0 _ _ _ _ _ _ _ _ _ _ _ _ _ _ _ _ _ _ _
      | exact ih1 _ _ _ _ _ _ _ _ _ _ _ _ _ _ _ _ _ _ _ _ _ _ _ _
      | exact ih2 _ _ _ _
      | exact handshakerlaw21_Refs.mono _ _
      | exact handshakerlaw21_awake.mono _
      | exact handshakerref21_Same.mono _ _ _
      | exact swap_Put.mono _ _ _ _ _ _
      | exact LeO.none _
      | refine LeO.ite ?_ ?_
      | refine LeO.bind ?_ (fun _ => ?_)
theorem handshakerlaw21_SwapFirst.mono : ∀ a0 a1 a2 a3 a4 k, LeO (handshakerlaw21_SwapFirst.f k a0 a1 a2 a3 a4) (handshakerlaw21_SwapFirst.f (k + 1) a0 a1 a2 a3 a4) := by
  intro a0 a1 a2 a3 a4 k
  obtain ⟨ih0, ih1, ih2⟩ := handshakerlaw21_SwapFirst.mono_l k
  unfold handshakerlaw21_SwapFirst.f
  repeat' first
      | (with_reducible exact ih0 _ _ _ _ _ _ _ _ _ _ _ _ _ _ _ _ _ _ _)
      | (with_reducible exact ih1 _ _ _ _ _ _ _ _ _ _ _ _ _ _ _ _ _ _ _ _ _ _ _ _)
      | (with_reducible exact ih2 _ _ _ _)
      | (with_reducible exact handshakerlaw21_Refs.mono _ _)
      | (with_reducible exact handshakerlaw21_awake.mono _)
      | (with_reducible exact handshakerref21_Same.mono _ _ _)
      | (with_reducible exact swap_Put.mono _ _ _ _ _ _)
      | (with_reducible exact LeO.refl _)
      | (with_reducible exact LeO.none _)
      | (with_reducible refine LeO.ite ?_ ?_)
      | (with_reducible refine LeO.bind ?_ (fun _ => ?_))
      | exact ih0 _ _ _ _ _ _ _ _ _ _ _ _ _ _ _ _ _ _ _
      | exact ih1 _ _ _ _ _ _ _ _ _ _ _ _ _ _ _ _ _ _ _ _ _ _ _ _
      | exact ih2 _ _ _ _
      | exact handshakerlaw21_Refs.mono _ _
      | exact handshakerlaw21_awake.mono _
      | exact handshakerref21_Same.mono _ _ _
      | exact swap_Put.mono _ _ _ _ _ _
      | exact LeO.none _
      | refine LeO.ite ?_ ?_
      | refine LeO.bind ?_ (fun _ => ?_)
set_option maxHeartbeats 8000000 in
set_option maxRecDepth 100000 in
theorem handshakerlaw21_SwapFirst.calls (k : Nat) (A0 : Option Addr) (c0 : Nat) (l0 : List (S26)) (a1_0 : Int) (a1_1 : Int) (a1_2 : Int) (a1_3 : Int) (r : Bool) (w : World) (hr0 : Kd.C k26 w A0 l0.length l0) (hc0 : l0.length ≤ c0) (h : handshakerlaw21_SwapFirst.f k l0 a1_0 a1_1 a1_2 a1_3 = some r) :
    Calls Try.prog 5 #[.slice A0 l0.length c0, .agg #[.int .i64 a1_0, .int .i64 a1_1, .int .i64 a1_2, .int .i64 a1_3]] w fun e w' => e = .returned (.bool r) ∧ Below w.heap.size w w' := by
  have hu26 := Try.underlying26
  have hu35 := Try.underlying35
  have HR0 := Aside0.mk hr0
  have HC0 := Aside0.mk hc0
  clear hr0 hc0
  have HB := Aside0.mk (Below.refl w.heap.size w)
  have H : (if (l0.length : Int) > 30 then ((handshakerlaw21_awake.f k).bind fun t255 => (some t255)) else ((swap_Put.f k l0 a1_0 a1_1 a1_2 a1_3).bind fun bt256 => (if bt256.2.2.2.2.2.2.2.2.2.2 = 0 then (handshakerlaw21_SwapFirst.l0 k bt256.1 bt256.2.2.2.2.2.2.2.2.2.1 ([] : List (S26)) false l0 (l0.length : Int) 0 a1_0 a1_1 a1_2 a1_3 bt256.2.1 bt256.2.2.1 bt256.2.2.2.1 bt256.2.2.2.2.1 bt256.2.2.2.2.2.1 bt256.2.2.2.2.2.2.1 bt256.2.2.2.2.2.2.2.1 bt256.2.2.2.2.2.2.2.2.1) else (if bt256.2.2.2.2.2.2.2.2.2.1 = true then (none) else ((handshakerlaw21_Refs.f k bt256.1).bind fun t270 => ((handshakerlaw21_Refs.f k l0).bind fun t273 => ((handshakerref21_Same.f k t270 t273).bind fun t276 => (if t276 = true then ((handshakerlaw21_awake.f k).bind fun t277 => (some t277)) else (none))))))))) = some r := h
  clear h
  by_cases c3 : (l0.length : Int) > 30
  · rw [if_pos c3] at H
    have c3b0 : decide (30 < (l0.length : Int)) = true := decide_eq_true c3
    have c3b1 : decide (30 < l0.length) = true := decide_eq_true (by omega)
    clear c3
    replace H := Option.bind_eq_some_iff.mp H
    obtain ⟨t255, A40, H⟩ := H
    replace H : (some t255) = some r := H
    have A4 := Aside0.mk A40
    clear A40
    obtain rfl := Option.some.inj H
    go_enter Try.func5, Try.ntmps5
    go_wp2_with (first | ((with_reducible refine gate_dst (N := 3) rfl ?_); refine box_event ?hg (N := 3) ?hd (cs := #[.int .i64 a1_0, .int .i64 a1_1, .int .i64 a1_2, .int .i64 a1_3]) (t := 26) ?hr ?_; (case hd => rfl); (case hg => rfl); (case hr => first | (go_simp; done) | (go_simp; rfl)); intro gb254 hg w5 hbox hb; have n0_ := Aside0.mk (below_step (by repeat (first | (with_reducible first | exact HB.out | apply below_alloc | apply pw_below_drewN | apply below_drew1) | exact HB.out)) hb); have n1_ := Aside0.mk (hbox); have n2_ := Aside0.mk ((by rw [hg]; exact (below_size (by repeat (first | (with_reducible first | exact HB.out | apply below_alloc | apply pw_below_drewN | apply below_drew1) | exact HB.out))) : w.heap.size ≤ gb254)); have n3_ := Aside0.mk ((by rw [hg]; exact (below_size (by repeat (first | (with_reducible first | exact HB.out | apply below_alloc | apply pw_below_drewN | apply below_drew1) | exact HB.out))) : w.heap.size ≤ gb254)); clear HB; have HB := n0_; have BK254 := n1_; have GW254 := n2_; have GE254 := n3_; clear n0_ n1_ n2_ n3_; clear hb hbox hg) | ((with_reducible refine gate_callee (f := 8) rfl ?_); refine goesL_ (some 16) rfl rfl Try.func8 (by kernel_rfl) rfl #[] rfl (by (try simp only [List.map_toArray, List.map_cons, List.map_nil]); first | done | rfl | (simp only [List.length_drop, List.length_take]; rfl)) ?_; (with_reducible refine (handshakerlaw21_awake.calls k  t255 _ A4.out).mono ?_); rintro e w6 ⟨rfl, hb⟩; refine ⟨_, rfl, ?_⟩; have n0_ := Aside0.mk (blk_below (g := gb254) (o := .cells #[.int .i64 a1_0, .int .i64 a1_1, .int .i64 a1_2, .int .i64 a1_3] 26 (0, 0)) (by (with_reducible repeat (first | refine blk_drewN ?_ _ | refine blk_drew ?_ | refine blk_alloc ?_ _)); exact BK254.out) hb); have n1_ := Aside0.mk (below_step (by repeat (first | (with_reducible first | exact HB.out | apply below_alloc | apply pw_below_drewN | apply below_drew1 | refine below_set ?_ GE254.out) | exact HB.out)) hb); clear BK254; clear HB; have BK254 := n0_; have HB := n1_; clear n0_ n1_; (try clear hb); (try clear hb2); (try clear hk); (try clear hi)))
    go_ret
    exact ⟨by first | rfl | (simp [errW_none, errW_some] <;> rfl) | (simp [*, errW_none, errW_some] <;> rfl), by repeat (first | (with_reducible first | exact HB.out | apply below_alloc | apply pw_below_drewN | apply below_drew1 | refine below_set ?_ GE254.out) | exact HB.out)⟩
  · rw [if_neg c3] at H
    have c3b0 : decide (30 < (l0.length : Int)) = false := decide_eq_false c3
    have c3b1 : decide (30 < l0.length) = false := decide_eq_false (by omega)
    clear c3
    replace H := Option.bind_eq_some_iff.mp H
    obtain ⟨⟨t256, t259, t260, t261, t262, t263, t264, t265, t266, t267, t268⟩, A70, H⟩ := H
    replace H : (if t268 = 0 then (handshakerlaw21_SwapFirst.l0 k t256 t267 ([] : List (S26)) false l0 (l0.length : Int) 0 a1_0 a1_1 a1_2 a1_3 t259 t260 t261 t262 t263 t264 t265 t266) else (if t267 = true then (none) else ((handshakerlaw21_Refs.f k t256).bind fun t270 => ((handshakerlaw21_Refs.f k l0).bind fun t273 => ((handshakerref21_Same.f k t270 t273).bind fun t276 => (if t276 = true then ((handshakerlaw21_awake.f k).bind fun t277 => (some t277)) else (none))))))) = some r := H
    have A7 := Aside0.mk A70
    clear A70
    by_cases c8 : t268 = 0
    · rw [if_pos c8] at H
      have c8b0 : (t268 == 0) = true := beq_iff_eq.mpr c8
      have c8b1 : (t268 != 0) = false := bne_eq_false_iff_eq.mpr c8
      clear c8
      have H' := Aside0.mk H
      clear H
      go_enter Try.func5, Try.ntmps5
      go_wp2_with (first | ((with_reducible refine gate_dst (N := 3) rfl ?_); refine box_event ?hg (N := 3) ?hd (cs := #[.int .i64 a1_0, .int .i64 a1_1, .int .i64 a1_2, .int .i64 a1_3]) (t := 26) ?hr ?_; (case hd => rfl); (case hg => rfl); (case hr => first | (go_simp; done) | (go_simp; rfl)); intro gb254 hg w9 hbox hb; have n0_ := Aside0.mk (below_step (by repeat (first | (with_reducible first | exact HB.out | apply below_alloc | apply pw_below_drewN | apply below_drew1) | exact HB.out)) hb); have n1_ := Aside0.mk (hbox); have n2_ := Aside0.mk ((by rw [hg]; exact (below_size (by repeat (first | (with_reducible first | exact HB.out | apply below_alloc | apply pw_below_drewN | apply below_drew1) | exact HB.out))) : w.heap.size ≤ gb254)); have n3_ := Aside0.mk ((by rw [hg]; exact (below_size (by repeat (first | (with_reducible first | exact HB.out | apply below_alloc | apply pw_below_drewN | apply below_drew1) | exact HB.out))) : w.heap.size ≤ gb254)); clear HB; have HB := n0_; have BK254 := n1_; have GW254 := n2_; have GE254 := n3_; clear n0_ n1_ n2_ n3_; clear hb hbox hg; have hcz10_0 : w9.cell? ⟨gb254, 0, none⟩ = some (.int .i64 a1_0) := (blk_cell BK254.out 0).trans rfl; have hcz10_1 : w9.cell? ⟨gb254, 1, none⟩ = some (.int .i64 a1_1) := (blk_cell BK254.out 1).trans rfl; have hcz10_2 : w9.cell? ⟨gb254, 2, none⟩ = some (.int .i64 a1_2) := (blk_cell BK254.out 2).trans rfl; have hcz10_3 : w9.cell? ⟨gb254, 3, none⟩ = some (.int .i64 a1_3) := (blk_cell BK254.out 3).trans rfl; have hfz10_0 := blk_frozen BK254.out 0; have hfz10_1 := blk_frozen BK254.out 1; have hfz10_2 := blk_frozen BK254.out 2; have hfz10_3 := blk_frozen BK254.out 3) | ((with_reducible refine gate_callee (f := 11) rfl ?_); refine goesL_ (some 20) rfl rfl Try.func11 (by kernel_rfl) rfl #[.slice A0 l0.length c0, .agg #[.int .i64 a1_0, .int .i64 a1_1, .int .i64 a1_2, .int .i64 a1_3]] rfl (by (try simp only [List.map_toArray, List.map_cons, List.map_nil]); first | done | rfl | (simp only [List.length_drop, List.length_take]; rfl)) ?_; (with_reducible refine (swap_Put.calls k (fun k_ => k_ < w.heap.size) _ _ l0 a1_0 a1_1 a1_2 a1_3 t256 t259 t260 t261 t262 t263 t264 t265 t266 t267 t268 _ ?side1 A7.out).mono ?_); (case side1 => exact Kd.V_mk HC0.out (Kd.F_below (Kd.C_F k26_heap HR0.out) (by repeat (first | (with_reducible first | exact HB.out | apply below_alloc | apply pw_below_drewN | apply below_drew1 | refine below_set ?_ GE254.out) | exact HB.out)))); rintro e w11 ⟨v257, rfl, ho0, hb⟩; refine ⟨_, rfl, ?_⟩; have n0_ := Aside0.mk (Kd.V_lower (Kd.V_mono (ok' := fun k_ => k_ ≠ gb254) ho0 (fun k_ hk_ => Or.elim hk_ (fun hs_ => fun e_ => Nat.not_le.2 hs_ (by rw [e_]; exact GW254.out)) (fun hn_ => (Kd.freshB (g := gb254) (o := .cells #[.int .i64 a1_0, .int .i64 a1_1, .int .i64 a1_2, .int .i64 a1_3] 26 (0, 0)) (by (with_reducible repeat (first | refine blk_drewN ?_ _ | refine blk_drew ?_ | refine blk_alloc ?_ _)); exact BK254.out) k_ hn_)))) (below_size (by repeat (first | (with_reducible first | exact HB.out | apply below_alloc | apply pw_below_drewN | apply below_drew1 | refine below_set ?_ GE254.out) | exact HB.out)))); have n1_ := Aside0.mk (blk_below (g := gb254) (o := .cells #[.int .i64 a1_0, .int .i64 a1_1, .int .i64 a1_2, .int .i64 a1_3] 26 (0, 0)) (by (with_reducible repeat (first | refine blk_drewN ?_ _ | refine blk_drew ?_ | refine blk_alloc ?_ _)); exact BK254.out) hb); have n2_ := Aside0.mk (below_step (by repeat (first | (with_reducible first | exact HB.out | apply below_alloc | apply pw_below_drewN | apply below_drew1 | refine below_set ?_ GE254.out) | exact HB.out)) hb); clear BK254; clear HB; have HO258 := n0_; have BK254 := n1_; have HB := n2_; clear n0_ n1_ n2_; (try clear hb); (try clear hb2); (try clear hk); (try clear hi); (try clear ho0)) | ((with_reducible refine gate_dst (N := 6) rfl ?_); refine box_event ?hg (N := 6) ?hd (cs := #[.int .i64 0, .int .i64 0, .int .i64 0, .int .i64 0, .int .i64 0, .int .i64 0, .int .i64 0, .int .i64 0]) (t := 35) ?hr ?_; (case hd => rfl); (case hg => rfl); (case hr => first | (go_simp; done) | (go_simp; rfl)); intro gb269 hg w12 hbox hb; have n0_ := Aside0.mk (Kd.V_below (Kd.V_elderB (by (with_reducible repeat (first | apply Kd.V_alloc | apply Kd.V_drewN | apply Kd.V_drew)); exact HO258.out) gb269 (Nat.le_of_eq hg.symm)) hb); have n1_ := Aside0.mk (blk_below (g := gb254) (o := .cells #[.int .i64 a1_0, .int .i64 a1_1, .int .i64 a1_2, .int .i64 a1_3] 26 (0, 0)) (by (with_reducible repeat (first | refine blk_drewN ?_ _ | refine blk_drew ?_ | refine blk_alloc ?_ _)); exact BK254.out) hb); have n2_ := Aside0.mk (below_step (by repeat (first | (with_reducible first | exact HB.out | apply below_alloc | apply pw_below_drewN | apply below_drew1 | refine below_set ?_ GE254.out) | exact HB.out)) hb); have n3_ := Aside0.mk (hbox); have n4_ := Aside0.mk ((by rw [hg]; exact (below_size (by repeat (first | (with_reducible first | exact HB.out | apply below_alloc | apply pw_below_drewN | apply below_drew1 | refine below_set ?_ GE254.out) | exact HB.out))) : w.heap.size ≤ gb269)); have n5_ := Aside0.mk ((by rw [hg]; exact (below_size (by repeat (first | (with_reducible first | exact HB.out | apply below_alloc | apply pw_below_drewN | apply below_drew1 | refine below_set ?_ GE254.out) | exact HB.out))) : w.heap.size ≤ gb269)); have n6_ := Aside0.mk ((by rw [hg]; exact Nat.ne_of_lt (blk_lt (g := gb254) (o := .cells #[.int .i64 a1_0, .int .i64 a1_1, .int .i64 a1_2, .int .i64 a1_3] 26 (0, 0)) (by (with_reducible repeat (first | refine blk_drewN ?_ _ | refine blk_drew ?_ | refine blk_alloc ?_ _)); exact BK254.out)) : gb254 ≠ gb269)); have n7_ := Aside0.mk ((by rw [hg]; exact Nat.ne_of_gt (blk_lt (g := gb254) (o := .cells #[.int .i64 a1_0, .int .i64 a1_1, .int .i64 a1_2, .int .i64 a1_3] 26 (0, 0)) (by (with_reducible repeat (first | refine blk_drewN ?_ _ | refine blk_drew ?_ | refine blk_alloc ?_ _)); exact BK254.out)) : gb269 ≠ gb254)); clear HO258; clear BK254; clear HB; have HO258 := n0_; have BK254 := n1_; have HB := n2_; have BK269 := n3_; have GW269 := n4_; have GE269 := n5_; have NB254_269 := n6_; have NB269_254 := n7_; clear n0_ n1_ n2_ n3_ n4_ n5_ n6_ n7_; clear hb hbox hg; have hnb13 := NB269_254.out; have hnc13 := NB254_269.out; have hcz14_0 : w12.cell? ⟨gb269, 0, none⟩ = some (.int .i64 0) := (blk_cell BK269.out 0).trans rfl; have hcz14_1 : w12.cell? ⟨gb269, 1, none⟩ = some (.int .i64 0) := (blk_cell BK269.out 1).trans rfl; have hcz14_2 : w12.cell? ⟨gb269, 2, none⟩ = some (.int .i64 0) := (blk_cell BK269.out 2).trans rfl; have hcz14_3 : w12.cell? ⟨gb269, 3, none⟩ = some (.int .i64 0) := (blk_cell BK269.out 3).trans rfl; have hcz14_4 : w12.cell? ⟨gb269, 4, none⟩ = some (.int .i64 0) := (blk_cell BK269.out 4).trans rfl; have hcz14_5 : w12.cell? ⟨gb269, 5, none⟩ = some (.int .i64 0) := (blk_cell BK269.out 5).trans rfl; have hcz14_6 : w12.cell? ⟨gb269, 6, none⟩ = some (.int .i64 0) := (blk_cell BK269.out 6).trans rfl; have hcz14_7 : w12.cell? ⟨gb269, 7, none⟩ = some (.int .i64 0) := (blk_cell BK269.out 7).trans rfl; have hfz14_0 := blk_frozen BK269.out 0; have hfz14_1 := blk_frozen BK269.out 1; have hfz14_2 := blk_frozen BK269.out 2; have hfz14_3 := blk_frozen BK269.out 3; have hfz14_4 := blk_frozen BK269.out 4; have hfz14_5 := blk_frozen BK269.out 5; have hfz14_6 := blk_frozen BK269.out 6; have hfz14_7 := blk_frozen BK269.out 7))
      go_loopg [9, 10, 41] k (fun kq v9 v10 v41 w' => ∃ (x9_1 : List (S26)) (x10_1 : Bool) (x41_1 : Int), v10 = .bool x10_1 ∧ v41 = .int .i64 x41_1 ∧ Aside0 (handshakerlaw21_SwapFirst.l0 kq t256 t267 x9_1 x10_1 l0 (l0.length : Int) x41_1 a1_0 a1_1 a1_2 a1_3 t259 t260 t261 t262 t263 t264 t265 t266 = some r) ∧ Aside0 (kq ≤ k) ∧ Aside0 (Kd.V k26 26 w' w.heap.size (fun k_ => some k_ ≠ (v9 : Value).ownBlock ∧ k_ ≠ gb254 ∧ k_ ≠ gb269) v257 t256) ∧ Aside0 (Kd.R k26 26 w' w.heap.size (fun k_ => k_ ≠ gb254) v9 x9_1) ∧ Aside0 (w'.heap[gb254]? = some (.cells #[.int .i64 a1_0, .int .i64 a1_1, .int .i64 a1_2, .int .i64 a1_3] 26 (0, 0))) ∧ Aside0 (w'.heap[gb269]? = some (.cells #[.int .i64 t259, .int .i64 t260, .int .i64 t261, .int .i64 t262, .int .i64 t263, .int .i64 t264, .int .i64 t265, .int .i64 t266] 35 (0, 0))) ∧ Aside0 (Below w.heap.size w w'))
      case atStart => exact ⟨(([] : List (S26))), (false), (0), (by first | rfl | (simp; done) | (simp [*]; done)), (by first | rfl | (simp; done) | (simp [*]; done)), H', ⟨Nat.le_refl _⟩, ⟨by (with_reducible repeat (first | apply Kd.V_alloc | apply Kd.V_drewN | apply Kd.V_drew)); exact Kd.V_mono (Kd.V_far (p := ⟨gb269, 7, none⟩) (Kd.V_far (p := ⟨gb269, 6, none⟩) (Kd.V_far (p := ⟨gb269, 5, none⟩) (Kd.V_far (p := ⟨gb269, 4, none⟩) (Kd.V_far (p := ⟨gb269, 3, none⟩) (Kd.V_far (p := ⟨gb269, 2, none⟩) (Kd.V_far (p := ⟨gb269, 1, none⟩) (Kd.V_far (p := ⟨gb269, 0, none⟩) (Kd.V_mono HO258.out (fun k_ hk => (⟨hk, hk.2⟩ : _ ∧ k_ ≠ gb269))) (fun _ hk => hk.2) (.int .i64 t259)) (fun _ hk => hk.2) (.int .i64 t260)) (fun _ hk => hk.2) (.int .i64 t261)) (fun _ hk => hk.2) (.int .i64 t262)) (fun _ hk => hk.2) (.int .i64 t263)) (fun _ hk => hk.2) (.int .i64 t264)) (fun _ hk => hk.2) (.int .i64 t265)) (fun _ hk => hk.2) (.int .i64 t266)) (fun _ hk => ⟨(by simp [Value.ownBlock]), ⟨hk.1.1, hk.1.2⟩⟩)⟩, ⟨by first | exact Kd.R_nil _ _ _ _ _ | exact Kd.N_nil _ _ _ _ _ | exact Kd.V_nil _ _ _ _ _ | exact Kd.Q_nil _ _ _ _ _ | exact Kd.S_nil _ _ _ _ _⟩, ⟨by (with_reducible repeat (first | refine blk_drewN ?_ _ | refine blk_drew ?_ | refine blk_alloc ?_ _)); refine blk_far ?_ NB254_269.out _; (with_reducible repeat (first | refine blk_drewN ?_ _ | refine blk_drew ?_ | refine blk_alloc ?_ _)); refine blk_far ?_ NB254_269.out _; (with_reducible repeat (first | refine blk_drewN ?_ _ | refine blk_drew ?_ | refine blk_alloc ?_ _)); refine blk_far ?_ NB254_269.out _; (with_reducible repeat (first | refine blk_drewN ?_ _ | refine blk_drew ?_ | refine blk_alloc ?_ _)); refine blk_far ?_ NB254_269.out _; (with_reducible repeat (first | refine blk_drewN ?_ _ | refine blk_drew ?_ | refine blk_alloc ?_ _)); refine blk_far ?_ NB254_269.out _; (with_reducible repeat (first | refine blk_drewN ?_ _ | refine blk_drew ?_ | refine blk_alloc ?_ _)); refine blk_far ?_ NB254_269.out _; (with_reducible repeat (first | refine blk_drewN ?_ _ | refine blk_drew ?_ | refine blk_alloc ?_ _)); refine blk_far ?_ NB254_269.out _; (with_reducible repeat (first | refine blk_drewN ?_ _ | refine blk_drew ?_ | refine blk_alloc ?_ _)); refine blk_far ?_ NB254_269.out _; (with_reducible repeat (first | refine blk_drewN ?_ _ | refine blk_drew ?_ | refine blk_alloc ?_ _)); exact BK254.out⟩, ⟨by (with_reducible repeat (first | refine blk_drewN ?_ _ | refine blk_drew ?_ | refine blk_alloc ?_ _)); refine blk_put (cs := #[.int .i64 t259, .int .i64 t260, .int .i64 t261, .int .i64 t262, .int .i64 t263, .int .i64 t264, .int .i64 t265, .int .i64 0]) ?_ 7 _ rfl; (with_reducible repeat (first | refine blk_drewN ?_ _ | refine blk_drew ?_ | refine blk_alloc ?_ _)); refine blk_put (cs := #[.int .i64 t259, .int .i64 t260, .int .i64 t261, .int .i64 t262, .int .i64 t263, .int .i64 t264, .int .i64 0, .int .i64 0]) ?_ 6 _ rfl; (with_reducible repeat (first | refine blk_drewN ?_ _ | refine blk_drew ?_ | refine blk_alloc ?_ _)); refine blk_put (cs := #[.int .i64 t259, .int .i64 t260, .int .i64 t261, .int .i64 t262, .int .i64 t263, .int .i64 0, .int .i64 0, .int .i64 0]) ?_ 5 _ rfl; (with_reducible repeat (first | refine blk_drewN ?_ _ | refine blk_drew ?_ | refine blk_alloc ?_ _)); refine blk_put (cs := #[.int .i64 t259, .int .i64 t260, .int .i64 t261, .int .i64 t262, .int .i64 0, .int .i64 0, .int .i64 0, .int .i64 0]) ?_ 4 _ rfl; (with_reducible repeat (first | refine blk_drewN ?_ _ | refine blk_drew ?_ | refine blk_alloc ?_ _)); refine blk_put (cs := #[.int .i64 t259, .int .i64 t260, .int .i64 t261, .int .i64 0, .int .i64 0, .int .i64 0, .int .i64 0, .int .i64 0]) ?_ 3 _ rfl; (with_reducible repeat (first | refine blk_drewN ?_ _ | refine blk_drew ?_ | refine blk_alloc ?_ _)); refine blk_put (cs := #[.int .i64 t259, .int .i64 t260, .int .i64 0, .int .i64 0, .int .i64 0, .int .i64 0, .int .i64 0, .int .i64 0]) ?_ 2 _ rfl; (with_reducible repeat (first | refine blk_drewN ?_ _ | refine blk_drew ?_ | refine blk_alloc ?_ _)); refine blk_put (cs := #[.int .i64 t259, .int .i64 0, .int .i64 0, .int .i64 0, .int .i64 0, .int .i64 0, .int .i64 0, .int .i64 0]) ?_ 1 _ rfl; (with_reducible repeat (first | refine blk_drewN ?_ _ | refine blk_drew ?_ | refine blk_alloc ?_ _)); refine blk_put (cs := #[.int .i64 0, .int .i64 0, .int .i64 0, .int .i64 0, .int .i64 0, .int .i64 0, .int .i64 0, .int .i64 0]) ?_ 0 _ rfl; (with_reducible repeat (first | refine blk_drewN ?_ _ | refine blk_drew ?_ | refine blk_alloc ?_ _)); exact BK269.out⟩, ⟨by repeat (first | (with_reducible first | exact HB.out | apply below_alloc | apply pw_below_drewN | apply below_drew1 | refine below_set ?_ GE254.out | refine below_set ?_ GE269.out) | exact HB.out)⟩⟩
      case round =>
        clear H'
        try clear c1
        try clear p2
        try clear c3
        try clear c3b0
        try clear c3b1
        try clear c5
        try clear c8
        try clear c8b0
        try clear c8b1
        try clear c11
        try clear c13
        try clear hcz10_0
        try clear hcz10_1
        try clear hcz10_2
        try clear hcz10_3
        try clear hcz14_0
        try clear hcz14_1
        try clear hcz14_2
        try clear hcz14_3
        try clear hcz14_4
        try clear hcz14_5
        try clear hcz14_6
        try clear hcz14_7
        try clear hfz10_0
        try clear hfz10_1
        try clear hfz10_2
        try clear hfz10_3
        try clear hfz14_0
        try clear hfz14_1
        try clear hfz14_2
        try clear hfz14_3
        try clear hfz14_4
        try clear hfz14_5
        try clear hfz14_6
        try clear hfz14_7
        obtain ⟨x9_1, x10_1, x41_1, rfl, rfl, HA, HK1, HO_5, HO_9, BK254, BK269, HB⟩ := hrel
        cases gk with
        | zero => exact absurd HA.out (by simp [handshakerlaw21_SwapFirst.l0])
        | succ k1 =>
          have H := HA.out
          clear HA
          simp only [handshakerlaw21_SwapFirst.l0] at H
          by_cases c15 : x41_1 < (l0.length : Int)
          · rw [if_pos c15] at H
            have c15b0 : decide (x41_1 < (l0.length : Int)) = true := decide_eq_true c15
            clear c15
            by_cases c16 : 0 ≤ x41_1
            · rw [if_pos c16] at H
              have c16b0 : decide (0 ≤ x41_1) = true := decide_eq_true c16
              clear c16
              by_cases c17 : x41_1 < (l0.length : Int)
              · rw [if_pos c17] at H
                have c17b0 : decide (x41_1 < (l0.length : Int)) = true := decide_eq_true c17
                clear c17
                have HC18 := Aside0.mk H
                clear H
                have p278 : 0 ≤ (x41_1 : Int) := of_decide_eq_true (by first | (with_reducible assumption) | assumption)
                have q278 : x41_1 < (l0.length : Int) := of_decide_eq_true (by first | (with_reducible assumption) | assumption)
                obtain ⟨ad278, e278, hx278_0, hx278_1, hx278_2, hx278_3⟩ := at_T26 HR0.out x41_1 p278 q278
                cases e278
                replace hx278_0 := (HB.out.cell (World.block_lt_of_cell? w _ hx278_0)).trans hx278_0
                replace hx278_1 := (HB.out.cell (World.block_lt_of_cell? w _ hx278_1)).trans hx278_1
                replace hx278_2 := (HB.out.cell (World.block_lt_of_cell? w _ hx278_2)).trans hx278_2
                replace hx278_3 := (HB.out.cell (World.block_lt_of_cell? w _ hx278_3)).trans hx278_3
                replace p278 := eq_true p278
                replace q278 := eq_true q278
                go_upto_region 11 with (first | ((with_reducible refine gate_dst (N := 12) rfl ?_); refine box_event ?hg (N := 12) ?hd (cs := #[.int .i64 0, .int .i64 0, .int .i64 0, .int .i64 0]) (t := 26) ?hr ?_; (case hd => rfl); (case hg => rfl); (case hr => first | (go_simp; done) | (go_simp; rfl)); intro gb279 hg w19 hbox hb; have n0_ := Aside0.mk (Kd.V_below (Kd.V_elderB (by (with_reducible repeat (first | apply Kd.V_alloc | apply Kd.V_drewN | apply Kd.V_drew)); exact HO_5.out) gb279 (Nat.le_of_eq hg.symm)) hb); have n1_ := Aside0.mk (Kd.R_below (Kd.R_elderB (by (with_reducible repeat (first | apply Kd.R_alloc | apply Kd.R_drewN | apply Kd.R_drew)); exact HO_9.out) gb279 (Nat.le_of_eq hg.symm)) hb); have n2_ := Aside0.mk (blk_below (g := gb254) (o := .cells #[.int .i64 a1_0, .int .i64 a1_1, .int .i64 a1_2, .int .i64 a1_3] 26 (0, 0)) (by (with_reducible repeat (first | refine blk_drewN ?_ _ | refine blk_drew ?_ | refine blk_alloc ?_ _)); exact BK254.out) hb); have n3_ := Aside0.mk (blk_below (g := gb269) (o := .cells #[.int .i64 t259, .int .i64 t260, .int .i64 t261, .int .i64 t262, .int .i64 t263, .int .i64 t264, .int .i64 t265, .int .i64 t266] 35 (0, 0)) (by (with_reducible repeat (first | refine blk_drewN ?_ _ | refine blk_drew ?_ | refine blk_alloc ?_ _)); exact BK269.out) hb); have n4_ := Aside0.mk (below_step (by repeat (first | (with_reducible first | exact HB.out | apply below_alloc | apply pw_below_drewN | apply below_drew1 | refine below_set ?_ GE254.out | refine below_set ?_ GE269.out) | exact HB.out)) hb); have n5_ := Aside0.mk (hbox); have n6_ := Aside0.mk ((by rw [hg]; exact (below_size (by repeat (first | (with_reducible first | exact HB.out | apply below_alloc | apply pw_below_drewN | apply below_drew1 | refine below_set ?_ GE254.out | refine below_set ?_ GE269.out) | exact HB.out))) : w.heap.size ≤ gb279)); have n7_ := Aside0.mk ((by rw [hg]; exact (below_size (by repeat (first | (with_reducible first | exact HB.out | apply below_alloc | apply pw_below_drewN | apply below_drew1 | refine below_set ?_ GE254.out | refine below_set ?_ GE269.out) | exact HB.out))) : w.heap.size ≤ gb279)); have n8_ := Aside0.mk ((by rw [hg]; exact Nat.ne_of_lt (blk_lt (g := gb254) (o := .cells #[.int .i64 a1_0, .int .i64 a1_1, .int .i64 a1_2, .int .i64 a1_3] 26 (0, 0)) (by (with_reducible repeat (first | refine blk_drewN ?_ _ | refine blk_drew ?_ | refine blk_alloc ?_ _)); exact BK254.out)) : gb254 ≠ gb279)); have n9_ := Aside0.mk ((by rw [hg]; exact Nat.ne_of_gt (blk_lt (g := gb254) (o := .cells #[.int .i64 a1_0, .int .i64 a1_1, .int .i64 a1_2, .int .i64 a1_3] 26 (0, 0)) (by (with_reducible repeat (first | refine blk_drewN ?_ _ | refine blk_drew ?_ | refine blk_alloc ?_ _)); exact BK254.out)) : gb279 ≠ gb254)); have n10_ := Aside0.mk ((by rw [hg]; exact Nat.ne_of_lt (blk_lt (g := gb269) (o := .cells #[.int .i64 t259, .int .i64 t260, .int .i64 t261, .int .i64 t262, .int .i64 t263, .int .i64 t264, .int .i64 t265, .int .i64 t266] 35 (0, 0)) (by (with_reducible repeat (first | refine blk_drewN ?_ _ | refine blk_drew ?_ | refine blk_alloc ?_ _)); exact BK269.out)) : gb269 ≠ gb279)); have n11_ := Aside0.mk ((by rw [hg]; exact Nat.ne_of_gt (blk_lt (g := gb269) (o := .cells #[.int .i64 t259, .int .i64 t260, .int .i64 t261, .int .i64 t262, .int .i64 t263, .int .i64 t264, .int .i64 t265, .int .i64 t266] 35 (0, 0)) (by (with_reducible repeat (first | refine blk_drewN ?_ _ | refine blk_drew ?_ | refine blk_alloc ?_ _)); exact BK269.out)) : gb279 ≠ gb269)); clear HO_5; clear HO_9; clear BK254; clear BK269; clear HB; have HO_5 := n0_; have HO_9 := n1_; have BK254 := n2_; have BK269 := n3_; have HB := n4_; have BK279 := n5_; have GW279 := n6_; have GE279 := n7_; have NB254_279 := n8_; have NB279_254 := n9_; have NB269_279 := n10_; have NB279_269 := n11_; clear n0_ n1_ n2_ n3_ n4_ n5_ n6_ n7_ n8_ n9_ n10_ n11_; clear hb hbox hg; have hnb20 := NB279_254.out; have hnc20 := NB254_279.out; have hnb21 := NB279_269.out; have hnc21 := NB269_279.out; have hcz22_0 : w19.cell? ⟨gb279, 0, none⟩ = some (.int .i64 0) := (blk_cell BK279.out 0).trans rfl; have hcz22_1 : w19.cell? ⟨gb279, 1, none⟩ = some (.int .i64 0) := (blk_cell BK279.out 1).trans rfl; have hcz22_2 : w19.cell? ⟨gb279, 2, none⟩ = some (.int .i64 0) := (blk_cell BK279.out 2).trans rfl; have hcz22_3 : w19.cell? ⟨gb279, 3, none⟩ = some (.int .i64 0) := (blk_cell BK279.out 3).trans rfl; have hfz22_0 := blk_frozen BK279.out 0; have hfz22_1 := blk_frozen BK279.out 1; have hfz22_2 := blk_frozen BK279.out 2; have hfz22_3 := blk_frozen BK279.out 3))
                (try simp only [Act.put, List.setIfInBounds_toArray, List.set_cons_zero, List.set_cons_succ])
                go_cut [51] (fun v51 wc => ∃ (kq : Nat) (x51_17 : Bool), v51 = .bool x51_17 ∧ Aside0 (handshakerlaw21_SwapFirst.j1 kq t256 t267 x9_1 x10_1 l0 (l0.length : Int) x41_1 x51_17 a1_0 a1_1 a1_2 a1_3 t259 t260 t261 t262 t263 t264 t265 t266 ((rd_T26 l0 x41_1).f0) ((rd_T26 l0 x41_1).f1) ((rd_T26 l0 x41_1).f2) ((rd_T26 l0 x41_1).f3) = some r) ∧ Aside0 (kq ≤ k1) ∧ Aside0 (Kd.V k26 26 wc w.heap.size (fun k_ => some k_ ≠ (u9 : Value).ownBlock ∧ k_ ≠ gb254 ∧ k_ ≠ gb269 ∧ k_ ≠ gb279) v257 t256) ∧ Aside0 (Kd.R k26 26 wc w.heap.size (fun k_ => k_ ≠ gb254 ∧ k_ ≠ gb279) u9 x9_1) ∧ Aside0 (wc.heap[gb254]? = some (.cells #[.int .i64 a1_0, .int .i64 a1_1, .int .i64 a1_2, .int .i64 a1_3] 26 (0, 0))) ∧ Aside0 (wc.heap[gb269]? = some (.cells #[.int .i64 t259, .int .i64 t260, .int .i64 t261, .int .i64 t262, .int .i64 t263, .int .i64 t264, .int .i64 t265, .int .i64 t266] 35 (0, 0))) ∧ Aside0 (wc.heap[gb279]? = some (.cells #[.int .i64 ((rd_T26 l0 x41_1).f0), .int .i64 ((rd_T26 l0 x41_1).f1), .int .i64 ((rd_T26 l0 x41_1).f2), .int .i64 ((rd_T26 l0 x41_1).f3)] 26 (0, 0))) ∧ Aside0 (Below w.heap.size w wc))
                case first =>
                  have H := HC18.out
                  clear HC18
                  by_cases c23 : x10_1 = true
                  · subst c23
                    have H1 : (handshakerlaw21_SwapFirst.j1 k1 t256 t267 x9_1 true l0 (l0.length : Int) x41_1 false a1_0 a1_1 a1_2 a1_3 t259 t260 t261 t262 t263 t264 t265 t266 ((rd_T26 l0 x41_1).f0) ((rd_T26 l0 x41_1).f1) ((rd_T26 l0 x41_1).f2) ((rd_T26 l0 x41_1).f3)) = some r := by rw [if_pos rfl] at H; exact H
                    clear H
                    have H := H1
                    clear H1
                    have H' := Aside0.mk H
                    clear H
                    go_wp2
                    go_meet
                    case rel => exact ⟨_, (false), (by first | rfl | (simp; done) | (simp [*]; done)), H', ⟨by have := HK1.out; first | omega | exact Nat.le_refl _⟩, ⟨by (with_reducible repeat (first | apply Kd.V_alloc | apply Kd.V_drewN | apply Kd.V_drew)); exact Kd.V_mono (Kd.V_far (p := ⟨gb279, 3, none⟩) (Kd.V_far (p := ⟨gb279, 2, none⟩) (Kd.V_far (p := ⟨gb279, 1, none⟩) (Kd.V_far (p := ⟨gb279, 0, none⟩) (Kd.V_mono HO_5.out (fun k_ hk => (⟨hk, hk.2⟩ : _ ∧ k_ ≠ gb279))) (fun _ hk => hk.2) (.int .i64 ((rd_T26 l0 x41_1).f0))) (fun _ hk => hk.2) (.int .i64 ((rd_T26 l0 x41_1).f1))) (fun _ hk => hk.2) (.int .i64 ((rd_T26 l0 x41_1).f2))) (fun _ hk => hk.2) (.int .i64 ((rd_T26 l0 x41_1).f3))) (fun _ hk => ⟨hk.1.1.1, ⟨hk.1.1.2.1, ⟨hk.1.1.2.2, hk.1.2⟩⟩⟩)⟩, ⟨by (with_reducible repeat (first | apply Kd.R_alloc | apply Kd.R_drewN | apply Kd.R_drew)); exact Kd.R_mono (Kd.R_far (p := ⟨gb279, 3, none⟩) (Kd.R_far (p := ⟨gb279, 2, none⟩) (Kd.R_far (p := ⟨gb279, 1, none⟩) (Kd.R_far (p := ⟨gb279, 0, none⟩) (Kd.R_mono HO_9.out (fun k_ hk => (⟨hk, hk.2⟩ : _ ∧ k_ ≠ gb279))) (fun _ hk => hk.2) (.int .i64 ((rd_T26 l0 x41_1).f0))) (fun _ hk => hk.2) (.int .i64 ((rd_T26 l0 x41_1).f1))) (fun _ hk => hk.2) (.int .i64 ((rd_T26 l0 x41_1).f2))) (fun _ hk => hk.2) (.int .i64 ((rd_T26 l0 x41_1).f3))) (fun _ hk => ⟨hk.1.1, hk.1.2⟩)⟩, ⟨by (with_reducible repeat (first | refine blk_drewN ?_ _ | refine blk_drew ?_ | refine blk_alloc ?_ _)); refine blk_far ?_ NB254_279.out _; (with_reducible repeat (first | refine blk_drewN ?_ _ | refine blk_drew ?_ | refine blk_alloc ?_ _)); refine blk_far ?_ NB254_279.out _; (with_reducible repeat (first | refine blk_drewN ?_ _ | refine blk_drew ?_ | refine blk_alloc ?_ _)); refine blk_far ?_ NB254_279.out _; (with_reducible repeat (first | refine blk_drewN ?_ _ | refine blk_drew ?_ | refine blk_alloc ?_ _)); refine blk_far ?_ NB254_279.out _; (with_reducible repeat (first | refine blk_drewN ?_ _ | refine blk_drew ?_ | refine blk_alloc ?_ _)); exact BK254.out⟩, ⟨by (with_reducible repeat (first | refine blk_drewN ?_ _ | refine blk_drew ?_ | refine blk_alloc ?_ _)); refine blk_far ?_ NB269_279.out _; (with_reducible repeat (first | refine blk_drewN ?_ _ | refine blk_drew ?_ | refine blk_alloc ?_ _)); refine blk_far ?_ NB269_279.out _; (with_reducible repeat (first | refine blk_drewN ?_ _ | refine blk_drew ?_ | refine blk_alloc ?_ _)); refine blk_far ?_ NB269_279.out _; (with_reducible repeat (first | refine blk_drewN ?_ _ | refine blk_drew ?_ | refine blk_alloc ?_ _)); refine blk_far ?_ NB269_279.out _; (with_reducible repeat (first | refine blk_drewN ?_ _ | refine blk_drew ?_ | refine blk_alloc ?_ _)); exact BK269.out⟩, ⟨by (with_reducible repeat (first | refine blk_drewN ?_ _ | refine blk_drew ?_ | refine blk_alloc ?_ _)); refine blk_put (cs := #[.int .i64 ((rd_T26 l0 x41_1).f0), .int .i64 ((rd_T26 l0 x41_1).f1), .int .i64 ((rd_T26 l0 x41_1).f2), .int .i64 0]) ?_ 3 _ rfl; (with_reducible repeat (first | refine blk_drewN ?_ _ | refine blk_drew ?_ | refine blk_alloc ?_ _)); refine blk_put (cs := #[.int .i64 ((rd_T26 l0 x41_1).f0), .int .i64 ((rd_T26 l0 x41_1).f1), .int .i64 0, .int .i64 0]) ?_ 2 _ rfl; (with_reducible repeat (first | refine blk_drewN ?_ _ | refine blk_drew ?_ | refine blk_alloc ?_ _)); refine blk_put (cs := #[.int .i64 ((rd_T26 l0 x41_1).f0), .int .i64 0, .int .i64 0, .int .i64 0]) ?_ 1 _ rfl; (with_reducible repeat (first | refine blk_drewN ?_ _ | refine blk_drew ?_ | refine blk_alloc ?_ _)); refine blk_put (cs := #[.int .i64 0, .int .i64 0, .int .i64 0, .int .i64 0]) ?_ 0 _ rfl; (with_reducible repeat (first | refine blk_drewN ?_ _ | refine blk_drew ?_ | refine blk_alloc ?_ _)); exact BK279.out⟩, ⟨by repeat (first | (with_reducible first | exact HB.out | apply below_alloc | apply pw_below_drewN | apply below_drew1 | refine below_set ?_ GE254.out | refine below_set ?_ GE269.out | refine below_set ?_ GE279.out) | exact HB.out)⟩⟩
                  · replace c23 := Bool.eq_false_iff.mpr c23
                    subst c23
                    have H1 : ((swap_Meet.f ((rd_T26 l0 x41_1).f0) ((rd_T26 l0 x41_1).f1) ((rd_T26 l0 x41_1).f2) ((rd_T26 l0 x41_1).f3) a1_0 a1_1 a1_2 a1_3).bind fun t280 => (handshakerlaw21_SwapFirst.j1 k1 t256 t267 x9_1 false l0 (l0.length : Int) x41_1 t280 a1_0 a1_1 a1_2 a1_3 t259 t260 t261 t262 t263 t264 t265 t266 ((rd_T26 l0 x41_1).f0) ((rd_T26 l0 x41_1).f1) ((rd_T26 l0 x41_1).f2) ((rd_T26 l0 x41_1).f3))) = some r := by rw [if_neg (show ¬ (false = true) by decide)] at H; exact H
                    clear H
                    have H := H1
                    clear H1
                    replace H := Option.bind_eq_some_iff.mp H
                    obtain ⟨t280, A240, H⟩ := H
                    replace H : (handshakerlaw21_SwapFirst.j1 k1 t256 t267 x9_1 false l0 (l0.length : Int) x41_1 t280 a1_0 a1_1 a1_2 a1_3 t259 t260 t261 t262 t263 t264 t265 t266 ((rd_T26 l0 x41_1).f0) ((rd_T26 l0 x41_1).f1) ((rd_T26 l0 x41_1).f2) ((rd_T26 l0 x41_1).f3)) = some r := H
                    have A24 := Aside0.mk A240
                    clear A240
                    have H' := Aside0.mk H
                    clear H
                    have hnb25 := NB279_254.out
                    have hnc25 := NB254_279.out
                    have hnb26 := NB279_269.out
                    have hnc26 := NB269_279.out
                    have hcz27_0 : w19.cell? ⟨gb279, 0, none⟩ = some (.int .i64 0) := (blk_cell BK279.out 0).trans rfl
                    have hcz27_1 : w19.cell? ⟨gb279, 1, none⟩ = some (.int .i64 0) := (blk_cell BK279.out 1).trans rfl
                    have hcz27_2 : w19.cell? ⟨gb279, 2, none⟩ = some (.int .i64 0) := (blk_cell BK279.out 2).trans rfl
                    have hcz27_3 : w19.cell? ⟨gb279, 3, none⟩ = some (.int .i64 0) := (blk_cell BK279.out 3).trans rfl
                    have hfz27_0 := blk_frozen BK279.out 0
                    have hfz27_1 := blk_frozen BK279.out 1
                    have hfz27_2 := blk_frozen BK279.out 2
                    have hfz27_3 := blk_frozen BK279.out 3
                    have hnb28 := NB254_269.out
                    have hnc28 := NB269_254.out
                    have hcz29_0 : w19.cell? ⟨gb254, 0, none⟩ = some (.int .i64 a1_0) := (blk_cell BK254.out 0).trans rfl
                    have hcz29_1 : w19.cell? ⟨gb254, 1, none⟩ = some (.int .i64 a1_1) := (blk_cell BK254.out 1).trans rfl
                    have hcz29_2 : w19.cell? ⟨gb254, 2, none⟩ = some (.int .i64 a1_2) := (blk_cell BK254.out 2).trans rfl
                    have hcz29_3 : w19.cell? ⟨gb254, 3, none⟩ = some (.int .i64 a1_3) := (blk_cell BK254.out 3).trans rfl
                    have hfz29_0 := blk_frozen BK254.out 0
                    have hfz29_1 := blk_frozen BK254.out 1
                    have hfz29_2 := blk_frozen BK254.out 2
                    have hfz29_3 := blk_frozen BK254.out 3
                    go_wp2_with (first | (go_at_call 13; (with_reducible refine (swap_Meet.calls ((rd_T26 l0 x41_1).f0) ((rd_T26 l0 x41_1).f1) ((rd_T26 l0 x41_1).f2) ((rd_T26 l0 x41_1).f3) a1_0 a1_1 a1_2 a1_3 t280 _ A24.out).mono ?_); rintro e w30 ⟨rfl, hb⟩; have n0_ := Aside0.mk (Kd.V_below (by (with_reducible repeat (first | apply Kd.V_alloc | apply Kd.V_drewN | apply Kd.V_drew)); exact (Kd.V_mono (Kd.V_far (p := ⟨gb279, 3, none⟩) (Kd.V_far (p := ⟨gb279, 2, none⟩) (Kd.V_far (p := ⟨gb279, 1, none⟩) (Kd.V_far (p := ⟨gb279, 0, none⟩) (Kd.V_mono HO_5.out (fun k_ hk => (⟨hk, hk.2⟩ : _ ∧ k_ ≠ gb279))) (fun _ hk => hk.2) (.int .i64 ((rd_T26 l0 x41_1).f0))) (fun _ hk => hk.2) (.int .i64 ((rd_T26 l0 x41_1).f1))) (fun _ hk => hk.2) (.int .i64 ((rd_T26 l0 x41_1).f2))) (fun _ hk => hk.2) (.int .i64 ((rd_T26 l0 x41_1).f3))) (fun _ h_ => h_.1))) hb); have n1_ := Aside0.mk (Kd.R_below (by (with_reducible repeat (first | apply Kd.R_alloc | apply Kd.R_drewN | apply Kd.R_drew)); exact (Kd.R_mono (Kd.R_far (p := ⟨gb279, 3, none⟩) (Kd.R_far (p := ⟨gb279, 2, none⟩) (Kd.R_far (p := ⟨gb279, 1, none⟩) (Kd.R_far (p := ⟨gb279, 0, none⟩) (Kd.R_mono HO_9.out (fun k_ hk => (⟨hk, hk.2⟩ : _ ∧ k_ ≠ gb279))) (fun _ hk => hk.2) (.int .i64 ((rd_T26 l0 x41_1).f0))) (fun _ hk => hk.2) (.int .i64 ((rd_T26 l0 x41_1).f1))) (fun _ hk => hk.2) (.int .i64 ((rd_T26 l0 x41_1).f2))) (fun _ hk => hk.2) (.int .i64 ((rd_T26 l0 x41_1).f3))) (fun _ h_ => h_.1))) hb); have n2_ := Aside0.mk (blk_below (g := gb254) (o := .cells #[.int .i64 a1_0, .int .i64 a1_1, .int .i64 a1_2, .int .i64 a1_3] 26 (0, 0)) (by (with_reducible repeat (first | refine blk_drewN ?_ _ | refine blk_drew ?_ | refine blk_alloc ?_ _)); refine blk_far ?_ NB254_279.out _; (with_reducible repeat (first | refine blk_drewN ?_ _ | refine blk_drew ?_ | refine blk_alloc ?_ _)); refine blk_far ?_ NB254_279.out _; (with_reducible repeat (first | refine blk_drewN ?_ _ | refine blk_drew ?_ | refine blk_alloc ?_ _)); refine blk_far ?_ NB254_279.out _; (with_reducible repeat (first | refine blk_drewN ?_ _ | refine blk_drew ?_ | refine blk_alloc ?_ _)); refine blk_far ?_ NB254_279.out _; (with_reducible repeat (first | refine blk_drewN ?_ _ | refine blk_drew ?_ | refine blk_alloc ?_ _)); exact BK254.out) hb); have n3_ := Aside0.mk (blk_below (g := gb269) (o := .cells #[.int .i64 t259, .int .i64 t260, .int .i64 t261, .int .i64 t262, .int .i64 t263, .int .i64 t264, .int .i64 t265, .int .i64 t266] 35 (0, 0)) (by (with_reducible repeat (first | refine blk_drewN ?_ _ | refine blk_drew ?_ | refine blk_alloc ?_ _)); refine blk_far ?_ NB269_279.out _; (with_reducible repeat (first | refine blk_drewN ?_ _ | refine blk_drew ?_ | refine blk_alloc ?_ _)); refine blk_far ?_ NB269_279.out _; (with_reducible repeat (first | refine blk_drewN ?_ _ | refine blk_drew ?_ | refine blk_alloc ?_ _)); refine blk_far ?_ NB269_279.out _; (with_reducible repeat (first | refine blk_drewN ?_ _ | refine blk_drew ?_ | refine blk_alloc ?_ _)); refine blk_far ?_ NB269_279.out _; (with_reducible repeat (first | refine blk_drewN ?_ _ | refine blk_drew ?_ | refine blk_alloc ?_ _)); exact BK269.out) hb); have n4_ := Aside0.mk (blk_below (g := gb279) (o := .cells #[.int .i64 ((rd_T26 l0 x41_1).f0), .int .i64 ((rd_T26 l0 x41_1).f1), .int .i64 ((rd_T26 l0 x41_1).f2), .int .i64 ((rd_T26 l0 x41_1).f3)] 26 (0, 0)) (by (with_reducible repeat (first | refine blk_drewN ?_ _ | refine blk_drew ?_ | refine blk_alloc ?_ _)); refine blk_put (cs := #[.int .i64 ((rd_T26 l0 x41_1).f0), .int .i64 ((rd_T26 l0 x41_1).f1), .int .i64 ((rd_T26 l0 x41_1).f2), .int .i64 0]) ?_ 3 _ rfl; (with_reducible repeat (first | refine blk_drewN ?_ _ | refine blk_drew ?_ | refine blk_alloc ?_ _)); refine blk_put (cs := #[.int .i64 ((rd_T26 l0 x41_1).f0), .int .i64 ((rd_T26 l0 x41_1).f1), .int .i64 0, .int .i64 0]) ?_ 2 _ rfl; (with_reducible repeat (first | refine blk_drewN ?_ _ | refine blk_drew ?_ | refine blk_alloc ?_ _)); refine blk_put (cs := #[.int .i64 ((rd_T26 l0 x41_1).f0), .int .i64 0, .int .i64 0, .int .i64 0]) ?_ 1 _ rfl; (with_reducible repeat (first | refine blk_drewN ?_ _ | refine blk_drew ?_ | refine blk_alloc ?_ _)); refine blk_put (cs := #[.int .i64 0, .int .i64 0, .int .i64 0, .int .i64 0]) ?_ 0 _ rfl; (with_reducible repeat (first | refine blk_drewN ?_ _ | refine blk_drew ?_ | refine blk_alloc ?_ _)); exact BK279.out) hb); have n5_ := Aside0.mk (below_step (by repeat (first | (with_reducible first | exact HB.out | apply below_alloc | apply pw_below_drewN | apply below_drew1 | refine below_set ?_ GE254.out | refine below_set ?_ GE269.out | refine below_set ?_ GE279.out) | exact HB.out)) hb); clear HO_5; clear HO_9; clear BK254; clear BK269; clear BK279; clear HB; have HO_5 := n0_; have HO_9 := n1_; have BK254 := n2_; have BK269 := n3_; have BK279 := n4_; have HB := n5_; clear n0_ n1_ n2_ n3_ n4_ n5_; (try clear hb); (try clear hb2); (try clear hk); (try clear hi)))
                    go_meet
                    case rel => exact ⟨_, (t280), (by first | rfl | (simp; done) | (simp [*]; done)), H', ⟨by have := HK1.out; first | omega | exact Nat.le_refl _⟩, ⟨by (with_reducible repeat (first | apply Kd.V_alloc | apply Kd.V_drewN | apply Kd.V_drew)); exact Kd.V_mono HO_5.out (fun _ hk => ⟨hk.1.1, ⟨hk.1.2.1, ⟨hk.1.2.2, hk.2⟩⟩⟩)⟩, ⟨by (with_reducible repeat (first | apply Kd.R_alloc | apply Kd.R_drewN | apply Kd.R_drew)); exact HO_9.out⟩, ⟨by (with_reducible repeat (first | refine blk_drewN ?_ _ | refine blk_drew ?_ | refine blk_alloc ?_ _)); exact BK254.out⟩, ⟨by (with_reducible repeat (first | refine blk_drewN ?_ _ | refine blk_drew ?_ | refine blk_alloc ?_ _)); exact BK269.out⟩, ⟨by (with_reducible repeat (first | refine blk_drewN ?_ _ | refine blk_drew ?_ | refine blk_alloc ?_ _)); exact BK279.out⟩, ⟨by repeat (first | (with_reducible first | exact HB.out | apply below_alloc | apply pw_below_drewN | apply below_drew1 | refine below_set ?_ GE254.out | refine below_set ?_ GE269.out | refine below_set ?_ GE279.out) | exact HB.out)⟩⟩
                case rest =>
                  clear HC18
                  try clear c1
                  try clear c2
                  try clear p2
                  try clear q2
                  try clear hx2
                  try clear c3
                  try clear c3b0
                  try clear c3b1
                  try clear c5
                  try clear c8
                  try clear c8b0
                  try clear c8b1
                  try clear c11
                  try clear c13
                  try clear c15
                  try clear c15b0
                  try clear c16
                  try clear c16b0
                  try clear c17
                  try clear c17b0
                  try clear c20
                  try clear c21
                  try clear c23
                  try clear c25
                  try clear c26
                  try clear p27
                  try clear q27
                  try clear hx27
                  try clear c28
                  try clear hcz10_0
                  try clear hcz10_1
                  try clear hcz10_2
                  try clear hcz10_3
                  try clear hcz14_0
                  try clear hcz14_1
                  try clear hcz14_2
                  try clear hcz14_3
                  try clear hcz14_4
                  try clear hcz14_5
                  try clear hcz14_6
                  try clear hcz14_7
                  try clear hcz22_0
                  try clear hcz22_1
                  try clear hcz22_2
                  try clear hcz22_3
                  try clear hcz27_0
                  try clear hcz27_1
                  try clear hcz27_2
                  try clear hcz27_3
                  try clear hcz29_0
                  try clear hcz29_1
                  try clear hcz29_2
                  try clear hcz29_3
                  try clear hfz10_0
                  try clear hfz10_1
                  try clear hfz10_2
                  try clear hfz10_3
                  try clear hfz14_0
                  try clear hfz14_1
                  try clear hfz14_2
                  try clear hfz14_3
                  try clear hfz14_4
                  try clear hfz14_5
                  try clear hfz14_6
                  try clear hfz14_7
                  try clear hfz22_0
                  try clear hfz22_1
                  try clear hfz22_2
                  try clear hfz22_3
                  try clear hfz27_0
                  try clear hfz27_1
                  try clear hfz27_2
                  try clear hfz27_3
                  try clear hfz29_0
                  try clear hfz29_1
                  try clear hfz29_2
                  try clear hfz29_3
                  try clear hx278_0
                  try clear hx278_1
                  try clear hx278_2
                  try clear hx278_3
                  try clear p2
                  try clear p278
                  try clear q278
                  obtain ⟨kq, x51_17, rfl, HA, HJ17, HO_5, HO_9, BK254, BK269, BK279, HB⟩ := hcut
                  cases kq with
                  | zero => exact absurd HA.out (by simp [handshakerlaw21_SwapFirst.j1])
                  | succ kj17 =>
                    have H := HA.out
                    clear HA
                    simp only [handshakerlaw21_SwapFirst.j1] at H
                    by_cases c31 : x51_17 = true
                    · subst c31
                      have H1 : (if (!(t259 == ((rd_T26 l0 x41_1).f0)) || (!(t260 == ((rd_T26 l0 x41_1).f1)) || (!(t261 == ((rd_T26 l0 x41_1).f2)) || (!(t262 == ((rd_T26 l0 x41_1).f3)))))) = true then (none) else (handshakerlaw21_SwapFirst.l0 kj17 t256 t267 x9_1 true l0 (l0.length : Int) (wrap64 (x41_1 + 1)) a1_0 a1_1 a1_2 a1_3 t259 t260 t261 t262 t263 t264 t265 t266)) = some r := by rw [if_pos rfl] at H; exact H
                      clear H
                      have H := H1
                      clear H1
                      by_cases c32 : (!(t259 == ((rd_T26 l0 x41_1).f0)) || (!(t260 == ((rd_T26 l0 x41_1).f1)) || (!(t261 == ((rd_T26 l0 x41_1).f2)) || (!(t262 == ((rd_T26 l0 x41_1).f3)))))) = true
                      · rw [if_pos c32] at H
                        exact absurd H (by simp)
                      · rw [if_neg c32] at H
                        have c32b0 : (!(t259 == ((rd_T26 l0 x41_1).f0)) || (!(t260 == ((rd_T26 l0 x41_1).f1)) || (!(t261 == ((rd_T26 l0 x41_1).f2)) || (!(t262 == ((rd_T26 l0 x41_1).f3)))))) = false := by simpa using c32
                        clear c32
                        have H' := Aside0.mk H
                        clear H
                        have hnb33 := NB269_254.out
                        have hnc33 := NB254_269.out
                        have hnb34 := NB269_279.out
                        have hnc34 := NB279_269.out
                        have hcz35_0 : wc.cell? ⟨gb269, 0, none⟩ = some (.int .i64 t259) := (blk_cell BK269.out 0).trans rfl
                        have hcz35_1 : wc.cell? ⟨gb269, 1, none⟩ = some (.int .i64 t260) := (blk_cell BK269.out 1).trans rfl
                        have hcz35_2 : wc.cell? ⟨gb269, 2, none⟩ = some (.int .i64 t261) := (blk_cell BK269.out 2).trans rfl
                        have hcz35_3 : wc.cell? ⟨gb269, 3, none⟩ = some (.int .i64 t262) := (blk_cell BK269.out 3).trans rfl
                        have hcz35_4 : wc.cell? ⟨gb269, 4, none⟩ = some (.int .i64 t263) := (blk_cell BK269.out 4).trans rfl
                        have hcz35_5 : wc.cell? ⟨gb269, 5, none⟩ = some (.int .i64 t264) := (blk_cell BK269.out 5).trans rfl
                        have hcz35_6 : wc.cell? ⟨gb269, 6, none⟩ = some (.int .i64 t265) := (blk_cell BK269.out 6).trans rfl
                        have hcz35_7 : wc.cell? ⟨gb269, 7, none⟩ = some (.int .i64 t266) := (blk_cell BK269.out 7).trans rfl
                        have hfz35_0 := blk_frozen BK269.out 0
                        have hfz35_1 := blk_frozen BK269.out 1
                        have hfz35_2 := blk_frozen BK269.out 2
                        have hfz35_3 := blk_frozen BK269.out 3
                        have hfz35_4 := blk_frozen BK269.out 4
                        have hfz35_5 := blk_frozen BK269.out 5
                        have hfz35_6 := blk_frozen BK269.out 6
                        have hfz35_7 := blk_frozen BK269.out 7
                        have hnb36 := NB279_254.out
                        have hnc36 := NB254_279.out
                        have hcz37_0 : wc.cell? ⟨gb279, 0, none⟩ = some (.int .i64 ((rd_T26 l0 x41_1).f0)) := (blk_cell BK279.out 0).trans rfl
                        have hcz37_1 : wc.cell? ⟨gb279, 1, none⟩ = some (.int .i64 ((rd_T26 l0 x41_1).f1)) := (blk_cell BK279.out 1).trans rfl
                        have hcz37_2 : wc.cell? ⟨gb279, 2, none⟩ = some (.int .i64 ((rd_T26 l0 x41_1).f2)) := (blk_cell BK279.out 2).trans rfl
                        have hcz37_3 : wc.cell? ⟨gb279, 3, none⟩ = some (.int .i64 ((rd_T26 l0 x41_1).f3)) := (blk_cell BK279.out 3).trans rfl
                        have hfz37_0 := blk_frozen BK279.out 0
                        have hfz37_1 := blk_frozen BK279.out 1
                        have hfz37_2 := blk_frozen BK279.out 2
                        have hfz37_3 := blk_frozen BK279.out 3
                        go_wp2
                        go_roundg kj17
                        case measure => have := HK1.out; have := HJ17.out; omega
                        case rel => exact ⟨(x9_1), (true), (wrap64 (x41_1 + 1)), (by first | rfl | (simp; done) | (simp [*]; done)), (by first | rfl | (simp; done) | (simp [*]; done)), H', ⟨by have := HK1.out; have := HJ17.out; omega⟩, ⟨by (with_reducible repeat (first | apply Kd.V_alloc | apply Kd.V_drewN | apply Kd.V_drew)); exact Kd.V_mono HO_5.out (fun _ hk => ⟨hk.1, ⟨hk.2.1, hk.2.2.1⟩⟩)⟩, ⟨by (with_reducible repeat (first | apply Kd.R_alloc | apply Kd.R_drewN | apply Kd.R_drew)); exact Kd.R_mono HO_9.out (fun _ hk => hk.1)⟩, ⟨by (with_reducible repeat (first | refine blk_drewN ?_ _ | refine blk_drew ?_ | refine blk_alloc ?_ _)); exact BK254.out⟩, ⟨by (with_reducible repeat (first | refine blk_drewN ?_ _ | refine blk_drew ?_ | refine blk_alloc ?_ _)); exact BK269.out⟩, ⟨by repeat (first | (with_reducible first | exact HB.out | apply below_alloc | apply pw_below_drewN | apply below_drew1 | refine below_set ?_ GE254.out | refine below_set ?_ GE269.out | refine below_set ?_ GE279.out) | exact HB.out)⟩⟩
                    · replace c31 := Bool.eq_false_iff.mpr c31
                      subst c31
                      have H1 : (if x9_1.length < 4398046511104 then (handshakerlaw21_SwapFirst.l0 kj17 t256 t267 (x9_1 ++ [(⟨((rd_T26 l0 x41_1).f0), ((rd_T26 l0 x41_1).f1), ((rd_T26 l0 x41_1).f2), ((rd_T26 l0 x41_1).f3)⟩ : S26)]) x10_1 l0 (l0.length : Int) (wrap64 (x41_1 + 1)) a1_0 a1_1 a1_2 a1_3 t259 t260 t261 t262 t263 t264 t265 t266) else (none)) = some r := by rw [if_neg (show ¬ (false = true) by decide)] at H; exact H
                      clear H
                      have H := H1
                      clear H1
                      by_cases c38 : x9_1.length < 4398046511104
                      · rw [if_pos c38] at H
                        have LMc38 := Aside0.mk c38
                        clear c38
                        obtain ⟨y281, hy281⟩ : ∃ y_ : List (S26), y_ = (x9_1 ++ [(⟨((rd_T26 l0 x41_1).f0), ((rd_T26 l0 x41_1).f1), ((rd_T26 l0 x41_1).f2), ((rd_T26 l0 x41_1).f3)⟩ : S26)]) := ⟨_, rfl⟩
                        replace H : (handshakerlaw21_SwapFirst.l0 kj17 t256 t267 y281 x10_1 l0 (l0.length : Int) (wrap64 (x41_1 + 1)) a1_0 a1_1 a1_2 a1_3 t259 t260 t261 t262 t263 t264 t265 t266) = some r := by first | (rw [hy281]; with_reducible exact H) | (have H2_ := (Option.bind_some _ _).symm.trans H; rw [hy281]; with_reducible exact H2_) | (have H2_ := (Option.bind_some _ _).symm.trans H; with_reducible exact H2_) | with_reducible exact H | (rw [hy281]; exact H) | exact H
                        have Ny281 := Aside0.mk hy281
                        clear hy281
                        have H' := Aside0.mk H
                        clear H
                        have hnb39 := NB279_254.out
                        have hnc39 := NB254_279.out
                        have hnb40 := NB279_269.out
                        have hnc40 := NB269_279.out
                        have hcz41_0 : wc.cell? ⟨gb279, 0, none⟩ = some (.int .i64 ((rd_T26 l0 x41_1).f0)) := (blk_cell BK279.out 0).trans rfl
                        have hcz41_1 : wc.cell? ⟨gb279, 1, none⟩ = some (.int .i64 ((rd_T26 l0 x41_1).f1)) := (blk_cell BK279.out 1).trans rfl
                        have hcz41_2 : wc.cell? ⟨gb279, 2, none⟩ = some (.int .i64 ((rd_T26 l0 x41_1).f2)) := (blk_cell BK279.out 2).trans rfl
                        have hcz41_3 : wc.cell? ⟨gb279, 3, none⟩ = some (.int .i64 ((rd_T26 l0 x41_1).f3)) := (blk_cell BK279.out 3).trans rfl
                        have hfz41_0 := blk_frozen BK279.out 0
                        have hfz41_1 := blk_frozen BK279.out 1
                        have hfz41_2 := blk_frozen BK279.out 2
                        have hfz41_3 := blk_frozen BK279.out 3
                        go_wp2_with (first | ((with_reducible refine gate_builtin (b := .append) (xs := #[.tmp 56, .tmp 58]) rfl ?_); at_builtin; refine Kd.R_append k26 (w0 := w) w.heap.size rfl (.tmp 56) (.tmp 58) 24 26 (.agg #[(.int .i64 0), (.int .i64 0), (.int .i64 0), (.int .i64 0)]) 32 rfl Try.underlying24 info26 rfl (by decide) (by omega) u9 x9_1 (⟨((rd_T26 l0 x41_1).f0), ((rd_T26 l0 x41_1).f1), ((rd_T26 l0 x41_1).f2), ((rd_T26 l0 x41_1).f3)⟩ : S26) [.int .i64 ((rd_T26 l0 x41_1).f0), .int .i64 ((rd_T26 l0 x41_1).f1), .int .i64 ((rd_T26 l0 x41_1).f2), .int .i64 ((rd_T26 l0 x41_1).f3)] (fun k_ => k_ ≠ gb254 ∧ k_ ≠ gb279) (fun _ => False) rfl rfl ?aP (fun _ hk => hk.elim) ?aF ?aO ?aB ?aS ?aL ?_; (case aP => exact k26_mkM _ _ _ (⟨((rd_T26 l0 x41_1).f0), ((rd_T26 l0 x41_1).f1), ((rd_T26 l0 x41_1).f2), ((rd_T26 l0 x41_1).f3)⟩ : S26)); (case aB => exact (by repeat (first | (with_reducible first | exact HB.out | apply below_alloc | apply pw_below_drewN | apply below_drew1 | refine below_set ?_ GE254.out | refine below_set ?_ GE269.out | refine below_set ?_ GE279.out) | exact HB.out))); (case aF => exact (fun k_ hk => ⟨Kd.freshB (g := gb254) (o := .cells #[.int .i64 a1_0, .int .i64 a1_1, .int .i64 a1_2, .int .i64 a1_3] 26 (0, 0)) (by (with_reducible repeat (first | refine blk_drewN ?_ _ | refine blk_drew ?_ | refine blk_alloc ?_ _)); exact BK254.out) k_ hk, Kd.freshB (g := gb279) (o := .cells #[.int .i64 ((rd_T26 l0 x41_1).f0), .int .i64 ((rd_T26 l0 x41_1).f1), .int .i64 ((rd_T26 l0 x41_1).f2), .int .i64 ((rd_T26 l0 x41_1).f3)] 26 (0, 0)) (by (with_reducible repeat (first | refine blk_drewN ?_ _ | refine blk_drew ?_ | refine blk_alloc ?_ _)); exact BK279.out) k_ hk⟩)); (case aO => exact (by (with_reducible repeat (first | apply Kd.R_alloc | apply Kd.R_drewN | apply Kd.R_drew)); exact HO_9.out)); (case aS => exact (below_size (by repeat (first | (with_reducible first | exact HB.out | apply below_alloc | apply pw_below_drewN | apply below_drew1 | refine below_set ?_ GE254.out | refine below_set ?_ GE269.out | refine below_set ?_ GE279.out) | exact HB.out)))); (case aL => have := LMc38.out; omega); intro v282 w42 ho hb hg hat; rw [← Ny281.out] at ho; have n0_ := Aside0.mk (Kd.V_afterv (ok := (fun k_ => k_ ≠ gb254 ∧ k_ ≠ gb269 ∧ k_ ≠ gb279)) (by (with_reducible repeat (first | apply Kd.V_alloc | apply Kd.V_drewN | apply Kd.V_drew)); exact Kd.V_mono HO_5.out (fun _ hk => ⟨⟨hk.2.1, ⟨hk.2.2.1, hk.2.2.2⟩⟩, hk.1⟩)) hg hat); have n1_ := Aside0.mk (blk_grown (g := gb254) (o := .cells #[.int .i64 a1_0, .int .i64 a1_1, .int .i64 a1_2, .int .i64 a1_3] 26 (0, 0)) (by (with_reducible repeat (first | refine blk_drewN ?_ _ | refine blk_drew ?_ | refine blk_alloc ?_ _)); exact BK254.out) hg (Kd.R_away HO_9.out (fun _ hk => hk.1))); have n2_ := Aside0.mk (blk_grown (g := gb269) (o := .cells #[.int .i64 t259, .int .i64 t260, .int .i64 t261, .int .i64 t262, .int .i64 t263, .int .i64 t264, .int .i64 t265, .int .i64 t266] 35 (0, 0)) (by (with_reducible repeat (first | refine blk_drewN ?_ _ | refine blk_drew ?_ | refine blk_alloc ?_ _)); exact BK269.out) hg (Kd.R_ne HO_9.out BK269.out (by decide))); have n3_ := Aside0.mk (blk_grown (g := gb279) (o := .cells #[.int .i64 ((rd_T26 l0 x41_1).f0), .int .i64 ((rd_T26 l0 x41_1).f1), .int .i64 ((rd_T26 l0 x41_1).f2), .int .i64 ((rd_T26 l0 x41_1).f3)] 26 (0, 0)) (by (with_reducible repeat (first | refine blk_drewN ?_ _ | refine blk_drew ?_ | refine blk_alloc ?_ _)); exact BK279.out) hg (Kd.R_away HO_9.out (fun _ hk => hk.2))); have n4_ := Aside0.mk (hb); have n5_ := Aside0.mk (ho); clear HO_5; clear BK254; clear BK269; clear BK279; clear HB; clear HO_9; have HO_5 := n0_; have BK254 := n1_; have BK269 := n2_; have BK279 := n3_; have HB := n4_; have HO283 := n5_; clear n0_ n1_ n2_ n3_ n4_ n5_; clear ho hb hg hat))
                        go_roundg kj17
                        case measure => have := HK1.out; have := HJ17.out; omega
                        case rel => exact ⟨(y281), (x10_1), (wrap64 (x41_1 + 1)), (by first | rfl | (simp; done) | (simp [*]; done)), (by first | rfl | (simp; done) | (simp [*]; done)), H', ⟨by have := HK1.out; have := HJ17.out; omega⟩, ⟨by (with_reducible repeat (first | apply Kd.V_alloc | apply Kd.V_drewN | apply Kd.V_drew)); exact Kd.V_mono HO_5.out (fun _ hk => ⟨hk.2, ⟨hk.1.1, hk.1.2.1⟩⟩)⟩, ⟨by (with_reducible repeat (first | apply Kd.R_alloc | apply Kd.R_drewN | apply Kd.R_drew)); exact Kd.R_mono HO283.out (fun _ hk => hk.1)⟩, ⟨by (with_reducible repeat (first | refine blk_drewN ?_ _ | refine blk_drew ?_ | refine blk_alloc ?_ _)); exact BK254.out⟩, ⟨by (with_reducible repeat (first | refine blk_drewN ?_ _ | refine blk_drew ?_ | refine blk_alloc ?_ _)); exact BK269.out⟩, ⟨by repeat (first | (with_reducible first | exact HB.out | apply below_alloc | apply pw_below_drewN | apply below_drew1 | refine below_set ?_ GE254.out | refine below_set ?_ GE269.out | refine below_set ?_ GE279.out) | exact HB.out)⟩⟩
                      · rw [if_neg c38] at H
                        exact absurd H (by simp)
              · rw [if_neg c17] at H
                exact absurd H (by simp)
            · rw [if_neg c16] at H
              exact absurd H (by simp)
          · rw [if_neg c15] at H
            have c15b0 : decide (x41_1 < (l0.length : Int)) = false := decide_eq_false c15
            clear c15
            have HC43 := Aside0.mk H
            clear H
            go_upto_if 62 with (fail)
            go_cut [9] (fun v9 wc => ∃ (kq : Nat) (x9_42 : List (S26)), Aside0 (handshakerlaw21_SwapFirst.j2 kq t256 t267 x9_42 x10_1 = some r) ∧ Aside0 (kq ≤ k1) ∧ Aside0 (Kd.V k26 26 wc w.heap.size (fun k_ => some k_ ≠ (v9 : Value).ownBlock ∧ k_ ≠ gb254 ∧ k_ ≠ gb269) v257 t256) ∧ Aside0 (Kd.R k26 26 wc w.heap.size (fun k_ => k_ ≠ gb254) v9 x9_42) ∧ Aside0 (wc.heap[gb254]? = some (.cells #[.int .i64 a1_0, .int .i64 a1_1, .int .i64 a1_2, .int .i64 a1_3] 26 (0, 0))) ∧ Aside0 (wc.heap[gb269]? = some (.cells #[.int .i64 t259, .int .i64 t260, .int .i64 t261, .int .i64 t262, .int .i64 t263, .int .i64 t264, .int .i64 t265, .int .i64 t266] 35 (0, 0))) ∧ Aside0 (Below w.heap.size w wc))
            case first =>
              have H := HC43.out
              clear HC43
              by_cases c44 : x10_1 = true
              · subst c44
                have H1 : (handshakerlaw21_SwapFirst.j2 k1 t256 t267 x9_1 true) = some r := by rw [if_pos rfl] at H; exact H
                clear H
                have H := H1
                clear H1
                have H' := Aside0.mk H
                clear H
                go_wp2
                go_meet
                case rel => exact ⟨_, (x9_1), H', ⟨by have := HK1.out; first | omega | exact Nat.le_refl _⟩, ⟨by (with_reducible repeat (first | apply Kd.V_alloc | apply Kd.V_drewN | apply Kd.V_drew)); exact HO_5.out⟩, ⟨by (with_reducible repeat (first | apply Kd.R_alloc | apply Kd.R_drewN | apply Kd.R_drew)); exact HO_9.out⟩, ⟨by (with_reducible repeat (first | refine blk_drewN ?_ _ | refine blk_drew ?_ | refine blk_alloc ?_ _)); exact BK254.out⟩, ⟨by (with_reducible repeat (first | refine blk_drewN ?_ _ | refine blk_drew ?_ | refine blk_alloc ?_ _)); exact BK269.out⟩, ⟨by repeat (first | (with_reducible first | exact HB.out | apply below_alloc | apply pw_below_drewN | apply below_drew1 | refine below_set ?_ GE254.out | refine below_set ?_ GE269.out) | exact HB.out)⟩⟩
              · replace c44 := Bool.eq_false_iff.mpr c44
                subst c44
                have H1 : (if x9_1.length < 4398046511104 then (handshakerlaw21_SwapFirst.j2 k1 t256 t267 (x9_1 ++ [(⟨a1_0, a1_1, a1_2, a1_3⟩ : S26)]) false) else (none)) = some r := by rw [if_neg (show ¬ (false = true) by decide)] at H; exact H
                clear H
                have H := H1
                clear H1
                by_cases c45 : x9_1.length < 4398046511104
                · rw [if_pos c45] at H
                  have LMc45 := Aside0.mk c45
                  clear c45
                  obtain ⟨y284, hy284⟩ : ∃ y_ : List (S26), y_ = (x9_1 ++ [(⟨a1_0, a1_1, a1_2, a1_3⟩ : S26)]) := ⟨_, rfl⟩
                  replace H : (handshakerlaw21_SwapFirst.j2 k1 t256 t267 y284 false) = some r := by first | (rw [hy284]; with_reducible exact H) | (have H2_ := (Option.bind_some _ _).symm.trans H; rw [hy284]; with_reducible exact H2_) | (have H2_ := (Option.bind_some _ _).symm.trans H; with_reducible exact H2_) | with_reducible exact H | (rw [hy284]; exact H) | exact H
                  have Ny284 := Aside0.mk hy284
                  clear hy284
                  have H' := Aside0.mk H
                  clear H
                  have hnb46 := NB254_269.out
                  have hnc46 := NB269_254.out
                  have hcz47_0 : wr.cell? ⟨gb254, 0, none⟩ = some (.int .i64 a1_0) := (blk_cell BK254.out 0).trans rfl
                  have hcz47_1 : wr.cell? ⟨gb254, 1, none⟩ = some (.int .i64 a1_1) := (blk_cell BK254.out 1).trans rfl
                  have hcz47_2 : wr.cell? ⟨gb254, 2, none⟩ = some (.int .i64 a1_2) := (blk_cell BK254.out 2).trans rfl
                  have hcz47_3 : wr.cell? ⟨gb254, 3, none⟩ = some (.int .i64 a1_3) := (blk_cell BK254.out 3).trans rfl
                  have hfz47_0 := blk_frozen BK254.out 0
                  have hfz47_1 := blk_frozen BK254.out 1
                  have hfz47_2 := blk_frozen BK254.out 2
                  have hfz47_3 := blk_frozen BK254.out 3
                  go_wp2_with (first | ((with_reducible refine gate_builtin (b := .append) (xs := #[.tmp 63, .tmp 65]) rfl ?_); at_builtin; refine Kd.R_append k26 (w0 := w) w.heap.size rfl (.tmp 63) (.tmp 65) 24 26 (.agg #[(.int .i64 0), (.int .i64 0), (.int .i64 0), (.int .i64 0)]) 32 rfl Try.underlying24 info26 rfl (by decide) (by omega) u9 x9_1 (⟨a1_0, a1_1, a1_2, a1_3⟩ : S26) [.int .i64 a1_0, .int .i64 a1_1, .int .i64 a1_2, .int .i64 a1_3] (fun k_ => k_ ≠ gb254) (fun _ => False) rfl rfl ?aP (fun _ hk => hk.elim) ?aF ?aO ?aB ?aS ?aL ?_; (case aP => exact k26_mkM _ _ _ (⟨a1_0, a1_1, a1_2, a1_3⟩ : S26)); (case aB => exact (by repeat (first | (with_reducible first | exact HB.out | apply below_alloc | apply pw_below_drewN | apply below_drew1 | refine below_set ?_ GE254.out | refine below_set ?_ GE269.out) | exact HB.out))); (case aF => exact (fun k_ hk => Kd.freshB (g := gb254) (o := .cells #[.int .i64 a1_0, .int .i64 a1_1, .int .i64 a1_2, .int .i64 a1_3] 26 (0, 0)) (by (with_reducible repeat (first | refine blk_drewN ?_ _ | refine blk_drew ?_ | refine blk_alloc ?_ _)); exact BK254.out) k_ hk)); (case aO => exact (by (with_reducible repeat (first | apply Kd.R_alloc | apply Kd.R_drewN | apply Kd.R_drew)); exact HO_9.out)); (case aS => exact (below_size (by repeat (first | (with_reducible first | exact HB.out | apply below_alloc | apply pw_below_drewN | apply below_drew1 | refine below_set ?_ GE254.out | refine below_set ?_ GE269.out) | exact HB.out)))); (case aL => have := LMc45.out; omega); intro v285 w48 ho hb hg hat; rw [← Ny284.out] at ho; have n0_ := Aside0.mk (Kd.V_afterv (ok := (fun k_ => k_ ≠ gb254 ∧ k_ ≠ gb269)) (by (with_reducible repeat (first | apply Kd.V_alloc | apply Kd.V_drewN | apply Kd.V_drew)); exact Kd.V_mono HO_5.out (fun _ hk => ⟨⟨hk.2.1, hk.2.2⟩, hk.1⟩)) hg hat); have n1_ := Aside0.mk (blk_grown (g := gb254) (o := .cells #[.int .i64 a1_0, .int .i64 a1_1, .int .i64 a1_2, .int .i64 a1_3] 26 (0, 0)) (by (with_reducible repeat (first | refine blk_drewN ?_ _ | refine blk_drew ?_ | refine blk_alloc ?_ _)); exact BK254.out) hg (Kd.R_away HO_9.out (fun _ hk => hk))); have n2_ := Aside0.mk (blk_grown (g := gb269) (o := .cells #[.int .i64 t259, .int .i64 t260, .int .i64 t261, .int .i64 t262, .int .i64 t263, .int .i64 t264, .int .i64 t265, .int .i64 t266] 35 (0, 0)) (by (with_reducible repeat (first | refine blk_drewN ?_ _ | refine blk_drew ?_ | refine blk_alloc ?_ _)); exact BK269.out) hg (Kd.R_ne HO_9.out BK269.out (by decide))); have n3_ := Aside0.mk (hb); have n4_ := Aside0.mk (ho); clear HO_5; clear BK254; clear BK269; clear HB; clear HO_9; have HO_5 := n0_; have BK254 := n1_; have BK269 := n2_; have HB := n3_; have HO286 := n4_; clear n0_ n1_ n2_ n3_ n4_; clear ho hb hg hat))
                  go_meet
                  case rel => exact ⟨_, (y284), H', ⟨by have := HK1.out; first | omega | exact Nat.le_refl _⟩, ⟨by (with_reducible repeat (first | apply Kd.V_alloc | apply Kd.V_drewN | apply Kd.V_drew)); exact Kd.V_mono HO_5.out (fun _ hk => ⟨hk.2, ⟨hk.1.1, hk.1.2⟩⟩)⟩, ⟨by (with_reducible repeat (first | apply Kd.R_alloc | apply Kd.R_drewN | apply Kd.R_drew)); exact HO286.out⟩, ⟨by (with_reducible repeat (first | refine blk_drewN ?_ _ | refine blk_drew ?_ | refine blk_alloc ?_ _)); exact BK254.out⟩, ⟨by (with_reducible repeat (first | refine blk_drewN ?_ _ | refine blk_drew ?_ | refine blk_alloc ?_ _)); exact BK269.out⟩, ⟨by repeat (first | (with_reducible first | exact HB.out | apply below_alloc | apply pw_below_drewN | apply below_drew1 | refine below_set ?_ GE254.out | refine below_set ?_ GE269.out) | exact HB.out)⟩⟩
                · rw [if_neg c45] at H
                  exact absurd H (by simp)
            case rest =>
              clear HC43
              try clear c1
              try clear c2
              try clear p2
              try clear q2
              try clear hx2
              try clear c3
              try clear c3b0
              try clear c3b1
              try clear c4
              try clear c5
              try clear p6
              try clear c8
              try clear c8b0
              try clear c8b1
              try clear c11
              try clear c13
              try clear c15
              try clear c15b0
              try clear c16
              try clear c16b0
              try clear c17
              try clear c17b0
              try clear c20
              try clear c21
              try clear c23
              try clear c25
              try clear c26
              try clear p27
              try clear q27
              try clear hx27
              try clear c28
              try clear c31
              try clear c32
              try clear c32b0
              try clear c33
              try clear c34
              try clear c36
              try clear c38
              try clear c39
              try clear c40
              try clear c44
              try clear c45
              try clear c46
              try clear hcz10_0
              try clear hcz10_1
              try clear hcz10_2
              try clear hcz10_3
              try clear hcz14_0
              try clear hcz14_1
              try clear hcz14_2
              try clear hcz14_3
              try clear hcz14_4
              try clear hcz14_5
              try clear hcz14_6
              try clear hcz14_7
              try clear hcz22_0
              try clear hcz22_1
              try clear hcz22_2
              try clear hcz22_3
              try clear hcz27_0
              try clear hcz27_1
              try clear hcz27_2
              try clear hcz27_3
              try clear hcz29_0
              try clear hcz29_1
              try clear hcz29_2
              try clear hcz29_3
              try clear hcz35_0
              try clear hcz35_1
              try clear hcz35_2
              try clear hcz35_3
              try clear hcz35_4
              try clear hcz35_5
              try clear hcz35_6
              try clear hcz35_7
              try clear hcz37_0
              try clear hcz37_1
              try clear hcz37_2
              try clear hcz37_3
              try clear hcz41_0
              try clear hcz41_1
              try clear hcz41_2
              try clear hcz41_3
              try clear hcz47_0
              try clear hcz47_1
              try clear hcz47_2
              try clear hcz47_3
              try clear hfz10_0
              try clear hfz10_1
              try clear hfz10_2
              try clear hfz10_3
              try clear hfz14_0
              try clear hfz14_1
              try clear hfz14_2
              try clear hfz14_3
              try clear hfz14_4
              try clear hfz14_5
              try clear hfz14_6
              try clear hfz14_7
              try clear hfz22_0
              try clear hfz22_1
              try clear hfz22_2
              try clear hfz22_3
              try clear hfz27_0
              try clear hfz27_1
              try clear hfz27_2
              try clear hfz27_3
              try clear hfz29_0
              try clear hfz29_1
              try clear hfz29_2
              try clear hfz29_3
              try clear hfz35_0
              try clear hfz35_1
              try clear hfz35_2
              try clear hfz35_3
              try clear hfz35_4
              try clear hfz35_5
              try clear hfz35_6
              try clear hfz35_7
              try clear hfz37_0
              try clear hfz37_1
              try clear hfz37_2
              try clear hfz37_3
              try clear hfz41_0
              try clear hfz41_1
              try clear hfz41_2
              try clear hfz41_3
              try clear hfz47_0
              try clear hfz47_1
              try clear hfz47_2
              try clear hfz47_3
              try clear hx278_0
              try clear hx278_1
              try clear hx278_2
              try clear hx278_3
              try clear p2
              try clear p27
              try clear p278
              try clear q2
              try clear q27
              try clear q278
              obtain ⟨kq, x9_42, HA, HJ42, HO_5, HO_9, BK254, BK269, HB⟩ := hcut
              cases kq with
              | zero => exact absurd HA.out (by simp [handshakerlaw21_SwapFirst.j2])
              | succ kj42 =>
                have H := HA.out
                clear HA
                simp only [handshakerlaw21_SwapFirst.j2] at H
                by_cases c49 : (t267 == x10_1) = true
                · rw [if_pos c49] at H
                  have c49b0 : (t267 == x10_1) = true := c49
                  (try (have c49b1 : decide (t267 = x10_1) = true := by simpa using c49))
                  (try (have c49b2 : (t267 == x10_1) = true := by simpa using c49))
                  clear c49
                  replace H := Option.bind_eq_some_iff.mp H
                  obtain ⟨t287, A500, H⟩ := H
                  replace H : ((handshakerlaw21_Refs.f kj42 x9_42).bind fun t290 => ((handshakerref21_Same.f kj42 t287 t290).bind fun t293 => (if t293 = true then ((handshakerlaw21_awake.f kj42).bind fun t294 => (some t294)) else (none)))) = some r := H
                  have A50 := Aside0.mk A500
                  clear A500
                  replace H := Option.bind_eq_some_iff.mp H
                  obtain ⟨t290, A510, H⟩ := H
                  replace H : ((handshakerref21_Same.f kj42 t287 t290).bind fun t293 => (if t293 = true then ((handshakerlaw21_awake.f kj42).bind fun t294 => (some t294)) else (none))) = some r := H
                  have A51 := Aside0.mk A510
                  clear A510
                  replace H := Option.bind_eq_some_iff.mp H
                  obtain ⟨t293, A520, H⟩ := H
                  replace H : (if t293 = true then ((handshakerlaw21_awake.f kj42).bind fun t294 => (some t294)) else (none)) = some r := H
                  have A52 := Aside0.mk A520
                  clear A520
                  by_cases c53 : t293 = true
                  · subst c53
                    have H1 : ((handshakerlaw21_awake.f kj42).bind fun t294 => (some t294)) = some r := by rw [if_pos rfl] at H; exact H
                    clear H
                    have H := H1
                    clear H1
                    replace H := Option.bind_eq_some_iff.mp H
                    obtain ⟨t294, A540, H⟩ := H
                    replace H : (some t294) = some r := H
                    have A54 := Aside0.mk A540
                    clear A540
                    obtain rfl := Option.some.inj H
                    obtain ⟨Ao55, co55, eo55⟩ := Kd.V_slice HO_5.out
                    subst eo55
                    go_wp2_with (first | (go_at_call 16; (with_reducible refine (handshakerlaw21_Refs.calls kj42 _ _ t256 t287 _ ?side1 ?side2 A50.out).mono ?_); (case side1 => repeat (first | exact (Kd.V_reads' HO_5.out).2.2 | (with_reducible refine Kd.C_alloc ?_ _) | (with_reducible refine Kd.C_drewN ?_ _) | (with_reducible refine Kd.C_drew ?_))); (case side2 => exact (Kd.V_reads' HO_5.out).2.1); rintro e w56 ⟨v288, rfl, ho0, hb⟩; have n0_ := Aside0.mk (Kd.V_elder' (by (with_reducible repeat (first | apply Kd.V_alloc | apply Kd.V_drewN | apply Kd.V_drew)); exact HO_5.out) (Kd.R_base ho0) hb); have n1_ := Aside0.mk (Kd.R_below (by (with_reducible repeat (first | apply Kd.R_alloc | apply Kd.R_drewN | apply Kd.R_drew)); exact HO_9.out) hb); have n2_ := Aside0.mk (Kd.R_lower ho0 (below_size (by repeat (first | (with_reducible first | exact HB.out | apply below_alloc | apply pw_below_drewN | apply below_drew1 | refine below_set ?_ GE254.out | refine below_set ?_ GE269.out) | exact HB.out)))); have n3_ := Aside0.mk (blk_below (g := gb254) (o := .cells #[.int .i64 a1_0, .int .i64 a1_1, .int .i64 a1_2, .int .i64 a1_3] 26 (0, 0)) (by (with_reducible repeat (first | refine blk_drewN ?_ _ | refine blk_drew ?_ | refine blk_alloc ?_ _)); exact BK254.out) hb); have n4_ := Aside0.mk (blk_below (g := gb269) (o := .cells #[.int .i64 t259, .int .i64 t260, .int .i64 t261, .int .i64 t262, .int .i64 t263, .int .i64 t264, .int .i64 t265, .int .i64 t266] 35 (0, 0)) (by (with_reducible repeat (first | refine blk_drewN ?_ _ | refine blk_drew ?_ | refine blk_alloc ?_ _)); exact BK269.out) hb); have n5_ := Aside0.mk (below_step (by repeat (first | (with_reducible first | exact HB.out | apply below_alloc | apply pw_below_drewN | apply below_drew1 | refine below_set ?_ GE254.out | refine below_set ?_ GE269.out) | exact HB.out)) hb); clear HO_5; clear HO_9; clear BK254; clear BK269; clear HB; have HO_5 := n0_; have HO_9 := n1_; have HO289 := n2_; have BK254 := n3_; have BK269 := n4_; have HB := n5_; clear n0_ n1_ n2_ n3_ n4_ n5_; (try clear hb); (try clear hb2); (try clear hk); (try clear hi); (try clear ho0); obtain ⟨Ao57, co57, eo57⟩ := Kd.R_slice HO_9.out; subst eo57) | (go_at_call 16; (with_reducible refine (handshakerlaw21_Refs.calls kj42 _ _ x9_42 t290 _ ?side1 ?side2 A51.out).mono ?_); (case side1 => repeat (first | exact (Kd.R_reads' HO_9.out).2.2 | (with_reducible refine Kd.C_alloc ?_ _) | (with_reducible refine Kd.C_drewN ?_ _) | (with_reducible refine Kd.C_drew ?_))); (case side2 => exact (Kd.R_reads' HO_9.out).2.1); rintro e w58 ⟨v291, rfl, ho0, hb⟩; have n0_ := Aside0.mk (Kd.V_elder' (by (with_reducible repeat (first | apply Kd.V_alloc | apply Kd.V_drewN | apply Kd.V_drew)); exact HO_5.out) (Kd.R_base ho0) hb); have n1_ := Aside0.mk (Kd.R_below (by (with_reducible repeat (first | apply Kd.R_alloc | apply Kd.R_drewN | apply Kd.R_drew)); exact HO_9.out) hb); have n2_ := Aside0.mk (Kd.R_elder' (by (with_reducible repeat (first | apply Kd.R_alloc | apply Kd.R_drewN | apply Kd.R_drew)); exact HO289.out) (Kd.R_base ho0) hb); have n3_ := Aside0.mk (Kd.R_lower (Kd.R_new' ho0 (Kd.R_lt (by (with_reducible repeat (first | apply Kd.R_alloc | apply Kd.R_drewN | apply Kd.R_drew)); exact HO289.out))) (below_size (by repeat (first | (with_reducible first | exact HB.out | apply below_alloc | apply pw_below_drewN | apply below_drew1 | refine below_set ?_ GE254.out | refine below_set ?_ GE269.out) | exact HB.out)))); have n4_ := Aside0.mk (blk_below (g := gb254) (o := .cells #[.int .i64 a1_0, .int .i64 a1_1, .int .i64 a1_2, .int .i64 a1_3] 26 (0, 0)) (by (with_reducible repeat (first | refine blk_drewN ?_ _ | refine blk_drew ?_ | refine blk_alloc ?_ _)); exact BK254.out) hb); have n5_ := Aside0.mk (blk_below (g := gb269) (o := .cells #[.int .i64 t259, .int .i64 t260, .int .i64 t261, .int .i64 t262, .int .i64 t263, .int .i64 t264, .int .i64 t265, .int .i64 t266] 35 (0, 0)) (by (with_reducible repeat (first | refine blk_drewN ?_ _ | refine blk_drew ?_ | refine blk_alloc ?_ _)); exact BK269.out) hb); have n6_ := Aside0.mk (below_step (by repeat (first | (with_reducible first | exact HB.out | apply below_alloc | apply pw_below_drewN | apply below_drew1 | refine below_set ?_ GE254.out | refine below_set ?_ GE269.out) | exact HB.out)) hb); clear HO_5; clear HO_9; clear HO289; clear BK254; clear BK269; clear HB; have HO_5 := n0_; have HO_9 := n1_; have HO289 := n2_; have HO292 := n3_; have BK254 := n4_; have BK269 := n5_; have HB := n6_; clear n0_ n1_ n2_ n3_ n4_ n5_ n6_; (try clear hb); (try clear hb2); (try clear hk); (try clear hi); (try clear ho0); obtain ⟨Ao59, co59, eo59⟩ := Kd.R_slice HO289.out; subst eo59; obtain ⟨Ao60, co60, eo60⟩ := Kd.R_slice HO292.out; subst eo60) | (go_at_call 15; (with_reducible refine (handshakerref21_Same.calls kj42 _ _ t287 _ _ t290 true _ ?side1 ?side2 ?side3 ?side4 A52.out).mono ?_); (case side1 => repeat (first | exact (Kd.R_reads' HO289.out).2.2 | (with_reducible refine Kd.C_alloc ?_ _) | (with_reducible refine Kd.C_drewN ?_ _) | (with_reducible refine Kd.C_drew ?_))); (case side2 => exact (Kd.R_reads' HO289.out).2.1); (case side3 => repeat (first | exact (Kd.R_reads' HO292.out).2.2 | (with_reducible refine Kd.C_alloc ?_ _) | (with_reducible refine Kd.C_drewN ?_ _) | (with_reducible refine Kd.C_drew ?_))); (case side4 => exact (Kd.R_reads' HO292.out).2.1); rintro e w' ⟨rfl, ⟨nd, rfl⟩⟩) | (go_at_call 8; (with_reducible refine (handshakerlaw21_awake.calls kj42  t294 _ A54.out).mono ?_); rintro e w61 ⟨rfl, hb⟩; have n0_ := Aside0.mk (Kd.V_below (by (with_reducible repeat (first | apply Kd.V_alloc | apply Kd.V_drewN | apply Kd.V_drew)); exact HO_5.out) hb); have n1_ := Aside0.mk (Kd.R_below (by (with_reducible repeat (first | apply Kd.R_alloc | apply Kd.R_drewN | apply Kd.R_drew)); exact HO_9.out) hb); have n2_ := Aside0.mk (Kd.R_below (by (with_reducible repeat (first | apply Kd.R_alloc | apply Kd.R_drewN | apply Kd.R_drew)); exact HO289.out) hb); have n3_ := Aside0.mk (Kd.R_below (by (with_reducible repeat (first | apply Kd.R_alloc | apply Kd.R_drewN | apply Kd.R_drew)); exact HO292.out) hb); have n4_ := Aside0.mk (blk_below (g := gb254) (o := .cells #[.int .i64 a1_0, .int .i64 a1_1, .int .i64 a1_2, .int .i64 a1_3] 26 (0, 0)) (by (with_reducible repeat (first | refine blk_drewN ?_ _ | refine blk_drew ?_ | refine blk_alloc ?_ _)); exact BK254.out) hb); have n5_ := Aside0.mk (blk_below (g := gb269) (o := .cells #[.int .i64 t259, .int .i64 t260, .int .i64 t261, .int .i64 t262, .int .i64 t263, .int .i64 t264, .int .i64 t265, .int .i64 t266] 35 (0, 0)) (by (with_reducible repeat (first | refine blk_drewN ?_ _ | refine blk_drew ?_ | refine blk_alloc ?_ _)); exact BK269.out) hb); have n6_ := Aside0.mk (below_step (by repeat (first | (with_reducible first | exact HB.out | apply below_alloc | apply pw_below_drewN | apply below_drew1 | refine below_set ?_ GE254.out | refine below_set ?_ GE269.out) | exact HB.out)) hb); clear HO_5; clear HO_9; clear HO289; clear HO292; clear BK254; clear BK269; clear HB; have HO_5 := n0_; have HO_9 := n1_; have HO289 := n2_; have HO292 := n3_; have BK254 := n4_; have BK269 := n5_; have HB := n6_; clear n0_ n1_ n2_ n3_ n4_ n5_ n6_; (try clear hb); (try clear hb2); (try clear hk); (try clear hi)))
                    go_ret
                    exact ⟨by first | rfl | (simp [errW_none, errW_some] <;> rfl) | (simp [*, errW_none, errW_some] <;> rfl), by repeat (first | (with_reducible first | exact HB.out | apply below_alloc | apply pw_below_drewN | apply below_drew1 | refine below_set ?_ GE254.out | refine below_set ?_ GE269.out) | exact HB.out)⟩
                  · replace c53 := Bool.eq_false_iff.mpr c53
                    subst c53
                    have H1 : (none) = some r := by rw [if_neg (show ¬ (false = true) by decide)] at H; exact H
                    clear H
                    have H := H1
                    clear H1
                    exact absurd H (by simp)
                · rw [if_neg c49] at H
                  exact absurd H (by simp)
    · rw [if_neg c8] at H
      have c8b0 : (t268 == 0) = false := beq_eq_false_iff_ne.mpr c8
      have c8b1 : (t268 != 0) = true := bne_iff_ne.mpr c8
      by_cases c62 : t267 = true
      · subst c62
        have H1 : (none) = some r := by rw [if_pos rfl] at H; exact H
        clear H
        have H := H1
        clear H1
        exact absurd H (by simp)
      · replace c62 := Bool.eq_false_iff.mpr c62
        subst c62
        have H1 : ((handshakerlaw21_Refs.f k t256).bind fun t270 => ((handshakerlaw21_Refs.f k l0).bind fun t273 => ((handshakerref21_Same.f k t270 t273).bind fun t276 => (if t276 = true then ((handshakerlaw21_awake.f k).bind fun t277 => (some t277)) else (none))))) = some r := by rw [if_neg (show ¬ (false = true) by decide)] at H; exact H
        clear H
        have H := H1
        clear H1
        replace H := Option.bind_eq_some_iff.mp H
        obtain ⟨t270, A630, H⟩ := H
        replace H : ((handshakerlaw21_Refs.f k l0).bind fun t273 => ((handshakerref21_Same.f k t270 t273).bind fun t276 => (if t276 = true then ((handshakerlaw21_awake.f k).bind fun t277 => (some t277)) else (none)))) = some r := H
        have A63 := Aside0.mk A630
        clear A630
        replace H := Option.bind_eq_some_iff.mp H
        obtain ⟨t273, A640, H⟩ := H
        replace H : ((handshakerref21_Same.f k t270 t273).bind fun t276 => (if t276 = true then ((handshakerlaw21_awake.f k).bind fun t277 => (some t277)) else (none))) = some r := H
        have A64 := Aside0.mk A640
        clear A640
        replace H := Option.bind_eq_some_iff.mp H
        obtain ⟨t276, A650, H⟩ := H
        replace H : (if t276 = true then ((handshakerlaw21_awake.f k).bind fun t277 => (some t277)) else (none)) = some r := H
        have A65 := Aside0.mk A650
        clear A650
        by_cases c66 : t276 = true
        · subst c66
          have H1 : ((handshakerlaw21_awake.f k).bind fun t277 => (some t277)) = some r := by rw [if_pos rfl] at H; exact H
          clear H
          have H := H1
          clear H1
          replace H := Option.bind_eq_some_iff.mp H
          obtain ⟨t277, A670, H⟩ := H
          replace H : (some t277) = some r := H
          have A67 := Aside0.mk A670
          clear A670
          obtain rfl := Option.some.inj H
          go_enter Try.func5, Try.ntmps5
          go_wp2_with (first | ((with_reducible refine gate_dst (N := 3) rfl ?_); refine box_event ?hg (N := 3) ?hd (cs := #[.int .i64 a1_0, .int .i64 a1_1, .int .i64 a1_2, .int .i64 a1_3]) (t := 26) ?hr ?_; (case hd => rfl); (case hg => rfl); (case hr => first | (go_simp; done) | (go_simp; rfl)); intro gb254 hg w68 hbox hb; have n0_ := Aside0.mk (below_step (by repeat (first | (with_reducible first | exact HB.out | apply below_alloc | apply pw_below_drewN | apply below_drew1) | exact HB.out)) hb); have n1_ := Aside0.mk (hbox); have n2_ := Aside0.mk ((by rw [hg]; exact (below_size (by repeat (first | (with_reducible first | exact HB.out | apply below_alloc | apply pw_below_drewN | apply below_drew1) | exact HB.out))) : w.heap.size ≤ gb254)); have n3_ := Aside0.mk ((by rw [hg]; exact (below_size (by repeat (first | (with_reducible first | exact HB.out | apply below_alloc | apply pw_below_drewN | apply below_drew1) | exact HB.out))) : w.heap.size ≤ gb254)); clear HB; have HB := n0_; have BK254 := n1_; have GW254 := n2_; have GE254 := n3_; clear n0_ n1_ n2_ n3_; clear hb hbox hg; have hcz69_0 : w68.cell? ⟨gb254, 0, none⟩ = some (.int .i64 a1_0) := (blk_cell BK254.out 0).trans rfl; have hcz69_1 : w68.cell? ⟨gb254, 1, none⟩ = some (.int .i64 a1_1) := (blk_cell BK254.out 1).trans rfl; have hcz69_2 : w68.cell? ⟨gb254, 2, none⟩ = some (.int .i64 a1_2) := (blk_cell BK254.out 2).trans rfl; have hcz69_3 : w68.cell? ⟨gb254, 3, none⟩ = some (.int .i64 a1_3) := (blk_cell BK254.out 3).trans rfl; have hfz69_0 := blk_frozen BK254.out 0; have hfz69_1 := blk_frozen BK254.out 1; have hfz69_2 := blk_frozen BK254.out 2; have hfz69_3 := blk_frozen BK254.out 3) | ((with_reducible refine gate_callee (f := 11) rfl ?_); refine goesL_ (some 20) rfl rfl Try.func11 (by kernel_rfl) rfl #[.slice A0 l0.length c0, .agg #[.int .i64 a1_0, .int .i64 a1_1, .int .i64 a1_2, .int .i64 a1_3]] rfl (by (try simp only [List.map_toArray, List.map_cons, List.map_nil]); first | done | rfl | (simp only [List.length_drop, List.length_take]; rfl)) ?_; (with_reducible refine (swap_Put.calls k (fun k_ => k_ < w.heap.size) _ _ l0 a1_0 a1_1 a1_2 a1_3 t256 t259 t260 t261 t262 t263 t264 t265 t266 false t268 _ ?side1 A7.out).mono ?_); (case side1 => exact Kd.V_mk HC0.out (Kd.F_below (Kd.C_F k26_heap HR0.out) (by repeat (first | (with_reducible first | exact HB.out | apply below_alloc | apply pw_below_drewN | apply below_drew1 | refine below_set ?_ GE254.out) | exact HB.out)))); rintro e w70 ⟨v257, rfl, ho0, hb⟩; refine ⟨_, rfl, ?_⟩; have n0_ := Aside0.mk (Kd.V_lower (Kd.V_mono (ok' := fun k_ => k_ ≠ gb254) ho0 (fun k_ hk_ => Or.elim hk_ (fun hs_ => fun e_ => Nat.not_le.2 hs_ (by rw [e_]; exact GW254.out)) (fun hn_ => (Kd.freshB (g := gb254) (o := .cells #[.int .i64 a1_0, .int .i64 a1_1, .int .i64 a1_2, .int .i64 a1_3] 26 (0, 0)) (by (with_reducible repeat (first | refine blk_drewN ?_ _ | refine blk_drew ?_ | refine blk_alloc ?_ _)); exact BK254.out) k_ hn_)))) (below_size (by repeat (first | (with_reducible first | exact HB.out | apply below_alloc | apply pw_below_drewN | apply below_drew1 | refine below_set ?_ GE254.out) | exact HB.out)))); have n1_ := Aside0.mk (blk_below (g := gb254) (o := .cells #[.int .i64 a1_0, .int .i64 a1_1, .int .i64 a1_2, .int .i64 a1_3] 26 (0, 0)) (by (with_reducible repeat (first | refine blk_drewN ?_ _ | refine blk_drew ?_ | refine blk_alloc ?_ _)); exact BK254.out) hb); have n2_ := Aside0.mk (below_step (by repeat (first | (with_reducible first | exact HB.out | apply below_alloc | apply pw_below_drewN | apply below_drew1 | refine below_set ?_ GE254.out) | exact HB.out)) hb); clear BK254; clear HB; have HO258 := n0_; have BK254 := n1_; have HB := n2_; clear n0_ n1_ n2_; (try clear hb); (try clear hb2); (try clear hk); (try clear hi); (try clear ho0)) | ((with_reducible refine gate_dst (N := 6) rfl ?_); refine box_event ?hg (N := 6) ?hd (cs := #[.int .i64 0, .int .i64 0, .int .i64 0, .int .i64 0, .int .i64 0, .int .i64 0, .int .i64 0, .int .i64 0]) (t := 35) ?hr ?_; (case hd => rfl); (case hg => rfl); (case hr => first | (go_simp; done) | (go_simp; rfl)); intro gb269 hg w71 hbox hb; have n0_ := Aside0.mk (Kd.V_below (Kd.V_elderB (by (with_reducible repeat (first | apply Kd.V_alloc | apply Kd.V_drewN | apply Kd.V_drew)); exact HO258.out) gb269 (Nat.le_of_eq hg.symm)) hb); have n1_ := Aside0.mk (blk_below (g := gb254) (o := .cells #[.int .i64 a1_0, .int .i64 a1_1, .int .i64 a1_2, .int .i64 a1_3] 26 (0, 0)) (by (with_reducible repeat (first | refine blk_drewN ?_ _ | refine blk_drew ?_ | refine blk_alloc ?_ _)); exact BK254.out) hb); have n2_ := Aside0.mk (below_step (by repeat (first | (with_reducible first | exact HB.out | apply below_alloc | apply pw_below_drewN | apply below_drew1 | refine below_set ?_ GE254.out) | exact HB.out)) hb); have n3_ := Aside0.mk (hbox); have n4_ := Aside0.mk ((by rw [hg]; exact (below_size (by repeat (first | (with_reducible first | exact HB.out | apply below_alloc | apply pw_below_drewN | apply below_drew1 | refine below_set ?_ GE254.out) | exact HB.out))) : w.heap.size ≤ gb269)); have n5_ := Aside0.mk ((by rw [hg]; exact (below_size (by repeat (first | (with_reducible first | exact HB.out | apply below_alloc | apply pw_below_drewN | apply below_drew1 | refine below_set ?_ GE254.out) | exact HB.out))) : w.heap.size ≤ gb269)); have n6_ := Aside0.mk ((by rw [hg]; exact Nat.ne_of_lt (blk_lt (g := gb254) (o := .cells #[.int .i64 a1_0, .int .i64 a1_1, .int .i64 a1_2, .int .i64 a1_3] 26 (0, 0)) (by (with_reducible repeat (first | refine blk_drewN ?_ _ | refine blk_drew ?_ | refine blk_alloc ?_ _)); exact BK254.out)) : gb254 ≠ gb269)); have n7_ := Aside0.mk ((by rw [hg]; exact Nat.ne_of_gt (blk_lt (g := gb254) (o := .cells #[.int .i64 a1_0, .int .i64 a1_1, .int .i64 a1_2, .int .i64 a1_3] 26 (0, 0)) (by (with_reducible repeat (first | refine blk_drewN ?_ _ | refine blk_drew ?_ | refine blk_alloc ?_ _)); exact BK254.out)) : gb269 ≠ gb254)); clear HO258; clear BK254; clear HB; have HO258 := n0_; have BK254 := n1_; have HB := n2_; have BK269 := n3_; have GW269 := n4_; have GE269 := n5_; have NB254_269 := n6_; have NB269_254 := n7_; clear n0_ n1_ n2_ n3_ n4_ n5_ n6_ n7_; clear hb hbox hg; have hnb72 := NB269_254.out; have hnc72 := NB254_269.out; have hcz73_0 : w71.cell? ⟨gb269, 0, none⟩ = some (.int .i64 0) := (blk_cell BK269.out 0).trans rfl; have hcz73_1 : w71.cell? ⟨gb269, 1, none⟩ = some (.int .i64 0) := (blk_cell BK269.out 1).trans rfl; have hcz73_2 : w71.cell? ⟨gb269, 2, none⟩ = some (.int .i64 0) := (blk_cell BK269.out 2).trans rfl; have hcz73_3 : w71.cell? ⟨gb269, 3, none⟩ = some (.int .i64 0) := (blk_cell BK269.out 3).trans rfl; have hcz73_4 : w71.cell? ⟨gb269, 4, none⟩ = some (.int .i64 0) := (blk_cell BK269.out 4).trans rfl; have hcz73_5 : w71.cell? ⟨gb269, 5, none⟩ = some (.int .i64 0) := (blk_cell BK269.out 5).trans rfl; have hcz73_6 : w71.cell? ⟨gb269, 6, none⟩ = some (.int .i64 0) := (blk_cell BK269.out 6).trans rfl; have hcz73_7 : w71.cell? ⟨gb269, 7, none⟩ = some (.int .i64 0) := (blk_cell BK269.out 7).trans rfl; have hfz73_0 := blk_frozen BK269.out 0; have hfz73_1 := blk_frozen BK269.out 1; have hfz73_2 := blk_frozen BK269.out 2; have hfz73_3 := blk_frozen BK269.out 3; have hfz73_4 := blk_frozen BK269.out 4; have hfz73_5 := blk_frozen BK269.out 5; have hfz73_6 := blk_frozen BK269.out 6; have hfz73_7 := blk_frozen BK269.out 7; obtain ⟨Ao74, co74, eo74⟩ := Kd.V_slice HO258.out; subst eo74) | (go_at_call 16; (with_reducible refine (handshakerlaw21_Refs.calls k _ _ t256 t270 _ ?side1 ?side2 A63.out).mono ?_); (case side1 => refine (Kd.V_reads' (e := 26) (base := w.heap.size) (ok := fun k_ => (k_ ≠ gb254 ∧ k_ ≠ gb269)) (n := t256.length) (c := co74) ?_).2.2; exact (by (with_reducible repeat (first | apply Kd.V_alloc | apply Kd.V_drewN | apply Kd.V_drew)); exact (Kd.V_mono (Kd.V_far (p := ⟨gb269, 7, none⟩) (Kd.V_far (p := ⟨gb269, 6, none⟩) (Kd.V_far (p := ⟨gb269, 5, none⟩) (Kd.V_far (p := ⟨gb269, 4, none⟩) (Kd.V_far (p := ⟨gb269, 3, none⟩) (Kd.V_far (p := ⟨gb269, 2, none⟩) (Kd.V_far (p := ⟨gb269, 1, none⟩) (Kd.V_far (p := ⟨gb269, 0, none⟩) (Kd.V_mono HO258.out (fun k_ hk => (⟨hk, hk.2⟩ : _ ∧ k_ ≠ gb269))) (fun _ hk => hk.2) (.int .i64 t259)) (fun _ hk => hk.2) (.int .i64 t260)) (fun _ hk => hk.2) (.int .i64 t261)) (fun _ hk => hk.2) (.int .i64 t262)) (fun _ hk => hk.2) (.int .i64 t263)) (fun _ hk => hk.2) (.int .i64 t264)) (fun _ hk => hk.2) (.int .i64 t265)) (fun _ hk => hk.2) (.int .i64 t266)) (fun _ h_ => h_.1)))); (case side2 => exact (Kd.V_reads' HO258.out).2.1); rintro e w75 ⟨v271, rfl, ho0, hb⟩; have n0_ := Aside0.mk (Kd.V_elder' (by (with_reducible repeat (first | apply Kd.V_alloc | apply Kd.V_drewN | apply Kd.V_drew)); exact (Kd.V_mono (Kd.V_far (p := ⟨gb269, 7, none⟩) (Kd.V_far (p := ⟨gb269, 6, none⟩) (Kd.V_far (p := ⟨gb269, 5, none⟩) (Kd.V_far (p := ⟨gb269, 4, none⟩) (Kd.V_far (p := ⟨gb269, 3, none⟩) (Kd.V_far (p := ⟨gb269, 2, none⟩) (Kd.V_far (p := ⟨gb269, 1, none⟩) (Kd.V_far (p := ⟨gb269, 0, none⟩) (Kd.V_mono HO258.out (fun k_ hk => (⟨hk, hk.2⟩ : _ ∧ k_ ≠ gb269))) (fun _ hk => hk.2) (.int .i64 t259)) (fun _ hk => hk.2) (.int .i64 t260)) (fun _ hk => hk.2) (.int .i64 t261)) (fun _ hk => hk.2) (.int .i64 t262)) (fun _ hk => hk.2) (.int .i64 t263)) (fun _ hk => hk.2) (.int .i64 t264)) (fun _ hk => hk.2) (.int .i64 t265)) (fun _ hk => hk.2) (.int .i64 t266)) (fun _ h_ => h_.1))) (Kd.R_base ho0) hb); have n1_ := Aside0.mk (Kd.R_lower ho0 (below_size (by repeat (first | (with_reducible first | exact HB.out | apply below_alloc | apply pw_below_drewN | apply below_drew1 | refine below_set ?_ GE254.out | refine below_set ?_ GE269.out) | exact HB.out)))); have n2_ := Aside0.mk (blk_below (g := gb254) (o := .cells #[.int .i64 a1_0, .int .i64 a1_1, .int .i64 a1_2, .int .i64 a1_3] 26 (0, 0)) (by (with_reducible repeat (first | refine blk_drewN ?_ _ | refine blk_drew ?_ | refine blk_alloc ?_ _)); refine blk_far ?_ NB254_269.out _; (with_reducible repeat (first | refine blk_drewN ?_ _ | refine blk_drew ?_ | refine blk_alloc ?_ _)); refine blk_far ?_ NB254_269.out _; (with_reducible repeat (first | refine blk_drewN ?_ _ | refine blk_drew ?_ | refine blk_alloc ?_ _)); refine blk_far ?_ NB254_269.out _; (with_reducible repeat (first | refine blk_drewN ?_ _ | refine blk_drew ?_ | refine blk_alloc ?_ _)); refine blk_far ?_ NB254_269.out _; (with_reducible repeat (first | refine blk_drewN ?_ _ | refine blk_drew ?_ | refine blk_alloc ?_ _)); refine blk_far ?_ NB254_269.out _; (with_reducible repeat (first | refine blk_drewN ?_ _ | refine blk_drew ?_ | refine blk_alloc ?_ _)); refine blk_far ?_ NB254_269.out _; (with_reducible repeat (first | refine blk_drewN ?_ _ | refine blk_drew ?_ | refine blk_alloc ?_ _)); refine blk_far ?_ NB254_269.out _; (with_reducible repeat (first | refine blk_drewN ?_ _ | refine blk_drew ?_ | refine blk_alloc ?_ _)); refine blk_far ?_ NB254_269.out _; (with_reducible repeat (first | refine blk_drewN ?_ _ | refine blk_drew ?_ | refine blk_alloc ?_ _)); exact BK254.out) hb); have n3_ := Aside0.mk (blk_below (g := gb269) (o := .cells #[.int .i64 t259, .int .i64 t260, .int .i64 t261, .int .i64 t262, .int .i64 t263, .int .i64 t264, .int .i64 t265, .int .i64 t266] 35 (0, 0)) (by (with_reducible repeat (first | refine blk_drewN ?_ _ | refine blk_drew ?_ | refine blk_alloc ?_ _)); refine blk_put (cs := #[.int .i64 t259, .int .i64 t260, .int .i64 t261, .int .i64 t262, .int .i64 t263, .int .i64 t264, .int .i64 t265, .int .i64 0]) ?_ 7 _ rfl; (with_reducible repeat (first | refine blk_drewN ?_ _ | refine blk_drew ?_ | refine blk_alloc ?_ _)); refine blk_put (cs := #[.int .i64 t259, .int .i64 t260, .int .i64 t261, .int .i64 t262, .int .i64 t263, .int .i64 t264, .int .i64 0, .int .i64 0]) ?_ 6 _ rfl; (with_reducible repeat (first | refine blk_drewN ?_ _ | refine blk_drew ?_ | refine blk_alloc ?_ _)); refine blk_put (cs := #[.int .i64 t259, .int .i64 t260, .int .i64 t261, .int .i64 t262, .int .i64 t263, .int .i64 0, .int .i64 0, .int .i64 0]) ?_ 5 _ rfl; (with_reducible repeat (first | refine blk_drewN ?_ _ | refine blk_drew ?_ | refine blk_alloc ?_ _)); refine blk_put (cs := #[.int .i64 t259, .int .i64 t260, .int .i64 t261, .int .i64 t262, .int .i64 0, .int .i64 0, .int .i64 0, .int .i64 0]) ?_ 4 _ rfl; (with_reducible repeat (first | refine blk_drewN ?_ _ | refine blk_drew ?_ | refine blk_alloc ?_ _)); refine blk_put (cs := #[.int .i64 t259, .int .i64 t260, .int .i64 t261, .int .i64 0, .int .i64 0, .int .i64 0, .int .i64 0, .int .i64 0]) ?_ 3 _ rfl; (with_reducible repeat (first | refine blk_drewN ?_ _ | refine blk_drew ?_ | refine blk_alloc ?_ _)); refine blk_put (cs := #[.int .i64 t259, .int .i64 t260, .int .i64 0, .int .i64 0, .int .i64 0, .int .i64 0, .int .i64 0, .int .i64 0]) ?_ 2 _ rfl; (with_reducible repeat (first | refine blk_drewN ?_ _ | refine blk_drew ?_ | refine blk_alloc ?_ _)); refine blk_put (cs := #[.int .i64 t259, .int .i64 0, .int .i64 0, .int .i64 0, .int .i64 0, .int .i64 0, .int .i64 0, .int .i64 0]) ?_ 1 _ rfl; (with_reducible repeat (first | refine blk_drewN ?_ _ | refine blk_drew ?_ | refine blk_alloc ?_ _)); refine blk_put (cs := #[.int .i64 0, .int .i64 0, .int .i64 0, .int .i64 0, .int .i64 0, .int .i64 0, .int .i64 0, .int .i64 0]) ?_ 0 _ rfl; (with_reducible repeat (first | refine blk_drewN ?_ _ | refine blk_drew ?_ | refine blk_alloc ?_ _)); exact BK269.out) hb); have n4_ := Aside0.mk (below_step (by repeat (first | (with_reducible first | exact HB.out | apply below_alloc | apply pw_below_drewN | apply below_drew1 | refine below_set ?_ GE254.out | refine below_set ?_ GE269.out) | exact HB.out)) hb); clear HO258; clear BK254; clear BK269; clear HB; have HO258 := n0_; have HO272 := n1_; have BK254 := n2_; have BK269 := n3_; have HB := n4_; clear n0_ n1_ n2_ n3_ n4_; (try clear hb); (try clear hb2); (try clear hk); (try clear hi); (try clear ho0)) | (go_at_call 16; (with_reducible refine (handshakerlaw21_Refs.calls k _ _ l0 t273 _ ?side1 ?side2 A64.out).mono ?_); (case side1 => repeat (first | exact (Kd.C_below HR0.out HB.out) | (with_reducible refine Kd.C_alloc ?_ _) | (with_reducible refine Kd.C_drewN ?_ _) | (with_reducible refine Kd.C_drew ?_))); (case side2 => exact HC0.out); rintro e w76 ⟨v274, rfl, ho0, hb⟩; have n0_ := Aside0.mk (Kd.V_elder' (by (with_reducible repeat (first | apply Kd.V_alloc | apply Kd.V_drewN | apply Kd.V_drew)); exact HO258.out) (Kd.R_base ho0) hb); have n1_ := Aside0.mk (Kd.R_elder' (by (with_reducible repeat (first | apply Kd.R_alloc | apply Kd.R_drewN | apply Kd.R_drew)); exact HO272.out) (Kd.R_base ho0) hb); have n2_ := Aside0.mk (Kd.R_lower (Kd.R_new' ho0 (Kd.R_lt (by (with_reducible repeat (first | apply Kd.R_alloc | apply Kd.R_drewN | apply Kd.R_drew)); exact HO272.out))) (below_size (by repeat (first | (with_reducible first | exact HB.out | apply below_alloc | apply pw_below_drewN | apply below_drew1 | refine below_set ?_ GE254.out | refine below_set ?_ GE269.out) | exact HB.out)))); have n3_ := Aside0.mk (blk_below (g := gb254) (o := .cells #[.int .i64 a1_0, .int .i64 a1_1, .int .i64 a1_2, .int .i64 a1_3] 26 (0, 0)) (by (with_reducible repeat (first | refine blk_drewN ?_ _ | refine blk_drew ?_ | refine blk_alloc ?_ _)); exact BK254.out) hb); have n4_ := Aside0.mk (blk_below (g := gb269) (o := .cells #[.int .i64 t259, .int .i64 t260, .int .i64 t261, .int .i64 t262, .int .i64 t263, .int .i64 t264, .int .i64 t265, .int .i64 t266] 35 (0, 0)) (by (with_reducible repeat (first | refine blk_drewN ?_ _ | refine blk_drew ?_ | refine blk_alloc ?_ _)); exact BK269.out) hb); have n5_ := Aside0.mk (below_step (by repeat (first | (with_reducible first | exact HB.out | apply below_alloc | apply pw_below_drewN | apply below_drew1 | refine below_set ?_ GE254.out | refine below_set ?_ GE269.out) | exact HB.out)) hb); clear HO258; clear HO272; clear BK254; clear BK269; clear HB; have HO258 := n0_; have HO272 := n1_; have HO275 := n2_; have BK254 := n3_; have BK269 := n4_; have HB := n5_; clear n0_ n1_ n2_ n3_ n4_ n5_; (try clear hb); (try clear hb2); (try clear hk); (try clear hi); (try clear ho0); obtain ⟨Ao77, co77, eo77⟩ := Kd.R_slice HO272.out; subst eo77; obtain ⟨Ao78, co78, eo78⟩ := Kd.R_slice HO275.out; subst eo78) | (go_at_call 15; (with_reducible refine (handshakerref21_Same.calls k _ _ t270 _ _ t273 true _ ?side1 ?side2 ?side3 ?side4 A65.out).mono ?_); (case side1 => repeat (first | exact (Kd.R_reads' HO272.out).2.2 | (with_reducible refine Kd.C_alloc ?_ _) | (with_reducible refine Kd.C_drewN ?_ _) | (with_reducible refine Kd.C_drew ?_))); (case side2 => exact (Kd.R_reads' HO272.out).2.1); (case side3 => repeat (first | exact (Kd.R_reads' HO275.out).2.2 | (with_reducible refine Kd.C_alloc ?_ _) | (with_reducible refine Kd.C_drewN ?_ _) | (with_reducible refine Kd.C_drew ?_))); (case side4 => exact (Kd.R_reads' HO275.out).2.1); rintro e w' ⟨rfl, ⟨nd, rfl⟩⟩) | (go_at_call 8; (with_reducible refine (handshakerlaw21_awake.calls k  t277 _ A67.out).mono ?_); rintro e w79 ⟨rfl, hb⟩; have n0_ := Aside0.mk (Kd.V_below (by (with_reducible repeat (first | apply Kd.V_alloc | apply Kd.V_drewN | apply Kd.V_drew)); exact HO258.out) hb); have n1_ := Aside0.mk (Kd.R_below (by (with_reducible repeat (first | apply Kd.R_alloc | apply Kd.R_drewN | apply Kd.R_drew)); exact HO272.out) hb); have n2_ := Aside0.mk (Kd.R_below (by (with_reducible repeat (first | apply Kd.R_alloc | apply Kd.R_drewN | apply Kd.R_drew)); exact HO275.out) hb); have n3_ := Aside0.mk (blk_below (g := gb254) (o := .cells #[.int .i64 a1_0, .int .i64 a1_1, .int .i64 a1_2, .int .i64 a1_3] 26 (0, 0)) (by (with_reducible repeat (first | refine blk_drewN ?_ _ | refine blk_drew ?_ | refine blk_alloc ?_ _)); exact BK254.out) hb); have n4_ := Aside0.mk (blk_below (g := gb269) (o := .cells #[.int .i64 t259, .int .i64 t260, .int .i64 t261, .int .i64 t262, .int .i64 t263, .int .i64 t264, .int .i64 t265, .int .i64 t266] 35 (0, 0)) (by (with_reducible repeat (first | refine blk_drewN ?_ _ | refine blk_drew ?_ | refine blk_alloc ?_ _)); exact BK269.out) hb); have n5_ := Aside0.mk (below_step (by repeat (first | (with_reducible first | exact HB.out | apply below_alloc | apply pw_below_drewN | apply below_drew1 | refine below_set ?_ GE254.out | refine below_set ?_ GE269.out) | exact HB.out)) hb); clear HO258; clear HO272; clear HO275; clear BK254; clear BK269; clear HB; have HO258 := n0_; have HO272 := n1_; have HO275 := n2_; have BK254 := n3_; have BK269 := n4_; have HB := n5_; clear n0_ n1_ n2_ n3_ n4_ n5_; (try clear hb); (try clear hb2); (try clear hk); (try clear hi)))
          go_ret
          exact ⟨by first | rfl | (simp [errW_none, errW_some] <;> rfl) | (simp [*, errW_none, errW_some] <;> rfl), by repeat (first | (with_reducible first | exact HB.out | apply below_alloc | apply pw_below_drewN | apply below_drew1 | refine below_set ?_ GE254.out | refine below_set ?_ GE269.out) | exact HB.out)⟩
        · replace c66 := Bool.eq_false_iff.mpr c66
          subst c66
          have H1 : (none) = some r := by rw [if_neg (show ¬ (false = true) by decide)] at H; exact H
          clear H
          have H := H1
          clear H1
          exact absurd H (by simp)

end Go.Proofs.Ytpmcoehggajmcaa.PSwapFirst
