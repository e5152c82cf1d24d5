/- Lean functions that say what functions of the given program compute, and proofs by walking the code that each call does just that; no condition but those that each statement names. -/
import Derived.Test.YthbcajkphkdnmaaPSemaLocksx0
import Derived.Test.YthbcajkphkdnmaaPSemaLocksx5
import Derived.Test.YthbcajkphkdnmaaPSemaLocksx7
import Derived.Test.YthbcajkphkdnmaaPSemaLocksx8
namespace Go.Proofs.Ythbcajkphkdnmaa.PSemaLocks
open Go.RowKit Go.Proofs.YthbcajkphkdnmaaW.PrintWords Go.Proofs.YthbcajkphkdnmaaW.PrintLast Go.Proofs.YthbcajkphkdnmaaW.PrintMore
attribute [local go_sem] max2_int min2_int max_two min_two max_three min_three max_four min_four   -- for this text's walks alone
set_option linter.unusedVariables false
set_option linter.unusedSimpArgs false

/-! ### handshakerlaw18_SemaLocks: function 7 -/
mutual
def handshakerlaw18_SemaLocks.l0 : Nat → Int → Int → Int → List Int → Int → Int → Int → Int → List (S50) → Option (Bool)
  | 0, _, _, _, _, _, _, _, _, _ => none
  | k + 1, x0, x5, x7, x8, x32, x33, x258000, x258001, x258002 => if x33 < x32 then ((sema_Take.f k x258000 x258001 x258002 (wrap64 (1 + (Int.tmod (wrap64 ((wrap64 (x0)) + x33)) 8))) 1).bind fun bt258 => (if bt258.2.2.2.2 = 0 then (if bt258.2.2.2.1 = true then (if x33 = 0 then (if x8.length < 17592186044416 then (handshakerlaw18_SemaLocks.l0 k x0 x5 x7 (x8 ++ [wrap64 (1 + (Int.tmod (wrap64 ((wrap64 (x0)) + x33)) 8))]) x32 (wrap64 (x33 + 1)) bt258.1 bt258.2.1 bt258.2.2.1) else (none)) else (none)) else (if x33 = 0 then (none) else (if x8.length < 17592186044416 then (handshakerlaw18_SemaLocks.l0 k x0 x5 x7 (x8 ++ [wrap64 (1 + (Int.tmod (wrap64 ((wrap64 (x0)) + x33)) 8))]) x32 (wrap64 (x33 + 1)) bt258.1 bt258.2.1 bt258.2.2.1) else (none)))) else (none))) else (handshakerlaw18_SemaLocks.l1 k x5 x7 x8 1 x258000 x258001 x258002)
def handshakerlaw18_SemaLocks.l1 : Nat → Int → Int → List Int → Int → Int → Int → List (S50) → Option (Bool)
  | 0, _, _, _, _, _, _, _ => none
  | k + 1, x5, x7, x8, x14, x258000, x258001, x258002 => if x14 < x5 then ((sema_Give.f k x258000 x258001 x258002 1).bind fun bt272 => (if bt272.2.2.2.2 = 0 then (if (bt272.2.2.2.1.length : Int) = 1 then (if 0 < (bt272.2.2.2.1.length : Int) then (if 0 ≤ x14 then (if x14 < (x8.length : Int) then (if ((rd_T50 bt272.2.2.2.1 0).f0) = (rd x8 x14) then (if bt272.2.1 = 0 then (handshakerlaw18_SemaLocks.l1 k x5 x7 x8 (wrap64 (x14 + 1)) bt272.1 bt272.2.1 bt272.2.2.1) else (none)) else (none)) else (none)) else (none)) else (none)) else (none)) else (none))) else ((sema_Give.f k x258000 x258001 x258002 1).bind fun bt284 => ((sema_Give.f k bt284.1 bt284.2.1 bt284.2.2.1 1).bind fun bt294 => (if x7 = 0 then (if bt284.2.2.2.2 = 0 then (if (bt284.2.2.2.1.length : Int) = 0 then (if bt284.2.1 = 1 then (if bt294.2.2.2.2 = 4 then ((handshakerlaw18_awake.f k).bind fun t304 => (some t304)) else (none)) else (none)) else (none)) else (none)) else (none))))
end
def handshakerlaw18_SemaLocks.f (k : Nat) (a0 : Int) (a1 : Int) : Option (Bool) := (sema_New.f k 1 1).bind fun bt251 => (handshakerlaw18_SemaLocks.l0 k a0 (wrap64 (1 + (wrap64 (Int.tmod a1 8)))) bt251.2.2.2 ([] : List Int) (wrap64 (1 + (wrap64 (Int.tmod a1 8)))) 0 bt251.1 bt251.2.1 bt251.2.2.1)
theorem handshakerlaw18_SemaLocks.mono_l : ∀ k, (∀ y0 y1 y2 y3 y4 y5 y6 y7 y8, LeO (handshakerlaw18_SemaLocks.l0 k y0 y1 y2 y3 y4 y5 y6 y7 y8) (handshakerlaw18_SemaLocks.l0 (k + 1) y0 y1 y2 y3 y4 y5 y6 y7 y8)) ∧ (∀ y0 y1 y2 y3 y4 y5 y6, LeO (handshakerlaw18_SemaLocks.l1 k y0 y1 y2 y3 y4 y5 y6) (handshakerlaw18_SemaLocks.l1 (k + 1) y0 y1 y2 y3 y4 y5 y6))
  | 0 => ⟨fun _ _ _ _ _ _ _ _ _ r h => by simp [handshakerlaw18_SemaLocks.l0] at h, fun _ _ _ _ _ _ _ r h => by simp [handshakerlaw18_SemaLocks.l1] at h⟩
  | k + 1 => by
    obtain ⟨ih0, ih1⟩ := handshakerlaw18_SemaLocks.mono_l k
    refine ⟨?_, ?_⟩
    · intro y0 y1 y2 y3 y4 y5 y6 y7 y8
      unfold handshakerlaw18_SemaLocks.l0
      repeat' first
      | (with_reducible exact ih0 _ _ _ _ _ _ _ _ _)
      | (with_reducible exact ih1 _ _ _ _ _ _ _)
      | (with_reducible exact handshakerlaw18_awake.mono _)
      | (with_reducible exact sema_Give.mono _ _ _ _ _)
      | (with_reducible exact sema_New.mono _ _ _)
      | (with_reducible exact sema_Take.mono _ _ _ _ _ _)
      | (with_reducible exact LeO.refl _)
      | (with_reducible exact LeO.none _)
      | (with_reducible refine LeO.ite ?_ ?_)
      | (with_reducible refine LeO.bind ?_ (fun _ => ?_))
      | exact ih0 _ _ _ _ _ _ _ _ _
      | exact ih1 _ _ _ _ _ _ _
      | exact handshakerlaw18_awake.mono _
      | exact sema_Give.mono _ _ _ _ _
      | exact sema_New.mono _ _ _
      | exact sema_Take.mono _ _ _ _ _ _
      | exact LeO.none _
      | refine LeO.ite ?_ ?_
      | refine LeO.bind ?_ (fun _ => ?_)
    · intro y0 y1 y2 y3 y4 y5 y6
      unfold handshakerlaw18_SemaLocks.l1
      repeat' first
      | (with_reducible exact ih0 _ _ _ _ _ _ _ _ _)
      | (with_reducible exact ih1 _ _ _ _ _ _ _)
      | (with_reducible exact handshakerlaw18_awake.mono _)
      | (with_reducible exact sema_Give.mono _ _ _ _ _)
      | (with_reducible exact sema_New.mono _ _ _)
      | (with_reducible exact sema_Take.mono _ _ _ _ _ _)
      | (with_reducible exact LeO.refl _)
      | (with_reducible exact LeO.none _)
      | (with_reducible refine LeO.ite ?_ ?_)
      | (with_reducible refine LeO.bind ?_ (fun _ => ?_))
      | exact ih0 _ _ _ _ _ _ _ _ _
      | exact ih1 _ _ _ _ _ _ _
      | exact handshakerlaw18_awake.mono _
      | exact sema_Give.mono _ _ _ _ _
      | exact sema_New.mono _ _ _
      | exact sema_Take.mono _ _ _ _ _ _
      | exact LeO.none _
      | refine LeO.ite ?_ ?_
      | refine LeO.bind ?_ (fun _ => ?_)
theorem handshakerlaw18_SemaLocks.mono : ∀ a0 a1 k, LeO (handshakerlaw18_SemaLocks.f k a0 a1) (handshakerlaw18_SemaLocks.f (k + 1) a0 a1) := by
  intro a0 a1 k
  obtain ⟨ih0, ih1⟩ := handshakerlaw18_SemaLocks.mono_l k
  unfold handshakerlaw18_SemaLocks.f
  repeat' first
      | (with_reducible exact ih0 _ _ _ _ _ _ _ _ _)
      | (with_reducible exact ih1 _ _ _ _ _ _ _)
      | (with_reducible exact handshakerlaw18_awake.mono _)
      | (with_reducible exact sema_Give.mono _ _ _ _ _)
      | (with_reducible exact sema_New.mono _ _ _)
      | (with_reducible exact sema_Take.mono _ _ _ _ _ _)
      | (with_reducible exact LeO.refl _)
      | (with_reducible exact LeO.none _)
      | (with_reducible refine LeO.ite ?_ ?_)
      | (with_reducible refine LeO.bind ?_ (fun _ => ?_))
      | exact ih0 _ _ _ _ _ _ _ _ _
      | exact ih1 _ _ _ _ _ _ _
      | exact handshakerlaw18_awake.mono _
      | exact sema_Give.mono _ _ _ _ _
      | exact sema_New.mono _ _ _
      | exact sema_Take.mono _ _ _ _ _ _
      | exact LeO.none _
      | refine LeO.ite ?_ ?_
      | refine LeO.bind ?_ (fun _ => ?_)
def handshakerlaw18_SemaLocks.T17 : Bool × List (List Nat × List Nat) := (true, [([], []), ([0], [0]), ([1], [1]), ([2], [2]), ([3, 2], [2, 3]), ([4, 2], [2, 4]), ([2, 5], [2, 5]), ([6, 2], [6]), ([7], [7]), ([8, 7], [7, 8]), ([9, 7], [7, 9]), ([10, 7], [7, 10]), ([7], [7]), ([7], [7]), ([12, 13, 7], [7, 12, 13]), ([14, 7], [7, 14]), ([11, 15, 7], [7, 11, 15]), ([7, 16], [7, 16]), ([17, 7], [17]), ([18], [18]), ([19, 18], [18, 19]), ([20, 18], [18, 20]), ([18, 21], [18, 21])])
def handshakerlaw18_SemaLocks.B17 : List Nat := [0, 1, 3, 7, 15, 31, 63, 127, 255, 511, 1023, 2047, 255, 255, 12543, 28927, 65535, 131071, 262143, 524287, 1048575, 2097151, 4194303]
theorem handshakerlaw18_SemaLocks.tab17 : rtab .any (opsOf Try.f7 17) = handshakerlaw18_SemaLocks.T17 := by kernel_rfl
theorem handshakerlaw18_SemaLocks.bits17 : waitsOk handshakerlaw18_SemaLocks.T17.2 handshakerlaw18_SemaLocks.B17 = true := by kernel_rfl
set_option maxHeartbeats 8000000 in
set_option maxRecDepth 100000 in
theorem handshakerlaw18_SemaLocks.calls (k : Nat) (a0 : Int) (a1 : Int) (r : Bool) (w : World) (h : handshakerlaw18_SemaLocks.f k a0 a1 = some r) :
    Calls Try.prog 7 #[.int .u8 a0, .int .u8 a1] w fun e w' => e = .returned (.bool r) ∧ Below w.heap.size w w' := by
  have hu24 := Try.underlying24
  have HB := Aside0.mk (Below.refl w.heap.size w)
  have H : ((sema_New.f k 1 1).bind fun bt251 => (handshakerlaw18_SemaLocks.l0 k a0 (wrap64 (1 + (wrap64 (Int.tmod a1 8)))) bt251.2.2.2 ([] : List Int) (wrap64 (1 + (wrap64 (Int.tmod a1 8)))) 0 bt251.1 bt251.2.1 bt251.2.2.1)) = some r := h
  clear h
  replace H := Option.bind_eq_some_iff.mp H
  obtain ⟨⟨t251, t252, t253, t256⟩, A30, H⟩ := H
  replace H : (handshakerlaw18_SemaLocks.l0 k a0 (wrap64 (1 + (wrap64 (Int.tmod a1 8)))) t256 ([] : List Int) (wrap64 (1 + (wrap64 (Int.tmod a1 8)))) 0 t251 t252 t253) = some r := H
  have A3 := Aside0.mk A30
  clear A30
  have H' := Aside0.mk H
  clear H
  go_enter Try.func7, Try.ntmps7
  go_wp2_with (first | ((with_reducible refine gate_callee (f := 17) rfl ?_); refine goesL_ (some 29) rfl rfl Try.func17 (by kernel_rfl) rfl #[.int .i64 1, .int .i64 1] rfl zm ?_; (with_reducible refine (sema_New.calls k 1 1 t251 t252 t253 t256 _ A3.out).mono ?_); rintro e w4 ⟨v254, rfl, ho0, hb⟩; refine ⟨_, rfl, ?_⟩; have n0_ := Aside0.mk (Kd.R_lower ho0 (below_size (zc0 HB))); have n1_ := Aside0.mk (below_step (zc0 HB) hb); clear HB; have HO255 := n0_; have HB := n1_; clear n0_ n1_; (try clear hb); (try clear hb2); (try clear hk); (try clear hi); (try clear ho0)) | ((with_reducible refine gate_dst (N := 6) rfl ?_); (try (refine gate_guard (by rfl) ?_; dsimp only)); refine box_event ?hg (N := 6) ?hd (cs := #[.int .i64 0, .int .i64 0, .slice none 0 0]) (t := 24) ?hr ?_; (case hd => rfl); (case hg => rfl); (case hr => first | (go_simp; done) | (go_simp; rfl)); intro gb257 hg w5 hbox hb; have n0_ := Aside0.mk (Kd.R_below (zR HO255) hb); have n1_ := Aside0.mk (below_step (zc0 HB) hb); have n2_ := Aside0.mk (hbox); have n3_ := Aside0.mk ((by rw [hg]; exact (below_size (zc0 HB)) : w.heap.size ≤ gb257)); have n4_ := Aside0.mk ((by rw [hg]; exact (below_size (zc0 HB)) : w.heap.size ≤ gb257)); clear HO255; clear HB; have HO255 := n0_; have HB := n1_; have BK257 := n2_; have GW257 := n3_; have GE257 := n4_; clear n0_ n1_ n2_ n3_ n4_; clear hb hbox hg; have hcz6_0 : w5.cell? ⟨gb257, 0, none⟩ = some (.int .i64 0) := (blk_cell BK257.out 0).trans rfl; have hcz6_1 : w5.cell? ⟨gb257, 1, none⟩ = some (.int .i64 0) := (blk_cell BK257.out 1).trans rfl; have hcz6_2 : w5.cell? ⟨gb257, 2, none⟩ = some (.slice none 0 0) := (blk_cell BK257.out 2).trans rfl; have hfz6_0 := blk_frozen BK257.out 0; have hfz6_1 := blk_frozen BK257.out 1; have hfz6_2 := blk_frozen BK257.out 2; obtain ⟨Ao7, co7, eo7⟩ := Kd.R_slice HO255.out; subst eo7))
  go_loopg [8, 33] k (fun kq v8 v33 w' => ∃ (x8_1 : List Int) (x33_1 : Int) (x258000_1 : Int) (x258001_1 : Int) (x258002_1 : List (S50)) (u258002 : Value), v33 = .int .i64 x33_1 ∧ Aside0 (handshakerlaw18_SemaLocks.l0 kq a0 (wrap64 (1 + (wrap64 (Int.tmod a1 8)))) t256 x8_1 (wrap64 (1 + (wrap64 (Int.tmod a1 8)))) x33_1 x258000_1 x258001_1 x258002_1 = some r) ∧ Aside0 (kq ≤ k) ∧ Aside0 (Kd.R (Kd.int .i64) 3 w' w.heap.size (fun _ => True) v8 x8_1) ∧ Aside0 (Kd.V k50 50 w' w.heap.size (fun k_ => some k_ ≠ (v8 : Value).ownBlock ∧ k_ ≠ gb257) u258002 x258002_1) ∧ Aside0 (w'.heap[gb257]? = some (.cells #[.int .i64 x258000_1, .int .i64 x258001_1, u258002] 24 (0, 0))) ∧ Aside0 (Below w.heap.size w w'))
  case atStart => exact ⟨(([] : List Int)), (0), (t251), (t252), (t253), (.slice Ao7 t253.length co7), (by first | rfl | (simp; done) | (simp [*]; done)), H', ⟨Nat.le_refl _⟩, ⟨by first | exact Kd.R_nil _ _ _ _ _ | exact Kd.N_nil _ _ _ _ _ | exact Kd.V_nil _ _ _ _ _ | exact Kd.Q_nil _ _ _ _ _ | exact Kd.S_nil _ _ _ _ _⟩, ⟨Kd.R_V (by (with_reducible repeat (first | apply Kd.R_alloc | apply Kd.R_drewN | apply Kd.R_drew)); exact Kd.R_mono (Kd.R_far (p := ⟨gb257, 2, none⟩) (Kd.R_far (p := ⟨gb257, 1, none⟩) (Kd.R_far (p := ⟨gb257, 0, none⟩) (Kd.R_types (Kd.R_types HO255.out BK257.out (by decide)) BK257.out (by decide)) (fun _ hk => hk.2) (.int .i64 t251)) (fun _ hk => hk.2) (.int .i64 t252)) (fun _ hk => hk.2) (.slice Ao7 t253.length co7)) (fun _ hk => ⟨(by simp [Value.ownBlock]), hk.1.2⟩))⟩, ⟨by (with_reducible repeat (first | refine blk_drewN ?_ _ | refine blk_drew ?_ | refine blk_alloc ?_ _)); refine blk_put (cs := #[.int .i64 t251, .int .i64 t252, .slice none 0 0]) ?_ 2 _ rfl; (with_reducible repeat (first | refine blk_drewN ?_ _ | refine blk_drew ?_ | refine blk_alloc ?_ _)); refine blk_put (cs := #[.int .i64 t251, .int .i64 0, .slice none 0 0]) ?_ 1 _ rfl; (with_reducible repeat (first | refine blk_drewN ?_ _ | refine blk_drew ?_ | refine blk_alloc ?_ _)); refine blk_put (cs := #[.int .i64 0, .int .i64 0, .slice none 0 0]) ?_ 0 _ rfl; (with_reducible repeat (first | refine blk_drewN ?_ _ | refine blk_drew ?_ | refine blk_alloc ?_ _)); exact BK257.out⟩, ⟨by repeat (first | (with_reducible first | exact HB.out | apply below_alloc | apply pw_below_drewN | apply below_drew1 | refine below_set ?_ GE257.out) | exact HB.out)⟩⟩
  case round =>
    clear H'
    try clear c1
    try clear p2
    try clear p6
    try clear c7
    try clear hcz6_0
    try clear hcz6_1
    try clear hcz6_2
    try clear hfz6_0
    try clear hfz6_1
    try clear hfz6_2
    obtain ⟨x8_1, x33_1, x258000_1, x258001_1, x258002_1, u258002, rfl, HA, HK1, HO_8, HO_258002, BK257, HB⟩ := hrel
    cases gk with
    | zero => exact absurd HA.out (by simp [handshakerlaw18_SemaLocks.l0])
    | succ k1 =>
      have H := HA.out
      clear HA
      simp only [handshakerlaw18_SemaLocks.l0] at H
      by_cases c8 : x33_1 < (wrap64 (1 + (wrap64 (Int.tmod a1 8))))
      · rw [if_pos c8] at H
        have c8b0 : decide (x33_1 < (wrap64 (1 + (wrap64 (Int.tmod a1 8))))) = true := decide_eq_true c8
        clear c8
        replace H := Option.bind_eq_some_iff.mp H
        obtain ⟨⟨t258, t259, t260, t263, t264⟩, A90, H⟩ := H
        replace H : (if t264 = 0 then (if t263 = true then (if x33_1 = 0 then (if x8_1.length < 17592186044416 then (handshakerlaw18_SemaLocks.l0 k1 a0 (wrap64 (1 + (wrap64 (Int.tmod a1 8)))) t256 (x8_1 ++ [wrap64 (1 + (Int.tmod (wrap64 ((wrap64 (a0)) + x33_1)) 8))]) (wrap64 (1 + (wrap64 (Int.tmod a1 8)))) (wrap64 (x33_1 + 1)) t258 t259 t260) else (none)) else (none)) else (if x33_1 = 0 then (none) else (if x8_1.length < 17592186044416 then (handshakerlaw18_SemaLocks.l0 k1 a0 (wrap64 (1 + (wrap64 (Int.tmod a1 8)))) t256 (x8_1 ++ [wrap64 (1 + (Int.tmod (wrap64 ((wrap64 (a0)) + x33_1)) 8))]) (wrap64 (1 + (wrap64 (Int.tmod a1 8)))) (wrap64 (x33_1 + 1)) t258 t259 t260) else (none)))) else (none)) = some r := H
        have A9 := Aside0.mk A90
        clear A90
        by_cases c10 : t264 = 0
        · rw [if_pos c10] at H
          have c10b0 : (t264 == 0) = true := beq_iff_eq.mpr c10
          have c10b1 : (t264 != 0) = false := bne_eq_false_iff_eq.mpr c10
          clear c10
          by_cases c11 : t263 = true
          · subst c11
            have H1 : (if x33_1 = 0 then (if x8_1.length < 17592186044416 then (handshakerlaw18_SemaLocks.l0 k1 a0 (wrap64 (1 + (wrap64 (Int.tmod a1 8)))) t256 (x8_1 ++ [wrap64 (1 + (Int.tmod (wrap64 ((wrap64 (a0)) + x33_1)) 8))]) (wrap64 (1 + (wrap64 (Int.tmod a1 8)))) (wrap64 (x33_1 + 1)) t258 t259 t260) else (none)) else (none)) = some r := by rw [if_pos rfl] at H; exact H
            clear H
            have H := H1
            clear H1
            by_cases c12 : x33_1 = 0
            · rw [if_pos c12] at H
              have c12b0 : (x33_1 == 0) = true := beq_iff_eq.mpr c12
              have c12b1 : (x33_1 != 0) = false := bne_eq_false_iff_eq.mpr c12
              clear c12
              by_cases c13 : x8_1.length < 17592186044416
              · rw [if_pos c13] at H
                have LMc13 := Aside0.mk c13
                clear c13
                obtain ⟨y266, hy266⟩ : ∃ y_ : List Int, y_ = (x8_1 ++ [wrap64 (1 + (Int.tmod (wrap64 ((wrap64 (a0)) + x33_1)) 8))]) := ⟨_, rfl⟩
                replace H : (handshakerlaw18_SemaLocks.l0 k1 a0 (wrap64 (1 + (wrap64 (Int.tmod a1 8)))) t256 y266 (wrap64 (1 + (wrap64 (Int.tmod a1 8)))) (wrap64 (x33_1 + 1)) t258 t259 t260) = some r := by first | (rw [hy266]; with_reducible exact H) | (have H2_ := (Option.bind_some _ _).symm.trans H; rw [hy266]; with_reducible exact H2_) | (have H2_ := (Option.bind_some _ _).symm.trans H; with_reducible exact H2_) | with_reducible exact H | (rw [hy266]; exact H) | exact H
                have Ny266 := Aside0.mk hy266
                clear hy266
                have H' := Aside0.mk H
                clear H
                have hcz14_0 : wr.cell? ⟨gb257, 0, none⟩ = some (.int .i64 x258000_1) := (blk_cell BK257.out 0).trans rfl
                have hcz14_1 : wr.cell? ⟨gb257, 1, none⟩ = some (.int .i64 x258001_1) := (blk_cell BK257.out 1).trans rfl
                have hcz14_2 : wr.cell? ⟨gb257, 2, none⟩ = some (u258002) := (blk_cell BK257.out 2).trans rfl
                have hfz14_0 := blk_frozen BK257.out 0
                have hfz14_1 := blk_frozen BK257.out 1
                have hfz14_2 := blk_frozen BK257.out 2
                obtain ⟨Ao15, co15, eo15⟩ := Kd.V_slice HO_258002.out
                subst eo15
                try go_wp2_with (first | ((with_reducible refine gate_callee (f := 11) rfl ?_); refine goesL_ (some 45) rfl rfl Try.func11 (by kernel_rfl) rfl #[.agg #[.int .i64 x258000_1, .int .i64 x258001_1, .slice Ao15 x258002_1.length co15], .int .i64 (wrap64 (1 + (Int.tmod (wrap64 ((wrap64 (a0)) + x33_1)) 8))), .int .i64 1] rfl zm ?_; (with_reducible refine (sema_Take.calls k1 x258000_1 x258001_1 (fun k_ => (some k_ ≠ (u8 : Value).ownBlock ∧ k_ ≠ gb257)) _ _ x258002_1 (wrap64 (1 + (Int.tmod (wrap64 ((wrap64 (a0)) + x33_1)) 8))) 1 t258 t259 t260 true t264 _ ?side1 A9.out).mono ?_); (case side1 => exact HO_258002.out); rintro e w16 ⟨v261, rfl, ho0, hb⟩; refine ⟨_, rfl, ?_⟩; have n0_ := Aside0.mk (Kd.R_below (zR HO_8) hb); have n1_ := Aside0.mk (Kd.V_below (zV HO_258002) hb); have n2_ := Aside0.mk (Kd.V_lower (Kd.V_mono (ok' := fun k_ => some k_ ≠ (u8 : Value).ownBlock ∧ k_ ≠ gb257) ho0 (fun k_ hk_ => ⟨Or.elim hk_ (fun hs_ => hs_.1) (fun hn_ => (Kd.fresh' (Kd.R_lt (zR HO_8)) k_ hn_)), Or.elim hk_ (fun hs_ => hs_.2) (fun hn_ => (Kd.freshB (g := gb257) (o := .cells #[.int .i64 x258000_1, .int .i64 x258001_1, .slice Ao15 x258002_1.length co15] 24 (0, 0)) (zb BK257) k_ hn_))⟩)) (below_size (zc1 HB GE257))); have n3_ := Aside0.mk (blk_below (g := gb257) (o := .cells #[.int .i64 x258000_1, .int .i64 x258001_1, .slice Ao15 x258002_1.length co15] 24 (0, 0)) (zb BK257) hb); have n4_ := Aside0.mk (below_step (zc1 HB GE257) hb); clear HO_8; clear HO_258002; clear BK257; clear HB; have HO_8 := n0_; have HO_258002 := n1_; have HO262 := n2_; have BK257 := n3_; have HB := n4_; clear n0_ n1_ n2_ n3_ n4_; (try clear hb); (try clear hb2); (try clear hk); (try clear hi); (try clear ho0)) | ((with_reducible refine gate_dst (N := 11) rfl ?_); (try (refine gate_guard (by rfl) ?_; dsimp only)); refine box_event ?hg (N := 11) ?hd (cs := #[.int .i64 0, .int .i64 0, .slice none 0 0]) (t := 24) ?hr ?_; (case hd => rfl); (case hg => rfl); (case hr => first | (go_simp; done) | (go_simp; rfl)); intro gb265 hg w17 hbox hb; have n0_ := Aside0.mk (Kd.R_below (zR HO_8) hb); have n1_ := Aside0.mk (Kd.V_below (Kd.V_elderB (zV HO_258002) gb265 (Nat.le_of_eq hg.symm)) hb); have n2_ := Aside0.mk (Kd.V_below (Kd.V_elderB (zV HO262) gb265 (Nat.le_of_eq hg.symm)) hb); have n3_ := Aside0.mk (blk_below (g := gb257) (o := .cells #[.int .i64 x258000_1, .int .i64 x258001_1, .slice Ao15 x258002_1.length co15] 24 (0, 0)) (zb BK257) hb); have n4_ := Aside0.mk (below_step (zc1 HB GE257) hb); have n5_ := Aside0.mk (hbox); have n6_ := Aside0.mk ((by rw [hg]; exact (below_size (zc1 HB GE257)) : w.heap.size ≤ gb265)); have n7_ := Aside0.mk ((by rw [hg]; exact (below_size (zc1 HB GE257)) : w.heap.size ≤ gb265)); have n8_ := Aside0.mk ((by rw [hg]; exact Nat.ne_of_lt (blk_lt (g := gb257) (o := .cells #[.int .i64 x258000_1, .int .i64 x258001_1, .slice Ao15 x258002_1.length co15] 24 (0, 0)) (zb BK257)) : gb257 ≠ gb265)); have n9_ := Aside0.mk ((by rw [hg]; exact Nat.ne_of_gt (blk_lt (g := gb257) (o := .cells #[.int .i64 x258000_1, .int .i64 x258001_1, .slice Ao15 x258002_1.length co15] 24 (0, 0)) (zb BK257)) : gb265 ≠ gb257)); clear HO_8; clear HO_258002; clear HO262; clear BK257; clear HB; have HO_8 := n0_; have HO_258002 := n1_; have HO262 := n2_; have BK257 := n3_; have HB := n4_; have BK265 := n5_; have GW265 := n6_; have GE265 := n7_; have NB257_265 := n8_; have NB265_257 := n9_; clear n0_ n1_ n2_ n3_ n4_ n5_ n6_ n7_ n8_ n9_; clear hb hbox hg; have hnb18 := NB265_257.out; have hnc18 := NB257_265.out; have hcz19_0 : w17.cell? ⟨gb265, 0, none⟩ = some (.int .i64 0) := (blk_cell BK265.out 0).trans rfl; have hcz19_1 : w17.cell? ⟨gb265, 1, none⟩ = some (.int .i64 0) := (blk_cell BK265.out 1).trans rfl; have hcz19_2 : w17.cell? ⟨gb265, 2, none⟩ = some (.slice none 0 0) := (blk_cell BK265.out 2).trans rfl; have hfz19_0 := blk_frozen BK265.out 0; have hfz19_1 := blk_frozen BK265.out 1; have hfz19_2 := blk_frozen BK265.out 2; obtain ⟨Ao20, co20, eo20⟩ := Kd.V_slice HO262.out; subst eo20))
                have n0_ : Aside0 (Kd.R (Kd.int .i64) 3 (((w17.setCell ⟨gb265, 0, none⟩ (.int .i64 t258)).setCell ⟨gb265, 1, none⟩ (.int .i64 t259)).setCell ⟨gb265, 2, none⟩ (.slice Ao20 t260.length co20)) w.heap.size (fun _ => True) u8 x8_1) := ⟨by (with_reducible repeat (first | apply Kd.R_alloc | apply Kd.R_drewN | apply Kd.R_drew)); exact Kd.R_mono (Kd.R_far (p := ⟨gb265, 2, none⟩) (Kd.R_far (p := ⟨gb265, 1, none⟩) (Kd.R_far (p := ⟨gb265, 0, none⟩) (Kd.R_types HO_8.out BK265.out (by decide)) (fun _ hk => hk.2) (.int .i64 t258)) (fun _ hk => hk.2) (.int .i64 t259)) (fun _ hk => hk.2) (.slice Ao20 t260.length co20)) (fun _ hk => trivial)⟩
                have n1_ : Aside0 (Kd.V k50 50 (((w17.setCell ⟨gb265, 0, none⟩ (.int .i64 t258)).setCell ⟨gb265, 1, none⟩ (.int .i64 t259)).setCell ⟨gb265, 2, none⟩ (.slice Ao20 t260.length co20)) w.heap.size (fun k_ => some k_ ≠ (u8 : Value).ownBlock ∧ k_ ≠ gb257 ∧ k_ ≠ gb265) (.slice Ao15 x258002_1.length co15) x258002_1) := ⟨by (with_reducible repeat (first | apply Kd.V_alloc | apply Kd.V_drewN | apply Kd.V_drew)); exact Kd.V_mono (Kd.V_far (p := ⟨gb265, 2, none⟩) (Kd.V_far (p := ⟨gb265, 1, none⟩) (Kd.V_far (p := ⟨gb265, 0, none⟩) (Kd.V_mono HO_258002.out (fun k_ hk => (⟨hk, hk.2⟩ : _ ∧ k_ ≠ gb265))) (fun _ hk => hk.2) (.int .i64 t258)) (fun _ hk => hk.2) (.int .i64 t259)) (fun _ hk => hk.2) (.slice Ao20 t260.length co20)) (fun _ hk => ⟨hk.1.1.1, ⟨hk.1.1.2, hk.1.2⟩⟩)⟩
                have n2_ : Aside0 (Kd.V k50 50 (((w17.setCell ⟨gb265, 0, none⟩ (.int .i64 t258)).setCell ⟨gb265, 1, none⟩ (.int .i64 t259)).setCell ⟨gb265, 2, none⟩ (.slice Ao20 t260.length co20)) w.heap.size (fun k_ => some k_ ≠ (u8 : Value).ownBlock ∧ k_ ≠ gb257 ∧ k_ ≠ gb265) (.slice Ao20 t260.length co20) t260) := ⟨by (with_reducible repeat (first | apply Kd.V_alloc | apply Kd.V_drewN | apply Kd.V_drew)); exact Kd.V_mono (Kd.V_far (p := ⟨gb265, 2, none⟩) (Kd.V_far (p := ⟨gb265, 1, none⟩) (Kd.V_far (p := ⟨gb265, 0, none⟩) (Kd.V_mono HO262.out (fun k_ hk => (⟨hk, hk.2⟩ : _ ∧ k_ ≠ gb265))) (fun _ hk => hk.2) (.int .i64 t258)) (fun _ hk => hk.2) (.int .i64 t259)) (fun _ hk => hk.2) (.slice Ao20 t260.length co20)) (fun _ hk => ⟨hk.1.1.1, ⟨hk.1.1.2, hk.1.2⟩⟩)⟩
                have n3_ : Aside0 ((((w17.setCell ⟨gb265, 0, none⟩ (.int .i64 t258)).setCell ⟨gb265, 1, none⟩ (.int .i64 t259)).setCell ⟨gb265, 2, none⟩ (.slice Ao20 t260.length co20)).heap[gb257]? = some (.cells #[.int .i64 x258000_1, .int .i64 x258001_1, .slice Ao15 x258002_1.length co15] 24 (0, 0))) := ⟨by (with_reducible repeat (first | refine blk_drewN ?_ _ | refine blk_drew ?_ | refine blk_alloc ?_ _)); refine blk_far ?_ NB257_265.out _; (with_reducible repeat (first | refine blk_drewN ?_ _ | refine blk_drew ?_ | refine blk_alloc ?_ _)); refine blk_far ?_ NB257_265.out _; (with_reducible repeat (first | refine blk_drewN ?_ _ | refine blk_drew ?_ | refine blk_alloc ?_ _)); refine blk_far ?_ NB257_265.out _; (with_reducible repeat (first | refine blk_drewN ?_ _ | refine blk_drew ?_ | refine blk_alloc ?_ _)); exact BK257.out⟩
                have n4_ : Aside0 ((((w17.setCell ⟨gb265, 0, none⟩ (.int .i64 t258)).setCell ⟨gb265, 1, none⟩ (.int .i64 t259)).setCell ⟨gb265, 2, none⟩ (.slice Ao20 t260.length co20)).heap[gb265]? = some (.cells #[.int .i64 t258, .int .i64 t259, .slice Ao20 t260.length co20] 24 (0, 0))) := ⟨by (with_reducible repeat (first | refine blk_drewN ?_ _ | refine blk_drew ?_ | refine blk_alloc ?_ _)); refine blk_put (cs := #[.int .i64 t258, .int .i64 t259, .slice none 0 0]) ?_ 2 _ rfl; (with_reducible repeat (first | refine blk_drewN ?_ _ | refine blk_drew ?_ | refine blk_alloc ?_ _)); refine blk_put (cs := #[.int .i64 t258, .int .i64 0, .slice none 0 0]) ?_ 1 _ rfl; (with_reducible repeat (first | refine blk_drewN ?_ _ | refine blk_drew ?_ | refine blk_alloc ?_ _)); refine blk_put (cs := #[.int .i64 0, .int .i64 0, .slice none 0 0]) ?_ 0 _ rfl; (with_reducible repeat (first | refine blk_drewN ?_ _ | refine blk_drew ?_ | refine blk_alloc ?_ _)); exact BK265.out⟩
                have n5_ : Aside0 (Below w.heap.size w (((w17.setCell ⟨gb265, 0, none⟩ (.int .i64 t258)).setCell ⟨gb265, 1, none⟩ (.int .i64 t259)).setCell ⟨gb265, 2, none⟩ (.slice Ao20 t260.length co20))) := ⟨by repeat (first | (with_reducible first | exact HB.out | apply below_alloc | apply pw_below_drewN | apply below_drew1 | refine below_set ?_ GE257.out | refine below_set ?_ GE265.out) | exact HB.out)⟩
                (try clear HO_8)
                (try clear HO_258002)
                (try clear HO262)
                (try clear BK257)
                (try clear BK265)
                (try clear HB)
                generalize (((w17.setCell ⟨gb265, 0, none⟩ (.int .i64 t258)).setCell ⟨gb265, 1, none⟩ (.int .i64 t259)).setCell ⟨gb265, 2, none⟩ (.slice Ao20 t260.length co20)) = w21 at n0_ n1_ n2_ n3_ n4_ n5_ ⊢
                have HO_8 := n0_
                have HO_258002 := n1_
                have HO262 := n2_
                have BK257 := n3_
                have BK265 := n4_
                have HB := n5_
                clear n0_ n1_ n2_ n3_ n4_ n5_
                have n0_ := Aside0.mk (Kd.R_drew HO_8.out)
                have n1_ := Aside0.mk (Kd.V_drew HO_258002.out)
                have n2_ := Aside0.mk (Kd.V_drew HO262.out)
                have n3_ := Aside0.mk (blk_drew BK257.out)
                have n4_ := Aside0.mk (blk_drew BK265.out)
                have n5_ := Aside0.mk (below_drew1 HB.out)
                clear HO_8
                clear HO_258002
                clear HO262
                clear BK257
                clear BK265
                clear HB
                have HO_8 := n0_
                have HO_258002 := n1_
                have HO262 := n2_
                have BK257 := n3_
                have BK265 := n4_
                have HB := n5_
                clear n0_ n1_ n2_ n3_ n4_ n5_
                refine start_ (n := 7) (S := fun w' => w'.cell? ⟨gb265, 0, none⟩ = some (.int .i64 t258) ∧ w'.cell? ⟨gb265, 1, none⟩ = some (.int .i64 t259) ∧ w'.cell? ⟨gb265, 2, none⟩ = some (.slice Ao20 t260.length co20)) (ds := []) #[false, false, false, false, false, false, false] (by kernel_rfl) rfl rfl ⟨(blk_cell BK265.out 0).trans rfl, (blk_cell BK265.out 1).trans rfl, (blk_cell BK265.out 2).trans rfl⟩ (fun hHeld => ?_)
                generalize w21.drew = w22 at HO_8 HO_258002 HO262 BK257 BK265 HB hHeld ⊢
                refine pure_ (i := 1) (N := some 58) (v := ?_) (a' := ?_) #[false, true, false, false, false, false, false] rfl rfl (by kernel_rfl) (fun _ _ _ h => h) (Or.inl ⟨by rfl, ?_⟩) ?_ ?_
                rotate_left
                · intro w'
                  go_simp
                  with_reducible rfl
                rotate_left
                · simp only [Act.put, List.setIfInBounds_toArray, List.set_cons_zero, List.set_cons_succ, i64_w, i32_w]
                  rfl
                refine pure_ (i := 2) (N := some 59) (v := ?_) (a' := ?_) #[false, true, true, false, false, false, false] rfl rfl (by kernel_rfl) (fun _ _ _ h => h) (Or.inl ⟨by rfl, ?_⟩) ?_ ?_
                rotate_left
                · intro w'
                  go_simp
                  with_reducible rfl
                rotate_left
                · simp only [Act.put, List.setIfInBounds_toArray, List.set_cons_zero, List.set_cons_succ, i64_w, i32_w]
                  rfl
                refine take_ (i := 0) (N := some 57) (v := ?_) (a' := ?_) #[true, true, true, false, false, false, false] rfl rfl (by kernel_rfl) (fun _ _ _ h => h) (Or.inl ⟨by rfl, ?_⟩) hHeld ?_ ?_
                rotate_left
                · rintro w' ⟨s0, s1, s2⟩
                  go_simp
                  with_reducible rfl
                rotate_left
                · simp only [Act.put, List.setIfInBounds_toArray, List.set_cons_zero, List.set_cons_succ, i64_w, i32_w]
                  rfl
                refine one_ (i := 3) (N := some 60) #[true, true, true, true, false, false, false] rfl rfl (by kernel_rfl) (by decide) (fun K hK => ?_)
                refine value_ (w1 := ?_) (v := ?_) (by rfl) rfl ?_ ?_
                rotate_left 2
                · go_simp
                  constructor
                  · rfl
                  · rfl
                refine hK.out _ _ ⟨(blk_cell (blk_alloc BK265.out _) 0).trans rfl, (blk_cell (blk_alloc BK265.out _) 1).trans rfl, (blk_cell (blk_alloc BK265.out _) 2).trans rfl⟩ (fun hHeld => ?_)
                clear hK K
                refine norm_ (a' := ?_) ?_ ?_
                rotate_left
                · show Act.put _ (some 60) _ = _
                  simp only [Act.put, List.setIfInBounds_toArray, List.set_cons_zero, List.set_cons_succ, i64_w, i32_w]
                  rfl
                refine one_ (i := 4) (N := some 61) #[true, true, true, true, true, false, false] rfl rfl (by kernel_rfl) (by decide) (fun K hK => ?_)
                refine Kd.R_append_step (Kd.int .i64) (w0 := w) w.heap.size (by rfl) (.tmp 58) (.tmp 60) 52 3 (.int .i64 0) 8 rfl Try.underlying52 info3 rfl (by decide) (by omega) u8 x8_1 (wrap64 (1 + (Int.tmod (wrap64 ((wrap64 (a0)) + x33_1)) 8))) [.int .i64 (wrap64 (1 + (Int.tmod (wrap64 ((wrap64 (a0)) + x33_1)) 8)))] (fun _ => True) (fun _ => False) rfl rfl ?aP (fun _ hk => hk.elim) ?aF ?aO ?aB ?aS ?aL ?_
                (case aP => exact rfl)
                (case aB => exact (zc2 HB GE257 GE265))
                (case aF => exact (fun _ _ => trivial))
                (case aO => exact (zR HO_8))
                (case aS => exact (below_size (zc2 HB GE257 GE265)))
                (case aL => have := LMc13.out; omega)
                intro v267 w23 ho hb hg hat
                rw [← Ny266.out] at ho
                have n0_ := Aside0.mk (Kd.V_afterv (ok := (fun k_ => k_ ≠ gb257 ∧ k_ ≠ gb265)) (by (with_reducible repeat (first | apply Kd.V_alloc | apply Kd.V_drewN | apply Kd.V_drew)); exact Kd.V_mono HO_258002.out (fun _ hk => ⟨⟨hk.2.1, hk.2.2⟩, hk.1⟩)) hg hat)
                have n1_ := Aside0.mk (blk_grown (g := gb257) (o := .cells #[.int .i64 x258000_1, .int .i64 x258001_1, .slice Ao15 x258002_1.length co15] 24 (0, 0)) (zb BK257) hg (Kd.R_ne HO_8.out BK257.out (by decide)))
                have n2_ := Aside0.mk (Kd.V_afterv (ok := (fun k_ => k_ ≠ gb257 ∧ k_ ≠ gb265)) (by (with_reducible repeat (first | apply Kd.V_alloc | apply Kd.V_drewN | apply Kd.V_drew)); exact Kd.V_mono HO262.out (fun _ hk => ⟨⟨hk.2.1, hk.2.2⟩, hk.1⟩)) hg hat)
                have n3_ := Aside0.mk (blk_grown (g := gb265) (o := .cells #[.int .i64 t258, .int .i64 t259, .slice Ao20 t260.length co20] 24 (0, 0)) (zb BK265) hg (Kd.R_ne HO_8.out BK265.out (by decide)))
                have n4_ := Aside0.mk (hb)
                have n5_ := Aside0.mk (ho)
                clear HO_258002
                clear BK257
                clear HO262
                clear BK265
                clear HB
                clear HO_8
                have HO_258002 := n0_
                have BK257 := n1_
                have HO262 := n2_
                have BK265 := n3_
                have HB := n4_
                have HO268 := n5_
                clear n0_ n1_ n2_ n3_ n4_ n5_
                clear ho hb hg hat
                refine hK.out _ _ ⟨(blk_cell BK265.out 0).trans rfl, (blk_cell BK265.out 1).trans rfl, (blk_cell BK265.out 2).trans rfl⟩ (fun hHeld => ?_)
                clear hK K
                refine norm_ (a' := ?_) ?_ ?_
                rotate_left
                · show Act.put _ (some 61) _ = _
                  simp only [Act.put, List.setIfInBounds_toArray, List.set_cons_zero, List.set_cons_succ, i64_w, i32_w]
                  rfl
                refine one_ (i := 5) (N := none) #[true, true, true, true, true, true, false] rfl rfl (by kernel_rfl) (by decide) (fun K hK => ?_)
                have hs24 : w23.cell? ⟨gb257, 0, none⟩ = some (.int .i64 x258000_1) := (blk_cell BK257.out 0).trans rfl
                have hfs24 := blk_frozen BK257.out 0
                have hns24_1 := NB265_257.out
                have hms24_1 := NB257_265.out
                have hs25 : w23.cell? ⟨gb257, 1, none⟩ = some (.int .i64 x258001_1) := (blk_cell BK257.out 1).trans rfl
                have hfs25 := blk_frozen BK257.out 1
                have hns25_1 := NB265_257.out
                have hms25_1 := NB257_265.out
                have hs26 : w23.cell? ⟨gb257, 2, none⟩ = some (.slice Ao15 x258002_1.length co15) := (blk_cell BK257.out 2).trans rfl
                have hfs26 := blk_frozen BK257.out 2
                have hns26_1 := NB265_257.out
                have hms26_1 := NB257_265.out
                refine skip_ (w1 := ?_) (by rfl) rfl ?_ ?_
                rotate_left
                · go_simp
                  rfl
                refine hK.out _ _ ⟨((cell_far (p := ⟨gb257, _, none⟩) NB265_257.out _).trans (((cell_far (p := ⟨gb257, _, none⟩) NB265_257.out _).trans (((cell_far (p := ⟨gb257, _, none⟩) NB265_257.out _).trans (hHeld.1)))))), ((cell_far (p := ⟨gb257, _, none⟩) NB265_257.out _).trans (((cell_far (p := ⟨gb257, _, none⟩) NB265_257.out _).trans (((cell_far (p := ⟨gb257, _, none⟩) NB265_257.out _).trans (hHeld.2.1)))))), ((cell_far (p := ⟨gb257, _, none⟩) NB265_257.out _).trans (((cell_far (p := ⟨gb257, _, none⟩) NB265_257.out _).trans (((cell_far (p := ⟨gb257, _, none⟩) NB265_257.out _).trans (hHeld.2.2))))))⟩ (fun hHeld => ?_)
                clear hK K
                refine pure_ (i := 6) (N := some 8) (v := ?_) (a' := ?_) #[true, true, true, true, true, true, true] rfl rfl (by kernel_rfl) (fun _ _ _ h => h) (Or.inl ⟨by rfl, ?_⟩) ?_ ?_
                rotate_left
                · intro w'
                  go_simp
                  with_reducible rfl
                rotate_left
                · simp only [Act.put, List.setIfInBounds_toArray, List.set_cons_zero, List.set_cons_succ, i64_w, i32_w]
                  rfl
                refine done_ (by kernel_rfl) ?_
                try go_wp2
                go_roundg k1
                case measure => have := HK1.out; omega
                case rel => exact ⟨(y266), (wrap64 (x33_1 + 1)), (t258), (t259), (t260), (.slice Ao20 t260.length co20), (by first | rfl | (simp; done) | (simp [*]; done)), H', ⟨by have := HK1.out; omega⟩, ⟨by (with_reducible repeat (first | apply Kd.R_alloc | apply Kd.R_drewN | apply Kd.R_drew)); exact Kd.R_mono (Kd.R_far (p := ⟨gb257, 2, none⟩) (Kd.R_far (p := ⟨gb257, 1, none⟩) (Kd.R_far (p := ⟨gb257, 0, none⟩) (Kd.R_types HO268.out BK257.out (by decide)) (fun _ hk => hk.2) (.int .i64 t258)) (fun _ hk => hk.2) (.int .i64 t259)) (fun _ hk => hk.2) (.slice Ao20 t260.length co20)) (fun _ hk => trivial)⟩, ⟨by (with_reducible repeat (first | apply Kd.V_alloc | apply Kd.V_drewN | apply Kd.V_drew)); exact Kd.V_mono (Kd.V_far (p := ⟨gb257, 2, none⟩) (Kd.V_far (p := ⟨gb257, 1, none⟩) (Kd.V_far (p := ⟨gb257, 0, none⟩) (Kd.V_mono HO262.out (fun k_ hk => (⟨hk, hk.1.1⟩ : _ ∧ k_ ≠ gb257))) (fun _ hk => hk.2) (.int .i64 t258)) (fun _ hk => hk.2) (.int .i64 t259)) (fun _ hk => hk.2) (.slice Ao20 t260.length co20)) (fun _ hk => ⟨hk.1.2, hk.1.1.1⟩)⟩, ⟨by (with_reducible repeat (first | refine blk_drewN ?_ _ | refine blk_drew ?_ | refine blk_alloc ?_ _)); refine blk_put (cs := #[.int .i64 t258, .int .i64 t259, .slice Ao15 x258002_1.length co15]) ?_ 2 _ rfl; (with_reducible repeat (first | refine blk_drewN ?_ _ | refine blk_drew ?_ | refine blk_alloc ?_ _)); refine blk_put (cs := #[.int .i64 t258, .int .i64 x258001_1, .slice Ao15 x258002_1.length co15]) ?_ 1 _ rfl; (with_reducible repeat (first | refine blk_drewN ?_ _ | refine blk_drew ?_ | refine blk_alloc ?_ _)); refine blk_put (cs := #[.int .i64 x258000_1, .int .i64 x258001_1, .slice Ao15 x258002_1.length co15]) ?_ 0 _ rfl; (with_reducible repeat (first | refine blk_drewN ?_ _ | refine blk_drew ?_ | refine blk_alloc ?_ _)); exact BK257.out⟩, ⟨by repeat (first | (with_reducible first | exact HB.out | apply below_alloc | apply pw_below_drewN | apply below_drew1 | refine below_set ?_ GE257.out | refine below_set ?_ GE265.out) | exact HB.out)⟩⟩
              · rw [if_neg c13] at H
                exact absurd H (by simp)
            · rw [if_neg c12] at H
              exact absurd H (by simp)
          · replace c11 := Bool.eq_false_iff.mpr c11
            subst c11
            have H1 : (if x33_1 = 0 then (none) else (if x8_1.length < 17592186044416 then (handshakerlaw18_SemaLocks.l0 k1 a0 (wrap64 (1 + (wrap64 (Int.tmod a1 8)))) t256 (x8_1 ++ [wrap64 (1 + (Int.tmod (wrap64 ((wrap64 (a0)) + x33_1)) 8))]) (wrap64 (1 + (wrap64 (Int.tmod a1 8)))) (wrap64 (x33_1 + 1)) t258 t259 t260) else (none))) = some r := by rw [if_neg (show ¬ (false = true) by decide)] at H; exact H
            clear H
            have H := H1
            clear H1
            by_cases c27 : x33_1 = 0
            · rw [if_pos c27] at H
              exact absurd H (by simp)
            · rw [if_neg c27] at H
              have c27b0 : (x33_1 == 0) = false := beq_eq_false_iff_ne.mpr c27
              have c27b1 : (x33_1 != 0) = true := bne_iff_ne.mpr c27
              by_cases c28 : x8_1.length < 17592186044416
              · rw [if_pos c28] at H
                have LMc28 := Aside0.mk c28
                clear c28
                obtain ⟨y269, hy269⟩ : ∃ y_ : List Int, y_ = (x8_1 ++ [wrap64 (1 + (Int.tmod (wrap64 ((wrap64 (a0)) + x33_1)) 8))]) := ⟨_, rfl⟩
                replace H : (handshakerlaw18_SemaLocks.l0 k1 a0 (wrap64 (1 + (wrap64 (Int.tmod a1 8)))) t256 y269 (wrap64 (1 + (wrap64 (Int.tmod a1 8)))) (wrap64 (x33_1 + 1)) t258 t259 t260) = some r := by first | (rw [hy269]; with_reducible exact H) | (have H2_ := (Option.bind_some _ _).symm.trans H; rw [hy269]; with_reducible exact H2_) | (have H2_ := (Option.bind_some _ _).symm.trans H; with_reducible exact H2_) | with_reducible exact H | (rw [hy269]; exact H) | exact H
                have Ny269 := Aside0.mk hy269
                clear hy269
                have H' := Aside0.mk H
                clear H
                have hcz29_0 : wr.cell? ⟨gb257, 0, none⟩ = some (.int .i64 x258000_1) := (blk_cell BK257.out 0).trans rfl
                have hcz29_1 : wr.cell? ⟨gb257, 1, none⟩ = some (.int .i64 x258001_1) := (blk_cell BK257.out 1).trans rfl
                have hcz29_2 : wr.cell? ⟨gb257, 2, none⟩ = some (u258002) := (blk_cell BK257.out 2).trans rfl
                have hfz29_0 := blk_frozen BK257.out 0
                have hfz29_1 := blk_frozen BK257.out 1
                have hfz29_2 := blk_frozen BK257.out 2
                obtain ⟨Ao30, co30, eo30⟩ := Kd.V_slice HO_258002.out
                subst eo30
                try go_wp2_with (first | ((with_reducible refine gate_callee (f := 11) rfl ?_); refine goesL_ (some 45) rfl rfl Try.func11 (by kernel_rfl) rfl #[.agg #[.int .i64 x258000_1, .int .i64 x258001_1, .slice Ao30 x258002_1.length co30], .int .i64 (wrap64 (1 + (Int.tmod (wrap64 ((wrap64 (a0)) + x33_1)) 8))), .int .i64 1] rfl zm ?_; (with_reducible refine (sema_Take.calls k1 x258000_1 x258001_1 (fun k_ => (some k_ ≠ (u8 : Value).ownBlock ∧ k_ ≠ gb257)) _ _ x258002_1 (wrap64 (1 + (Int.tmod (wrap64 ((wrap64 (a0)) + x33_1)) 8))) 1 t258 t259 t260 false t264 _ ?side1 A9.out).mono ?_); (case side1 => exact HO_258002.out); rintro e w31 ⟨v261, rfl, ho0, hb⟩; refine ⟨_, rfl, ?_⟩; have n0_ := Aside0.mk (Kd.R_below (zR HO_8) hb); have n1_ := Aside0.mk (Kd.V_below (zV HO_258002) hb); have n2_ := Aside0.mk (Kd.V_lower (Kd.V_mono (ok' := fun k_ => some k_ ≠ (u8 : Value).ownBlock ∧ k_ ≠ gb257) ho0 (fun k_ hk_ => ⟨Or.elim hk_ (fun hs_ => hs_.1) (fun hn_ => (Kd.fresh' (Kd.R_lt (zR HO_8)) k_ hn_)), Or.elim hk_ (fun hs_ => hs_.2) (fun hn_ => (Kd.freshB (g := gb257) (o := .cells #[.int .i64 x258000_1, .int .i64 x258001_1, .slice Ao30 x258002_1.length co30] 24 (0, 0)) (zb BK257) k_ hn_))⟩)) (below_size (zc1 HB GE257))); have n3_ := Aside0.mk (blk_below (g := gb257) (o := .cells #[.int .i64 x258000_1, .int .i64 x258001_1, .slice Ao30 x258002_1.length co30] 24 (0, 0)) (zb BK257) hb); have n4_ := Aside0.mk (below_step (zc1 HB GE257) hb); clear HO_8; clear HO_258002; clear BK257; clear HB; have HO_8 := n0_; have HO_258002 := n1_; have HO262 := n2_; have BK257 := n3_; have HB := n4_; clear n0_ n1_ n2_ n3_ n4_; (try clear hb); (try clear hb2); (try clear hk); (try clear hi); (try clear ho0)) | ((with_reducible refine gate_dst (N := 11) rfl ?_); (try (refine gate_guard (by rfl) ?_; dsimp only)); refine box_event ?hg (N := 11) ?hd (cs := #[.int .i64 0, .int .i64 0, .slice none 0 0]) (t := 24) ?hr ?_; (case hd => rfl); (case hg => rfl); (case hr => first | (go_simp; done) | (go_simp; rfl)); intro gb265 hg w32 hbox hb; have n0_ := Aside0.mk (Kd.R_below (zR HO_8) hb); have n1_ := Aside0.mk (Kd.V_below (Kd.V_elderB (zV HO_258002) gb265 (Nat.le_of_eq hg.symm)) hb); have n2_ := Aside0.mk (Kd.V_below (Kd.V_elderB (zV HO262) gb265 (Nat.le_of_eq hg.symm)) hb); have n3_ := Aside0.mk (blk_below (g := gb257) (o := .cells #[.int .i64 x258000_1, .int .i64 x258001_1, .slice Ao30 x258002_1.length co30] 24 (0, 0)) (zb BK257) hb); have n4_ := Aside0.mk (below_step (zc1 HB GE257) hb); have n5_ := Aside0.mk (hbox); have n6_ := Aside0.mk ((by rw [hg]; exact (below_size (zc1 HB GE257)) : w.heap.size ≤ gb265)); have n7_ := Aside0.mk ((by rw [hg]; exact (below_size (zc1 HB GE257)) : w.heap.size ≤ gb265)); have n8_ := Aside0.mk ((by rw [hg]; exact Nat.ne_of_lt (blk_lt (g := gb257) (o := .cells #[.int .i64 x258000_1, .int .i64 x258001_1, .slice Ao30 x258002_1.length co30] 24 (0, 0)) (zb BK257)) : gb257 ≠ gb265)); have n9_ := Aside0.mk ((by rw [hg]; exact Nat.ne_of_gt (blk_lt (g := gb257) (o := .cells #[.int .i64 x258000_1, .int .i64 x258001_1, .slice Ao30 x258002_1.length co30] 24 (0, 0)) (zb BK257)) : gb265 ≠ gb257)); clear HO_8; clear HO_258002; clear HO262; clear BK257; clear HB; have HO_8 := n0_; have HO_258002 := n1_; have HO262 := n2_; have BK257 := n3_; have HB := n4_; have BK265 := n5_; have GW265 := n6_; have GE265 := n7_; have NB257_265 := n8_; have NB265_257 := n9_; clear n0_ n1_ n2_ n3_ n4_ n5_ n6_ n7_ n8_ n9_; clear hb hbox hg; have hnb33 := NB265_257.out; have hnc33 := NB257_265.out; have hcz34_0 : w32.cell? ⟨gb265, 0, none⟩ = some (.int .i64 0) := (blk_cell BK265.out 0).trans rfl; have hcz34_1 : w32.cell? ⟨gb265, 1, none⟩ = some (.int .i64 0) := (blk_cell BK265.out 1).trans rfl; have hcz34_2 : w32.cell? ⟨gb265, 2, none⟩ = some (.slice none 0 0) := (blk_cell BK265.out 2).trans rfl; have hfz34_0 := blk_frozen BK265.out 0; have hfz34_1 := blk_frozen BK265.out 1; have hfz34_2 := blk_frozen BK265.out 2; obtain ⟨Ao35, co35, eo35⟩ := Kd.V_slice HO262.out; subst eo35))
                have n0_ : Aside0 (Kd.R (Kd.int .i64) 3 (((w32.setCell ⟨gb265, 0, none⟩ (.int .i64 t258)).setCell ⟨gb265, 1, none⟩ (.int .i64 t259)).setCell ⟨gb265, 2, none⟩ (.slice Ao35 t260.length co35)) w.heap.size (fun _ => True) u8 x8_1) := ⟨by (with_reducible repeat (first | apply Kd.R_alloc | apply Kd.R_drewN | apply Kd.R_drew)); exact Kd.R_mono (Kd.R_far (p := ⟨gb265, 2, none⟩) (Kd.R_far (p := ⟨gb265, 1, none⟩) (Kd.R_far (p := ⟨gb265, 0, none⟩) (Kd.R_types HO_8.out BK265.out (by decide)) (fun _ hk => hk.2) (.int .i64 t258)) (fun _ hk => hk.2) (.int .i64 t259)) (fun _ hk => hk.2) (.slice Ao35 t260.length co35)) (fun _ hk => trivial)⟩
                have n1_ : Aside0 (Kd.V k50 50 (((w32.setCell ⟨gb265, 0, none⟩ (.int .i64 t258)).setCell ⟨gb265, 1, none⟩ (.int .i64 t259)).setCell ⟨gb265, 2, none⟩ (.slice Ao35 t260.length co35)) w.heap.size (fun k_ => some k_ ≠ (u8 : Value).ownBlock ∧ k_ ≠ gb257 ∧ k_ ≠ gb265) (.slice Ao30 x258002_1.length co30) x258002_1) := ⟨by (with_reducible repeat (first | apply Kd.V_alloc | apply Kd.V_drewN | apply Kd.V_drew)); exact Kd.V_mono (Kd.V_far (p := ⟨gb265, 2, none⟩) (Kd.V_far (p := ⟨gb265, 1, none⟩) (Kd.V_far (p := ⟨gb265, 0, none⟩) (Kd.V_mono HO_258002.out (fun k_ hk => (⟨hk, hk.2⟩ : _ ∧ k_ ≠ gb265))) (fun _ hk => hk.2) (.int .i64 t258)) (fun _ hk => hk.2) (.int .i64 t259)) (fun _ hk => hk.2) (.slice Ao35 t260.length co35)) (fun _ hk => ⟨hk.1.1.1, ⟨hk.1.1.2, hk.1.2⟩⟩)⟩
                have n2_ : Aside0 (Kd.V k50 50 (((w32.setCell ⟨gb265, 0, none⟩ (.int .i64 t258)).setCell ⟨gb265, 1, none⟩ (.int .i64 t259)).setCell ⟨gb265, 2, none⟩ (.slice Ao35 t260.length co35)) w.heap.size (fun k_ => some k_ ≠ (u8 : Value).ownBlock ∧ k_ ≠ gb257 ∧ k_ ≠ gb265) (.slice Ao35 t260.length co35) t260) := ⟨by (with_reducible repeat (first | apply Kd.V_alloc | apply Kd.V_drewN | apply Kd.V_drew)); exact Kd.V_mono (Kd.V_far (p := ⟨gb265, 2, none⟩) (Kd.V_far (p := ⟨gb265, 1, none⟩) (Kd.V_far (p := ⟨gb265, 0, none⟩) (Kd.V_mono HO262.out (fun k_ hk => (⟨hk, hk.2⟩ : _ ∧ k_ ≠ gb265))) (fun _ hk => hk.2) (.int .i64 t258)) (fun _ hk => hk.2) (.int .i64 t259)) (fun _ hk => hk.2) (.slice Ao35 t260.length co35)) (fun _ hk => ⟨hk.1.1.1, ⟨hk.1.1.2, hk.1.2⟩⟩)⟩
                have n3_ : Aside0 ((((w32.setCell ⟨gb265, 0, none⟩ (.int .i64 t258)).setCell ⟨gb265, 1, none⟩ (.int .i64 t259)).setCell ⟨gb265, 2, none⟩ (.slice Ao35 t260.length co35)).heap[gb257]? = some (.cells #[.int .i64 x258000_1, .int .i64 x258001_1, .slice Ao30 x258002_1.length co30] 24 (0, 0))) := ⟨by (with_reducible repeat (first | refine blk_drewN ?_ _ | refine blk_drew ?_ | refine blk_alloc ?_ _)); refine blk_far ?_ NB257_265.out _; (with_reducible repeat (first | refine blk_drewN ?_ _ | refine blk_drew ?_ | refine blk_alloc ?_ _)); refine blk_far ?_ NB257_265.out _; (with_reducible repeat (first | refine blk_drewN ?_ _ | refine blk_drew ?_ | refine blk_alloc ?_ _)); refine blk_far ?_ NB257_265.out _; (with_reducible repeat (first | refine blk_drewN ?_ _ | refine blk_drew ?_ | refine blk_alloc ?_ _)); exact BK257.out⟩
                have n4_ : Aside0 ((((w32.setCell ⟨gb265, 0, none⟩ (.int .i64 t258)).setCell ⟨gb265, 1, none⟩ (.int .i64 t259)).setCell ⟨gb265, 2, none⟩ (.slice Ao35 t260.length co35)).heap[gb265]? = some (.cells #[.int .i64 t258, .int .i64 t259, .slice Ao35 t260.length co35] 24 (0, 0))) := ⟨by (with_reducible repeat (first | refine blk_drewN ?_ _ | refine blk_drew ?_ | refine blk_alloc ?_ _)); refine blk_put (cs := #[.int .i64 t258, .int .i64 t259, .slice none 0 0]) ?_ 2 _ rfl; (with_reducible repeat (first | refine blk_drewN ?_ _ | refine blk_drew ?_ | refine blk_alloc ?_ _)); refine blk_put (cs := #[.int .i64 t258, .int .i64 0, .slice none 0 0]) ?_ 1 _ rfl; (with_reducible repeat (first | refine blk_drewN ?_ _ | refine blk_drew ?_ | refine blk_alloc ?_ _)); refine blk_put (cs := #[.int .i64 0, .int .i64 0, .slice none 0 0]) ?_ 0 _ rfl; (with_reducible repeat (first | refine blk_drewN ?_ _ | refine blk_drew ?_ | refine blk_alloc ?_ _)); exact BK265.out⟩
                have n5_ : Aside0 (Below w.heap.size w (((w32.setCell ⟨gb265, 0, none⟩ (.int .i64 t258)).setCell ⟨gb265, 1, none⟩ (.int .i64 t259)).setCell ⟨gb265, 2, none⟩ (.slice Ao35 t260.length co35))) := ⟨by repeat (first | (with_reducible first | exact HB.out | apply below_alloc | apply pw_below_drewN | apply below_drew1 | refine below_set ?_ GE257.out | refine below_set ?_ GE265.out) | exact HB.out)⟩
                (try clear HO_8)
                (try clear HO_258002)
                (try clear HO262)
                (try clear BK257)
                (try clear BK265)
                (try clear HB)
                generalize (((w32.setCell ⟨gb265, 0, none⟩ (.int .i64 t258)).setCell ⟨gb265, 1, none⟩ (.int .i64 t259)).setCell ⟨gb265, 2, none⟩ (.slice Ao35 t260.length co35)) = w36 at n0_ n1_ n2_ n3_ n4_ n5_ ⊢
                have HO_8 := n0_
                have HO_258002 := n1_
                have HO262 := n2_
                have BK257 := n3_
                have BK265 := n4_
                have HB := n5_
                clear n0_ n1_ n2_ n3_ n4_ n5_
                have n0_ := Aside0.mk (Kd.R_drew HO_8.out)
                have n1_ := Aside0.mk (Kd.V_drew HO_258002.out)
                have n2_ := Aside0.mk (Kd.V_drew HO262.out)
                have n3_ := Aside0.mk (blk_drew BK257.out)
                have n4_ := Aside0.mk (blk_drew BK265.out)
                have n5_ := Aside0.mk (below_drew1 HB.out)
                clear HO_8
                clear HO_258002
                clear HO262
                clear BK257
                clear BK265
                clear HB
                have HO_8 := n0_
                have HO_258002 := n1_
                have HO262 := n2_
                have BK257 := n3_
                have BK265 := n4_
                have HB := n5_
                clear n0_ n1_ n2_ n3_ n4_ n5_
                refine start_ (n := 7) (S := fun w' => w'.cell? ⟨gb265, 0, none⟩ = some (.int .i64 t258) ∧ w'.cell? ⟨gb265, 1, none⟩ = some (.int .i64 t259) ∧ w'.cell? ⟨gb265, 2, none⟩ = some (.slice Ao35 t260.length co35)) (ds := []) #[false, false, false, false, false, false, false] (by kernel_rfl) rfl rfl ⟨(blk_cell BK265.out 0).trans rfl, (blk_cell BK265.out 1).trans rfl, (blk_cell BK265.out 2).trans rfl⟩ (fun hHeld => ?_)
                generalize w36.drew = w37 at HO_8 HO_258002 HO262 BK257 BK265 HB hHeld ⊢
                refine pure_ (i := 1) (N := some 58) (v := ?_) (a' := ?_) #[false, true, false, false, false, false, false] rfl rfl (by kernel_rfl) (fun _ _ _ h => h) (Or.inl ⟨by rfl, ?_⟩) ?_ ?_
                rotate_left
                · intro w'
                  go_simp
                  with_reducible rfl
                rotate_left
                · simp only [Act.put, List.setIfInBounds_toArray, List.set_cons_zero, List.set_cons_succ, i64_w, i32_w]
                  rfl
                refine pure_ (i := 2) (N := some 59) (v := ?_) (a' := ?_) #[false, true, true, false, false, false, false] rfl rfl (by kernel_rfl) (fun _ _ _ h => h) (Or.inl ⟨by rfl, ?_⟩) ?_ ?_
                rotate_left
                · intro w'
                  go_simp
                  with_reducible rfl
                rotate_left
                · simp only [Act.put, List.setIfInBounds_toArray, List.set_cons_zero, List.set_cons_succ, i64_w, i32_w]
                  rfl
                refine take_ (i := 0) (N := some 57) (v := ?_) (a' := ?_) #[true, true, true, false, false, false, false] rfl rfl (by kernel_rfl) (fun _ _ _ h => h) (Or.inl ⟨by rfl, ?_⟩) hHeld ?_ ?_
                rotate_left
                · rintro w' ⟨s0, s1, s2⟩
                  go_simp
                  with_reducible rfl
                rotate_left
                · simp only [Act.put, List.setIfInBounds_toArray, List.set_cons_zero, List.set_cons_succ, i64_w, i32_w]
                  rfl
                refine one_ (i := 3) (N := some 60) #[true, true, true, true, false, false, false] rfl rfl (by kernel_rfl) (by decide) (fun K hK => ?_)
                refine value_ (w1 := ?_) (v := ?_) (by rfl) rfl ?_ ?_
                rotate_left 2
                · go_simp
                  constructor
                  · rfl
                  · rfl
                refine hK.out _ _ ⟨(blk_cell (blk_alloc BK265.out _) 0).trans rfl, (blk_cell (blk_alloc BK265.out _) 1).trans rfl, (blk_cell (blk_alloc BK265.out _) 2).trans rfl⟩ (fun hHeld => ?_)
                clear hK K
                refine norm_ (a' := ?_) ?_ ?_
                rotate_left
                · show Act.put _ (some 60) _ = _
                  simp only [Act.put, List.setIfInBounds_toArray, List.set_cons_zero, List.set_cons_succ, i64_w, i32_w]
                  rfl
                refine one_ (i := 4) (N := some 61) #[true, true, true, true, true, false, false] rfl rfl (by kernel_rfl) (by decide) (fun K hK => ?_)
                refine Kd.R_append_step (Kd.int .i64) (w0 := w) w.heap.size (by rfl) (.tmp 58) (.tmp 60) 52 3 (.int .i64 0) 8 rfl Try.underlying52 info3 rfl (by decide) (by omega) u8 x8_1 (wrap64 (1 + (Int.tmod (wrap64 ((wrap64 (a0)) + x33_1)) 8))) [.int .i64 (wrap64 (1 + (Int.tmod (wrap64 ((wrap64 (a0)) + x33_1)) 8)))] (fun _ => True) (fun _ => False) rfl rfl ?aP (fun _ hk => hk.elim) ?aF ?aO ?aB ?aS ?aL ?_
                (case aP => exact rfl)
                (case aB => exact (zc2 HB GE257 GE265))
                (case aF => exact (fun _ _ => trivial))
                (case aO => exact (zR HO_8))
                (case aS => exact (below_size (zc2 HB GE257 GE265)))
                (case aL => have := LMc28.out; omega)
                intro v270 w38 ho hb hg hat
                rw [← Ny269.out] at ho
                have n0_ := Aside0.mk (Kd.V_afterv (ok := (fun k_ => k_ ≠ gb257 ∧ k_ ≠ gb265)) (by (with_reducible repeat (first | apply Kd.V_alloc | apply Kd.V_drewN | apply Kd.V_drew)); exact Kd.V_mono HO_258002.out (fun _ hk => ⟨⟨hk.2.1, hk.2.2⟩, hk.1⟩)) hg hat)
                have n1_ := Aside0.mk (blk_grown (g := gb257) (o := .cells #[.int .i64 x258000_1, .int .i64 x258001_1, .slice Ao30 x258002_1.length co30] 24 (0, 0)) (zb BK257) hg (Kd.R_ne HO_8.out BK257.out (by decide)))
                have n2_ := Aside0.mk (Kd.V_afterv (ok := (fun k_ => k_ ≠ gb257 ∧ k_ ≠ gb265)) (by (with_reducible repeat (first | apply Kd.V_alloc | apply Kd.V_drewN | apply Kd.V_drew)); exact Kd.V_mono HO262.out (fun _ hk => ⟨⟨hk.2.1, hk.2.2⟩, hk.1⟩)) hg hat)
                have n3_ := Aside0.mk (blk_grown (g := gb265) (o := .cells #[.int .i64 t258, .int .i64 t259, .slice Ao35 t260.length co35] 24 (0, 0)) (zb BK265) hg (Kd.R_ne HO_8.out BK265.out (by decide)))
                have n4_ := Aside0.mk (hb)
                have n5_ := Aside0.mk (ho)
                clear HO_258002
                clear BK257
                clear HO262
                clear BK265
                clear HB
                clear HO_8
                have HO_258002 := n0_
                have BK257 := n1_
                have HO262 := n2_
                have BK265 := n3_
                have HB := n4_
                have HO271 := n5_
                clear n0_ n1_ n2_ n3_ n4_ n5_
                clear ho hb hg hat
                refine hK.out _ _ ⟨(blk_cell BK265.out 0).trans rfl, (blk_cell BK265.out 1).trans rfl, (blk_cell BK265.out 2).trans rfl⟩ (fun hHeld => ?_)
                clear hK K
                refine norm_ (a' := ?_) ?_ ?_
                rotate_left
                · show Act.put _ (some 61) _ = _
                  simp only [Act.put, List.setIfInBounds_toArray, List.set_cons_zero, List.set_cons_succ, i64_w, i32_w]
                  rfl
                refine one_ (i := 5) (N := none) #[true, true, true, true, true, true, false] rfl rfl (by kernel_rfl) (by decide) (fun K hK => ?_)
                have hs39 : w38.cell? ⟨gb257, 0, none⟩ = some (.int .i64 x258000_1) := (blk_cell BK257.out 0).trans rfl
                have hfs39 := blk_frozen BK257.out 0
                have hns39_1 := NB265_257.out
                have hms39_1 := NB257_265.out
                have hs40 : w38.cell? ⟨gb257, 1, none⟩ = some (.int .i64 x258001_1) := (blk_cell BK257.out 1).trans rfl
                have hfs40 := blk_frozen BK257.out 1
                have hns40_1 := NB265_257.out
                have hms40_1 := NB257_265.out
                have hs41 : w38.cell? ⟨gb257, 2, none⟩ = some (.slice Ao30 x258002_1.length co30) := (blk_cell BK257.out 2).trans rfl
                have hfs41 := blk_frozen BK257.out 2
                have hns41_1 := NB265_257.out
                have hms41_1 := NB257_265.out
                refine skip_ (w1 := ?_) (by rfl) rfl ?_ ?_
                rotate_left
                · go_simp
                  rfl
                refine hK.out _ _ ⟨((cell_far (p := ⟨gb257, _, none⟩) NB265_257.out _).trans (((cell_far (p := ⟨gb257, _, none⟩) NB265_257.out _).trans (((cell_far (p := ⟨gb257, _, none⟩) NB265_257.out _).trans (hHeld.1)))))), ((cell_far (p := ⟨gb257, _, none⟩) NB265_257.out _).trans (((cell_far (p := ⟨gb257, _, none⟩) NB265_257.out _).trans (((cell_far (p := ⟨gb257, _, none⟩) NB265_257.out _).trans (hHeld.2.1)))))), ((cell_far (p := ⟨gb257, _, none⟩) NB265_257.out _).trans (((cell_far (p := ⟨gb257, _, none⟩) NB265_257.out _).trans (((cell_far (p := ⟨gb257, _, none⟩) NB265_257.out _).trans (hHeld.2.2))))))⟩ (fun hHeld => ?_)
                clear hK K
                refine pure_ (i := 6) (N := some 8) (v := ?_) (a' := ?_) #[true, true, true, true, true, true, true] rfl rfl (by kernel_rfl) (fun _ _ _ h => h) (Or.inl ⟨by rfl, ?_⟩) ?_ ?_
                rotate_left
                · intro w'
                  go_simp
                  with_reducible rfl
                rotate_left
                · simp only [Act.put, List.setIfInBounds_toArray, List.set_cons_zero, List.set_cons_succ, i64_w, i32_w]
                  rfl
                refine done_ (by kernel_rfl) ?_
                try go_wp2
                go_roundg k1
                case measure => have := HK1.out; omega
                case rel => exact ⟨(y269), (wrap64 (x33_1 + 1)), (t258), (t259), (t260), (.slice Ao35 t260.length co35), (by first | rfl | (simp; done) | (simp [*]; done)), H', ⟨by have := HK1.out; omega⟩, ⟨by (with_reducible repeat (first | apply Kd.R_alloc | apply Kd.R_drewN | apply Kd.R_drew)); exact Kd.R_mono (Kd.R_far (p := ⟨gb257, 2, none⟩) (Kd.R_far (p := ⟨gb257, 1, none⟩) (Kd.R_far (p := ⟨gb257, 0, none⟩) (Kd.R_types HO271.out BK257.out (by decide)) (fun _ hk => hk.2) (.int .i64 t258)) (fun _ hk => hk.2) (.int .i64 t259)) (fun _ hk => hk.2) (.slice Ao35 t260.length co35)) (fun _ hk => trivial)⟩, ⟨by (with_reducible repeat (first | apply Kd.V_alloc | apply Kd.V_drewN | apply Kd.V_drew)); exact Kd.V_mono (Kd.V_far (p := ⟨gb257, 2, none⟩) (Kd.V_far (p := ⟨gb257, 1, none⟩) (Kd.V_far (p := ⟨gb257, 0, none⟩) (Kd.V_mono HO262.out (fun k_ hk => (⟨hk, hk.1.1⟩ : _ ∧ k_ ≠ gb257))) (fun _ hk => hk.2) (.int .i64 t258)) (fun _ hk => hk.2) (.int .i64 t259)) (fun _ hk => hk.2) (.slice Ao35 t260.length co35)) (fun _ hk => ⟨hk.1.2, hk.1.1.1⟩)⟩, ⟨by (with_reducible repeat (first | refine blk_drewN ?_ _ | refine blk_drew ?_ | refine blk_alloc ?_ _)); refine blk_put (cs := #[.int .i64 t258, .int .i64 t259, .slice Ao30 x258002_1.length co30]) ?_ 2 _ rfl; (with_reducible repeat (first | refine blk_drewN ?_ _ | refine blk_drew ?_ | refine blk_alloc ?_ _)); refine blk_put (cs := #[.int .i64 t258, .int .i64 x258001_1, .slice Ao30 x258002_1.length co30]) ?_ 1 _ rfl; (with_reducible repeat (first | refine blk_drewN ?_ _ | refine blk_drew ?_ | refine blk_alloc ?_ _)); refine blk_put (cs := #[.int .i64 x258000_1, .int .i64 x258001_1, .slice Ao30 x258002_1.length co30]) ?_ 0 _ rfl; (with_reducible repeat (first | refine blk_drewN ?_ _ | refine blk_drew ?_ | refine blk_alloc ?_ _)); exact BK257.out⟩, ⟨by repeat (first | (with_reducible first | exact HB.out | apply below_alloc | apply pw_below_drewN | apply below_drew1 | refine below_set ?_ GE257.out | refine below_set ?_ GE265.out) | exact HB.out)⟩⟩
              · rw [if_neg c28] at H
                exact absurd H (by simp)
        · rw [if_neg c10] at H
          exact absurd H (by simp)
      · rw [if_neg c8] at H
        have c8b0 : decide (x33_1 < (wrap64 (1 + (wrap64 (Int.tmod a1 8))))) = false := decide_eq_false c8
        clear c8
        have H' := Aside0.mk H
        clear H
        go_wp2
        go_loopg [14] k1 (fun kq v14 w' => ∃ (x14_2 : Int) (x258000_2 : Int) (x258001_2 : Int) (x258002_2 : List (S50)) (u258002 : Value), v14 = .int .i64 x14_2 ∧ Aside0 (handshakerlaw18_SemaLocks.l1 kq (wrap64 (1 + (wrap64 (Int.tmod a1 8)))) t256 x8_1 x14_2 x258000_2 x258001_2 x258002_2 = some r) ∧ Aside0 (kq ≤ k1) ∧ Aside0 (Kd.R (Kd.int .i64) 3 w' w.heap.size (fun _ => True) u8 x8_1) ∧ Aside0 (Kd.V k50 50 w' w.heap.size (fun k_ => some k_ ≠ (u8 : Value).ownBlock ∧ k_ ≠ gb257) u258002 x258002_2) ∧ Aside0 (w'.heap[gb257]? = some (.cells #[.int .i64 x258000_2, .int .i64 x258001_2, u258002] 24 (0, 0))) ∧ Aside0 (Below w.heap.size w w'))
        case atStart => exact ⟨(1), (x258000_1), (x258001_1), (x258002_1), (u258002), (by first | rfl | (simp; done) | (simp [*]; done)), H', ⟨Nat.le_refl _⟩, ⟨by (with_reducible repeat (first | apply Kd.R_alloc | apply Kd.R_drewN | apply Kd.R_drew)); exact HO_8.out⟩, ⟨by (with_reducible repeat (first | apply Kd.V_alloc | apply Kd.V_drewN | apply Kd.V_drew)); exact HO_258002.out⟩, ⟨by (with_reducible repeat (first | refine blk_drewN ?_ _ | refine blk_drew ?_ | refine blk_alloc ?_ _)); exact BK257.out⟩, ⟨by repeat (first | (with_reducible first | exact HB.out | apply below_alloc | apply pw_below_drewN | apply below_drew1 | refine below_set ?_ GE257.out) | exact HB.out)⟩⟩
        case round =>
          clear H'
          try clear c1
          try clear c2
          try clear p2
          try clear c3
          try clear p6
          try clear c7
          try clear c8
          try clear c8b0
          try clear c10
          try clear c10b0
          try clear c10b1
          try clear c11
          try clear c12
          try clear c12b0
          try clear c12b1
          try clear c13
          try clear c17
          try clear c18
          try clear c27
          try clear c27b0
          try clear c27b1
          try clear c28
          try clear c33
          try clear hcz14_0
          try clear hcz14_1
          try clear hcz14_2
          try clear hcz19_0
          try clear hcz19_1
          try clear hcz19_2
          try clear hcz29_0
          try clear hcz29_1
          try clear hcz29_2
          try clear hcz34_0
          try clear hcz34_1
          try clear hcz34_2
          try clear hcz6_0
          try clear hcz6_1
          try clear hcz6_2
          try clear hfz14_0
          try clear hfz14_1
          try clear hfz14_2
          try clear hfz19_0
          try clear hfz19_1
          try clear hfz19_2
          try clear hfz29_0
          try clear hfz29_1
          try clear hfz29_2
          try clear hfz34_0
          try clear hfz34_1
          try clear hfz34_2
          try clear hfz6_0
          try clear hfz6_1
          try clear hfz6_2
          try clear p2
          try clear p6
          obtain ⟨x14_2, x258000_2, x258001_2, x258002_2, u258002, rfl, HA, HK2, HO_8, HO_258002, BK257, HB⟩ := hrel
          cases gk with
          | zero => exact absurd HA.out (by simp [handshakerlaw18_SemaLocks.l1])
          | succ k2 =>
            have H := HA.out
            clear HA
            simp only [handshakerlaw18_SemaLocks.l1] at H
            by_cases c42 : x14_2 < (wrap64 (1 + (wrap64 (Int.tmod a1 8))))
            · rw [if_pos c42] at H
              have c42b0 : decide (x14_2 < (wrap64 (1 + (wrap64 (Int.tmod a1 8))))) = true := decide_eq_true c42
              clear c42
              replace H := Option.bind_eq_some_iff.mp H
              obtain ⟨⟨t272, t273, t274, t277, t280⟩, A430, H⟩ := H
              replace H : (if t280 = 0 then (if (t277.length : Int) = 1 then (if 0 < (t277.length : Int) then (if 0 ≤ x14_2 then (if x14_2 < (x8_1.length : Int) then (if ((rd_T50 t277 0).f0) = (rd x8_1 x14_2) then (if t273 = 0 then (handshakerlaw18_SemaLocks.l1 k2 (wrap64 (1 + (wrap64 (Int.tmod a1 8)))) t256 x8_1 (wrap64 (x14_2 + 1)) t272 t273 t274) else (none)) else (none)) else (none)) else (none)) else (none)) else (none)) else (none)) = some r := H
              have A43 := Aside0.mk A430
              clear A430
              by_cases c44 : t280 = 0
              · rw [if_pos c44] at H
                have c44b0 : (t280 == 0) = true := beq_iff_eq.mpr c44
                have c44b1 : (t280 != 0) = false := bne_eq_false_iff_eq.mpr c44
                clear c44
                by_cases c45 : (t277.length : Int) = 1
                · rw [if_pos c45] at H
                  have c45b0 : ((t277.length : Int) == 1) = true := beq_iff_eq.mpr c45
                  have c45b1 : ((t277.length : Int) != 1) = false := bne_eq_false_iff_eq.mpr c45
                  clear c45
                  by_cases c46 : 0 < (t277.length : Int)
                  · rw [if_pos c46] at H
                    have c46b0 : decide (0 < (t277.length : Int)) = true := decide_eq_true c46
                    have c46b1 : decide (0 < t277.length) = true := decide_eq_true (by omega)
                    clear c46
                    by_cases c47 : 0 ≤ x14_2
                    · rw [if_pos c47] at H
                      have c47b0 : decide (0 ≤ x14_2) = true := decide_eq_true c47
                      clear c47
                      by_cases c48 : x14_2 < (x8_1.length : Int)
                      · rw [if_pos c48] at H
                        have c48b0 : decide (x14_2 < (x8_1.length : Int)) = true := decide_eq_true c48
                        clear c48
                        by_cases c49 : ((rd_T50 t277 0).f0) = (rd x8_1 x14_2)
                        · rw [if_pos c49] at H
                          have c49b0 : (((rd_T50 t277 0).f0) == (rd x8_1 x14_2)) = true := beq_iff_eq.mpr c49
                          have c49b1 : (((rd_T50 t277 0).f0) != (rd x8_1 x14_2)) = false := bne_eq_false_iff_eq.mpr c49
                          clear c49
                          by_cases c50 : t273 = 0
                          · rw [if_pos c50] at H
                            have c50b0 : (t273 == 0) = true := beq_iff_eq.mpr c50
                            have c50b1 : (t273 != 0) = false := bne_eq_false_iff_eq.mpr c50
                            clear c50
                            have H' := Aside0.mk H
                            clear H
                            have hcz51_0 : wr.cell? ⟨gb257, 0, none⟩ = some (.int .i64 x258000_2) := (blk_cell BK257.out 0).trans rfl
                            have hcz51_1 : wr.cell? ⟨gb257, 1, none⟩ = some (.int .i64 x258001_2) := (blk_cell BK257.out 1).trans rfl
                            have hcz51_2 : wr.cell? ⟨gb257, 2, none⟩ = some (u258002) := (blk_cell BK257.out 2).trans rfl
                            have hfz51_0 := blk_frozen BK257.out 0
                            have hfz51_1 := blk_frozen BK257.out 1
                            have hfz51_2 := blk_frozen BK257.out 2
                            obtain ⟨Ao52, co52, eo52⟩ := Kd.V_slice HO_258002.out
                            subst eo52
                            try go_wp2_with (first | ((with_reducible refine gate_callee (f := 13) rfl ?_); refine goesL_ (some 70) rfl rfl Try.func13 (by kernel_rfl) rfl #[.agg #[.int .i64 x258000_2, .int .i64 x258001_2, .slice Ao52 x258002_2.length co52], .int .i64 1] rfl zm ?_; (with_reducible refine (sema_Give.calls k2 x258000_2 x258001_2 (fun k_ => (some k_ ≠ (u8 : Value).ownBlock ∧ k_ ≠ gb257)) _ _ x258002_2 1 t272 t273 t274 t277 t280 _ ?side1 A43.out).mono ?_); (case side1 => exact HO_258002.out); rintro e w53 ⟨v275, v278, rfl, ho0, ho1, hb⟩; refine ⟨_, rfl, ?_⟩; have n0_ := Aside0.mk (Kd.R_below (zR HO_8) hb); have n1_ := Aside0.mk (Kd.V_elder' (zV HO_258002) (Kd.R_base ho1) hb); have n2_ := Aside0.mk (Kd.V_lower (Kd.V_mono (ok' := fun k_ => some k_ ≠ (v278 : Value).ownBlock ∧ some k_ ≠ (u8 : Value).ownBlock ∧ k_ ≠ gb257) ho0 (fun k_ hk_ => ⟨hk_.2, Or.elim hk_.1 (fun hs_ => hs_.1) (fun hn_ => (Kd.fresh' (Kd.R_lt (zR HO_8)) k_ hn_)), Or.elim hk_.1 (fun hs_ => hs_.2) (fun hn_ => (Kd.freshB (g := gb257) (o := .cells #[.int .i64 x258000_2, .int .i64 x258001_2, .slice Ao52 x258002_2.length co52] 24 (0, 0)) (zb BK257) k_ hn_))⟩)) (below_size (zc1 HB GE257))); have n3_ := Aside0.mk (Kd.R_lower (Kd.R_mono (ok' := fun k_ => True) ho1 (fun _ hk_ => trivial)) (below_size (zc1 HB GE257))); have n4_ := Aside0.mk (blk_below (g := gb257) (o := .cells #[.int .i64 x258000_2, .int .i64 x258001_2, .slice Ao52 x258002_2.length co52] 24 (0, 0)) (zb BK257) hb); have n5_ := Aside0.mk (below_step (zc1 HB GE257) hb); clear HO_8; clear HO_258002; clear BK257; clear HB; have HO_8 := n0_; have HO_258002 := n1_; have HO276 := n2_; have HO279 := n3_; have BK257 := n4_; have HB := n5_; clear n0_ n1_ n2_ n3_ n4_ n5_; (try clear hb); (try clear hb2); (try clear hk); (try clear hi); (try clear ho0); (try clear ho1)) | ((with_reducible refine gate_dst (N := 15) rfl ?_); (try (refine gate_guard (by rfl) ?_; dsimp only)); refine box_event ?hg (N := 15) ?hd (cs := #[.int .i64 0, .int .i64 0, .slice none 0 0]) (t := 24) ?hr ?_; (case hd => rfl); (case hg => rfl); (case hr => first | (go_simp; done) | (go_simp; rfl)); intro gb281 hg w54 hbox hb; have n0_ := Aside0.mk (Kd.R_below (zR HO_8) hb); have n1_ := Aside0.mk (Kd.V_below (Kd.V_elderB (zV HO_258002) gb281 (Nat.le_of_eq hg.symm)) hb); have n2_ := Aside0.mk (Kd.V_below (Kd.V_elderB (zV HO276) gb281 (Nat.le_of_eq hg.symm)) hb); have n3_ := Aside0.mk (Kd.R_below (zR HO279) hb); have n4_ := Aside0.mk (blk_below (g := gb257) (o := .cells #[.int .i64 x258000_2, .int .i64 x258001_2, .slice Ao52 x258002_2.length co52] 24 (0, 0)) (zb BK257) hb); have n5_ := Aside0.mk (below_step (zc1 HB GE257) hb); have n6_ := Aside0.mk (hbox); have n7_ := Aside0.mk ((by rw [hg]; exact (below_size (zc1 HB GE257)) : w.heap.size ≤ gb281)); have n8_ := Aside0.mk ((by rw [hg]; exact (below_size (zc1 HB GE257)) : w.heap.size ≤ gb281)); have n9_ := Aside0.mk ((by rw [hg]; exact Nat.ne_of_lt (blk_lt (g := gb257) (o := .cells #[.int .i64 x258000_2, .int .i64 x258001_2, .slice Ao52 x258002_2.length co52] 24 (0, 0)) (zb BK257)) : gb257 ≠ gb281)); have n10_ := Aside0.mk ((by rw [hg]; exact Nat.ne_of_gt (blk_lt (g := gb257) (o := .cells #[.int .i64 x258000_2, .int .i64 x258001_2, .slice Ao52 x258002_2.length co52] 24 (0, 0)) (zb BK257)) : gb281 ≠ gb257)); clear HO_8; clear HO_258002; clear HO276; clear HO279; clear BK257; clear HB; have HO_8 := n0_; have HO_258002 := n1_; have HO276 := n2_; have HO279 := n3_; have BK257 := n4_; have HB := n5_; have BK281 := n6_; have GW281 := n7_; have GE281 := n8_; have NB257_281 := n9_; have NB281_257 := n10_; clear n0_ n1_ n2_ n3_ n4_ n5_ n6_ n7_ n8_ n9_ n10_; clear hb hbox hg; have hnb55 := NB281_257.out; have hnc55 := NB257_281.out; have hcz56_0 : w54.cell? ⟨gb281, 0, none⟩ = some (.int .i64 0) := (blk_cell BK281.out 0).trans rfl; have hcz56_1 : w54.cell? ⟨gb281, 1, none⟩ = some (.int .i64 0) := (blk_cell BK281.out 1).trans rfl; have hcz56_2 : w54.cell? ⟨gb281, 2, none⟩ = some (.slice none 0 0) := (blk_cell BK281.out 2).trans rfl; have hfz56_0 := blk_frozen BK281.out 0; have hfz56_1 := blk_frozen BK281.out 1; have hfz56_2 := blk_frozen BK281.out 2; obtain ⟨Ao57, co57, eo57⟩ := Kd.V_slice HO276.out; subst eo57))
                            have n0_ : Aside0 (Kd.R (Kd.int .i64) 3 (((w54.setCell ⟨gb281, 0, none⟩ (.int .i64 t272)).setCell ⟨gb281, 1, none⟩ (.int .i64 t273)).setCell ⟨gb281, 2, none⟩ (.slice Ao57 t274.length co57)) w.heap.size (fun _ => True) u8 x8_1) := ⟨by (with_reducible repeat (first | apply Kd.R_alloc | apply Kd.R_drewN | apply Kd.R_drew)); exact Kd.R_mono (Kd.R_far (p := ⟨gb281, 2, none⟩) (Kd.R_far (p := ⟨gb281, 1, none⟩) (Kd.R_far (p := ⟨gb281, 0, none⟩) (Kd.R_types HO_8.out BK281.out (by decide)) (fun _ hk => hk.2) (.int .i64 t272)) (fun _ hk => hk.2) (.int .i64 t273)) (fun _ hk => hk.2) (.slice Ao57 t274.length co57)) (fun _ hk => trivial)⟩
                            have n1_ : Aside0 (Kd.V k50 50 (((w54.setCell ⟨gb281, 0, none⟩ (.int .i64 t272)).setCell ⟨gb281, 1, none⟩ (.int .i64 t273)).setCell ⟨gb281, 2, none⟩ (.slice Ao57 t274.length co57)) w.heap.size (fun k_ => some k_ ≠ (u8 : Value).ownBlock ∧ some k_ ≠ (v278 : Value).ownBlock ∧ k_ ≠ gb257 ∧ k_ ≠ gb281) (.slice Ao52 x258002_2.length co52) x258002_2) := ⟨by (with_reducible repeat (first | apply Kd.V_alloc | apply Kd.V_drewN | apply Kd.V_drew)); exact Kd.V_mono (Kd.V_far (p := ⟨gb281, 2, none⟩) (Kd.V_far (p := ⟨gb281, 1, none⟩) (Kd.V_far (p := ⟨gb281, 0, none⟩) (Kd.V_mono HO_258002.out (fun k_ hk => (⟨hk, hk.2⟩ : _ ∧ k_ ≠ gb281))) (fun _ hk => hk.2) (.int .i64 t272)) (fun _ hk => hk.2) (.int .i64 t273)) (fun _ hk => hk.2) (.slice Ao57 t274.length co57)) (fun _ hk => ⟨hk.1.1.1.1, ⟨hk.1.1.2, ⟨hk.1.1.1.2, hk.1.2⟩⟩⟩)⟩
                            have n2_ : Aside0 (Kd.V k50 50 (((w54.setCell ⟨gb281, 0, none⟩ (.int .i64 t272)).setCell ⟨gb281, 1, none⟩ (.int .i64 t273)).setCell ⟨gb281, 2, none⟩ (.slice Ao57 t274.length co57)) w.heap.size (fun k_ => some k_ ≠ (u8 : Value).ownBlock ∧ some k_ ≠ (v278 : Value).ownBlock ∧ k_ ≠ gb257 ∧ k_ ≠ gb281) (.slice Ao57 t274.length co57) t274) := ⟨by (with_reducible repeat (first | apply Kd.V_alloc | apply Kd.V_drewN | apply Kd.V_drew)); exact Kd.V_mono (Kd.V_far (p := ⟨gb281, 2, none⟩) (Kd.V_far (p := ⟨gb281, 1, none⟩) (Kd.V_far (p := ⟨gb281, 0, none⟩) (Kd.V_mono HO276.out (fun k_ hk => (⟨hk, hk.2⟩ : _ ∧ k_ ≠ gb281))) (fun _ hk => hk.2) (.int .i64 t272)) (fun _ hk => hk.2) (.int .i64 t273)) (fun _ hk => hk.2) (.slice Ao57 t274.length co57)) (fun _ hk => ⟨hk.1.1.2.1, ⟨hk.1.1.1, ⟨hk.1.1.2.2, hk.1.2⟩⟩⟩)⟩
                            have n3_ : Aside0 (Kd.R k50 50 (((w54.setCell ⟨gb281, 0, none⟩ (.int .i64 t272)).setCell ⟨gb281, 1, none⟩ (.int .i64 t273)).setCell ⟨gb281, 2, none⟩ (.slice Ao57 t274.length co57)) w.heap.size (fun _ => True) v278 t277) := ⟨by (with_reducible repeat (first | apply Kd.R_alloc | apply Kd.R_drewN | apply Kd.R_drew)); exact Kd.R_mono (Kd.R_far (p := ⟨gb281, 2, none⟩) (Kd.R_far (p := ⟨gb281, 1, none⟩) (Kd.R_far (p := ⟨gb281, 0, none⟩) (Kd.R_types HO279.out BK281.out (by decide)) (fun _ hk => hk.2) (.int .i64 t272)) (fun _ hk => hk.2) (.int .i64 t273)) (fun _ hk => hk.2) (.slice Ao57 t274.length co57)) (fun _ hk => trivial)⟩
                            have n4_ : Aside0 ((((w54.setCell ⟨gb281, 0, none⟩ (.int .i64 t272)).setCell ⟨gb281, 1, none⟩ (.int .i64 t273)).setCell ⟨gb281, 2, none⟩ (.slice Ao57 t274.length co57)).heap[gb257]? = some (.cells #[.int .i64 x258000_2, .int .i64 x258001_2, .slice Ao52 x258002_2.length co52] 24 (0, 0))) := ⟨by (with_reducible repeat (first | refine blk_drewN ?_ _ | refine blk_drew ?_ | refine blk_alloc ?_ _)); refine blk_far ?_ NB257_281.out _; (with_reducible repeat (first | refine blk_drewN ?_ _ | refine blk_drew ?_ | refine blk_alloc ?_ _)); refine blk_far ?_ NB257_281.out _; (with_reducible repeat (first | refine blk_drewN ?_ _ | refine blk_drew ?_ | refine blk_alloc ?_ _)); refine blk_far ?_ NB257_281.out _; (with_reducible repeat (first | refine blk_drewN ?_ _ | refine blk_drew ?_ | refine blk_alloc ?_ _)); exact BK257.out⟩
                            have n5_ : Aside0 ((((w54.setCell ⟨gb281, 0, none⟩ (.int .i64 t272)).setCell ⟨gb281, 1, none⟩ (.int .i64 t273)).setCell ⟨gb281, 2, none⟩ (.slice Ao57 t274.length co57)).heap[gb281]? = some (.cells #[.int .i64 t272, .int .i64 t273, .slice Ao57 t274.length co57] 24 (0, 0))) := ⟨by (with_reducible repeat (first | refine blk_drewN ?_ _ | refine blk_drew ?_ | refine blk_alloc ?_ _)); refine blk_put (cs := #[.int .i64 t272, .int .i64 t273, .slice none 0 0]) ?_ 2 _ rfl; (with_reducible repeat (first | refine blk_drewN ?_ _ | refine blk_drew ?_ | refine blk_alloc ?_ _)); refine blk_put (cs := #[.int .i64 t272, .int .i64 0, .slice none 0 0]) ?_ 1 _ rfl; (with_reducible repeat (first | refine blk_drewN ?_ _ | refine blk_drew ?_ | refine blk_alloc ?_ _)); refine blk_put (cs := #[.int .i64 0, .int .i64 0, .slice none 0 0]) ?_ 0 _ rfl; (with_reducible repeat (first | refine blk_drewN ?_ _ | refine blk_drew ?_ | refine blk_alloc ?_ _)); exact BK281.out⟩
                            have n6_ : Aside0 (Below w.heap.size w (((w54.setCell ⟨gb281, 0, none⟩ (.int .i64 t272)).setCell ⟨gb281, 1, none⟩ (.int .i64 t273)).setCell ⟨gb281, 2, none⟩ (.slice Ao57 t274.length co57))) := ⟨by repeat (first | (with_reducible first | exact HB.out | apply below_alloc | apply pw_below_drewN | apply below_drew1 | refine below_set ?_ GE257.out | refine below_set ?_ GE281.out) | exact HB.out)⟩
                            (try clear HO_8)
                            (try clear HO_258002)
                            (try clear HO276)
                            (try clear HO279)
                            (try clear BK257)
                            (try clear BK281)
                            (try clear HB)
                            generalize (((w54.setCell ⟨gb281, 0, none⟩ (.int .i64 t272)).setCell ⟨gb281, 1, none⟩ (.int .i64 t273)).setCell ⟨gb281, 2, none⟩ (.slice Ao57 t274.length co57)) = w58 at n0_ n1_ n2_ n3_ n4_ n5_ n6_ ⊢
                            have HO_8 := n0_
                            have HO_258002 := n1_
                            have HO276 := n2_
                            have HO279 := n3_
                            have BK257 := n4_
                            have BK281 := n5_
                            have HB := n6_
                            clear n0_ n1_ n2_ n3_ n4_ n5_ n6_
                            have n0_ := Aside0.mk (Kd.R_drew HO_8.out)
                            have n1_ := Aside0.mk (Kd.V_drew HO_258002.out)
                            have n2_ := Aside0.mk (Kd.V_drew HO276.out)
                            have n3_ := Aside0.mk (Kd.R_drew HO279.out)
                            have n4_ := Aside0.mk (blk_drew BK257.out)
                            have n5_ := Aside0.mk (blk_drew BK281.out)
                            have n6_ := Aside0.mk (below_drew1 HB.out)
                            clear HO_8
                            clear HO_258002
                            clear HO276
                            clear HO279
                            clear BK257
                            clear BK281
                            clear HB
                            have HO_8 := n0_
                            have HO_258002 := n1_
                            have HO276 := n2_
                            have HO279 := n3_
                            have BK257 := n4_
                            have BK281 := n5_
                            have HB := n6_
                            clear n0_ n1_ n2_ n3_ n4_ n5_ n6_
                            obtain ⟨Ao60, co60, eo60⟩ := Kd.R_slice HO279.out
                            (first | subst eo60 | (injection eo60 with f1_ f2_ f3_; have f4_ := f1_.symm; have f5_ := f3_.symm; clear f1_ f2_ f3_; subst f4_; subst f5_))
                            have p282 : 0 ≤ (0 : Int) := (by omega)
                            have q282 : 0 < (t277.length : Int) := of_decide_eq_true (by first | (with_reducible assumption) | assumption)
                            obtain ⟨ad282, e282, hx282_0, hx282_1⟩ := at_T50 (Kd.R_reads' HO279.out).2.2 0 p282 q282
                            cases e282
                            have qi282 : (0 < t277.length) = True := eq_true (by omega)
                            (try rw [show ((0 : Int)).toNat = 0 from rfl] at hx282_0)
                            (try rw [show 0 * 2 = 0 from rfl] at hx282_0)
                            (try rw [Addr.add_zero'] at hx282_0)
                            (try rw [show ((0 : Int)).toNat = 0 from rfl] at hx282_1)
                            (try rw [show 0 * 2 = 0 from rfl] at hx282_1)
                            (try rw [Addr.add_zero'] at hx282_1)
                            replace p282 := eq_true p282
                            replace q282 := eq_true q282
                            obtain ⟨Ao61, co61, eo61⟩ := Kd.R_slice HO_8.out
                            (first | subst eo61 | (injection eo61 with f1_ f2_ f3_; have f4_ := f1_.symm; have f5_ := f3_.symm; clear f1_ f2_ f3_; subst f4_; subst f5_))
                            have p283 : 0 ≤ (x14_2 : Int) := of_decide_eq_true (by first | (with_reducible assumption) | assumption)
                            have q283 : x14_2 < (x8_1.length : Int) := of_decide_eq_true (by first | (with_reducible assumption) | assumption)
                            obtain ⟨ad283, e283, hx283_0⟩ := Kd.at_int (Kd.R_reads' HO_8.out).2.2 x14_2 p283 q283
                            cases e283
                            replace p283 := eq_true p283
                            replace q283 := eq_true q283
                            refine start_ (n := 23) (S := fun w' => w'.cell? ⟨gb281, 0, none⟩ = some (.int .i64 t272) ∧ w'.cell? ⟨gb281, 1, none⟩ = some (.int .i64 t273) ∧ w'.cell? ⟨gb281, 2, none⟩ = some (.slice Ao57 t274.length co57) ∧ w'.cell? ad282 = some (.int .i64 ((rd_T50 t277 0).f0)) ∧ w'.cell? ⟨ad282.block, ad282.off + 1, none⟩ = some (.int .i64 ((rd_T50 t277 0).f1)) ∧ w'.cell? (ad283.add (x14_2).toNat) = some (.int .i64 (rd x8_1 x14_2))) (ds := []) #[false, false, false, false, false, false, false, false, false, false, false, false, false, false, false, false, false, false, false, false, false, false, false] (by kernel_rfl) rfl rfl ⟨(blk_cell BK281.out 0).trans rfl, (blk_cell BK281.out 1).trans rfl, (blk_cell BK281.out 2).trans rfl, hx282_0, hx282_1, hx283_0⟩ (fun hHeld => ?_); refine with_tabW handshakerlaw18_SemaLocks.tab17 handshakerlaw18_SemaLocks.bits17 (fun HT_ HW_ => ?_)
                            generalize w58.drew = w59 at HO_8 HO_258002 HO276 HO279 BK257 BK281 HB hx282_0 hx282_1 hx283_0 hHeld ⊢
                            refine pure_ (i := 0) (N := some 74) (v := ?_) (a' := ?_) #[true, false, false, false, false, false, false, false, false, false, false, false, false, false, false, false, false, false, false, false, false, false, false] rfl rfl (any_of HT_.out (by kernel_rfl)) (fun _ _ _ h => h) (Or.inl ⟨by rfl, ?_⟩) ?_ ?_
                            rotate_left
                            · intro w'
                              go_simp
                              with_reducible rfl
                            rotate_left
                            · simp only [Act.put, List.setIfInBounds_toArray, List.set_cons_zero, List.set_cons_succ, i64_w, i32_w]
                              rfl
                            refine pure_ (i := 1) (N := some 75) (v := ?_) (a' := ?_) #[true, true, false, false, false, false, false, false, false, false, false, false, false, false, false, false, false, false, false, false, false, false, false] rfl rfl (any_of HT_.out (by kernel_rfl)) (fun _ _ _ h => h) (Or.inl ⟨by rfl, ?_⟩) ?_ ?_
                            rotate_left
                            · intro w'
                              go_simp
                              with_reducible rfl
                            rotate_left
                            · simp only [Act.put, List.setIfInBounds_toArray, List.set_cons_zero, List.set_cons_succ, i64_w, i32_w]
                              rfl
                            refine pure_ (i := 2) (N := some 76) (v := ?_) (a' := ?_) #[true, true, true, false, false, false, false, false, false, false, false, false, false, false, false, false, false, false, false, false, false, false, false] rfl rfl (any_of HT_.out (by kernel_rfl)) (fun _ _ _ h => h) (Or.inl ⟨by rfl, ?_⟩) ?_ ?_
                            rotate_left
                            · intro w'
                              go_simp
                              with_reducible rfl
                            rotate_left
                            · simp only [Act.put, List.setIfInBounds_toArray, List.set_cons_zero, List.set_cons_succ, i64_w, i32_w]
                              rfl
                            refine pure_ (i := 3) (N := some 77) (v := ?_) (a' := ?_) #[true, true, true, true, false, false, false, false, false, false, false, false, false, false, false, false, false, false, false, false, false, false, false] rfl rfl (any_of HT_.out (by kernel_rfl)) (fun _ _ _ h => h) (Or.inl ⟨by rfl, ?_⟩) ?_ ?_
                            rotate_left
                            · intro w'
                              go_simp
                              with_reducible rfl
                            rotate_left
                            · simp only [Act.put, List.setIfInBounds_toArray, List.set_cons_zero, List.set_cons_succ, i64_w, i32_w]
                              rfl
                            refine pure_ (i := 4) (N := some 78) (v := ?_) (a' := ?_) #[true, true, true, true, true, false, false, false, false, false, false, false, false, false, false, false, false, false, false, false, false, false, false] rfl rfl (any_of HT_.out (by kernel_rfl)) (fun _ _ _ h => h) (Or.inl ⟨by rfl, ?_⟩) ?_ ?_
                            rotate_left
                            · intro w'
                              go_simp
                              with_reducible rfl
                            rotate_left
                            · simp only [Act.put, List.setIfInBounds_toArray, List.set_cons_zero, List.set_cons_succ, i64_w, i32_w]
                              rfl
                            refine pure_ (i := 5) (N := some 79) (v := ?_) (a' := ?_) #[true, true, true, true, true, true, false, false, false, false, false, false, false, false, false, false, false, false, false, false, false, false, false] rfl rfl (any_of HT_.out (by kernel_rfl)) (fun _ _ _ h => h) (Or.inl ⟨by rfl, ?_⟩) ?_ ?_
                            rotate_left
                            · intro w'
                              go_simp
                              with_reducible rfl
                            rotate_left
                            · simp only [Act.put, List.setIfInBounds_toArray, List.set_cons_zero, List.set_cons_succ, i64_w, i32_w]
                              rfl
                            refine pure_ (i := 6) (N := some 80) (v := ?_) (a' := ?_) #[true, true, true, true, true, true, true, false, false, false, false, false, false, false, false, false, false, false, false, false, false, false, false] rfl rfl (any_of HT_.out (by kernel_rfl)) (fun _ _ _ h => h) (Or.inl ⟨by rfl, ?_⟩) ?_ ?_
                            rotate_left
                            · intro w'
                              go_simp
                              with_reducible rfl
                            rotate_left
                            · simp only [Act.put, List.setIfInBounds_toArray, List.set_cons_zero, List.set_cons_succ, i64_w, i32_w]
                              rfl
                            refine pure_ (i := 7) (N := some 81) (v := ?_) (a' := ?_) #[true, true, true, true, true, true, true, true, false, false, false, false, false, false, false, false, false, false, false, false, false, false, false] rfl rfl (any_of HT_.out (by kernel_rfl)) (fun _ _ _ h => h) (Or.inl ⟨by rfl, ?_⟩) ?_ ?_
                            rotate_left
                            · intro w'
                              go_simp
                              with_reducible rfl
                            rotate_left
                            · simp only [Act.put, List.setIfInBounds_toArray, List.set_cons_zero, List.set_cons_succ, i64_w, i32_w]
                              rfl
                            refine pure_ (i := 8) (N := some 82) (v := ?_) (a' := ?_) #[true, true, true, true, true, true, true, true, true, false, false, false, false, false, false, false, false, false, false, false, false, false, false] rfl rfl (any_of HT_.out (by kernel_rfl)) (fun _ _ _ h => h) (Or.inl ⟨by rfl, ?_⟩) ?_ ?_
                            rotate_left
                            · intro w'
                              go_simp
                              with_reducible rfl
                            rotate_left
                            · simp only [Act.put, List.setIfInBounds_toArray, List.set_cons_zero, List.set_cons_succ, i64_w, i32_w]
                              rfl
                            refine pure_ (i := 9) (N := some 83) (v := ?_) (a' := ?_) #[true, true, true, true, true, true, true, true, true, true, false, false, false, false, false, false, false, false, false, false, false, false, false] rfl rfl (any_of HT_.out (by kernel_rfl)) (fun _ _ _ h => h) (Or.inl ⟨by rfl, ?_⟩) ?_ ?_
                            rotate_left
                            · intro w'
                              go_simp
                              with_reducible rfl
                            rotate_left
                            · simp only [Act.put, List.setIfInBounds_toArray, List.set_cons_zero, List.set_cons_succ, i64_w, i32_w]
                              rfl
                            refine pure_ (i := 10) (N := some 84) (v := ?_) (a' := ?_) #[true, true, true, true, true, true, true, true, true, true, true, false, false, false, false, false, false, false, false, false, false, false, false] rfl rfl (any_of HT_.out (by kernel_rfl)) (fun _ _ _ h => h) (Or.inl ⟨by rfl, ?_⟩) ?_ ?_
                            rotate_left
                            · intro w'
                              go_simp
                              with_reducible rfl
                            rotate_left
                            · simp only [Act.put, List.setIfInBounds_toArray, List.set_cons_zero, List.set_cons_succ, i64_w, i32_w]
                              rfl
                            refine pure_ (i := 12) (N := some 86) (v := ?_) (a' := ?_) #[true, true, true, true, true, true, true, true, true, true, true, false, true, false, false, false, false, false, false, false, false, false, false] rfl rfl (any_of HT_.out (by kernel_rfl)) (fun _ _ _ h => h) (Or.inl ⟨by rfl, ?_⟩) ?_ ?_
                            rotate_left
                            · intro w'
                              go_simp
                              with_reducible rfl
                            rotate_left
                            · simp only [Act.put, List.setIfInBounds_toArray, List.set_cons_zero, List.set_cons_succ, i64_w, i32_w]
                              rfl
                            refine pure_ (i := 13) (N := some 87) (v := ?_) (a' := ?_) #[true, true, true, true, true, true, true, true, true, true, true, false, true, true, false, false, false, false, false, false, false, false, false] rfl rfl (any_of HT_.out (by kernel_rfl)) (fun _ _ _ h => h) (Or.inl ⟨by rfl, ?_⟩) ?_ ?_
                            rotate_left
                            · intro w'
                              go_simp
                              with_reducible rfl
                            rotate_left
                            · simp only [Act.put, List.setIfInBounds_toArray, List.set_cons_zero, List.set_cons_succ, i64_w, i32_w]
                              rfl
                            refine pure_ (i := 14) (N := some 88) (v := ?_) (a' := ?_) #[true, true, true, true, true, true, true, true, true, true, true, false, true, true, true, false, false, false, false, false, false, false, false] rfl rfl (any_of HT_.out (by kernel_rfl)) (fun _ _ _ h => h) (Or.inl ⟨by rfl, ?_⟩) ?_ ?_
                            rotate_left
                            · intro w'
                              go_simp
                              with_reducible rfl
                            rotate_left
                            · simp only [Act.put, List.setIfInBounds_toArray, List.set_cons_zero, List.set_cons_succ, i64_w, i32_w]
                              rfl
                            refine take_ (i := 11) (N := some 85) (v := ?_) (a' := ?_) #[true, true, true, true, true, true, true, true, true, true, true, true, true, true, true, false, false, false, false, false, false, false, false] rfl rfl (take_ofW HT_.out HW_.out (by kernel_rfl)) (fun _ _ _ h => h) (Or.inl ⟨by rfl, ?_⟩) hHeld ?_ ?_
                            rotate_left
                            · rintro w' ⟨s0, s1, s2, s3, s4, s5⟩
                              go_simp
                              with_reducible rfl
                            rotate_left
                            · simp only [Act.put, List.setIfInBounds_toArray, List.set_cons_zero, List.set_cons_succ, i64_w, i32_w]
                              rfl
                            refine take_ (i := 15) (N := some 89) (v := ?_) (a' := ?_) #[true, true, true, true, true, true, true, true, true, true, true, true, true, true, true, true, false, false, false, false, false, false, false] rfl rfl (take_ofW HT_.out HW_.out (by kernel_rfl)) (fun _ _ _ h => h) (Or.inl ⟨by rfl, ?_⟩) hHeld ?_ ?_
                            rotate_left
                            · rintro w' ⟨s0, s1, s2, s3, s4, s5⟩
                              go_simp
                              with_reducible rfl
                            rotate_left
                            · simp only [Act.put, List.setIfInBounds_toArray, List.set_cons_zero, List.set_cons_succ, i64_w, i32_w]
                              rfl
                            refine pure_ (i := 16) (N := some 90) (v := ?_) (a' := ?_) #[true, true, true, true, true, true, true, true, true, true, true, true, true, true, true, true, true, false, false, false, false, false, false] rfl rfl (any_of HT_.out (by kernel_rfl)) (fun _ _ _ h => h) (Or.inl ⟨by rfl, ?_⟩) ?_ ?_
                            rotate_left
                            · intro w'
                              go_simp
                              with_reducible rfl
                            rotate_left
                            · simp only [Act.put, List.setIfInBounds_toArray, List.set_cons_zero, List.set_cons_succ, i64_w, i32_w]
                              rfl
                            refine pure_ (i := 17) (N := some 91) (v := ?_) (a' := ?_) #[true, true, true, true, true, true, true, true, true, true, true, true, true, true, true, true, true, true, false, false, false, false, false] rfl rfl (any_of HT_.out (by kernel_rfl)) (fun _ _ _ h => h) (Or.inl ⟨by rfl, ?_⟩) ?_ ?_
                            rotate_left
                            · intro w'
                              go_simp
                              with_reducible rfl
                            rotate_left
                            · simp only [Act.put, List.setIfInBounds_toArray, List.set_cons_zero, List.set_cons_succ, i64_w, i32_w]
                              rfl
                            refine pure_ (i := 18) (N := some 92) (v := ?_) (a' := ?_) #[true, true, true, true, true, true, true, true, true, true, true, true, true, true, true, true, true, true, true, false, false, false, false] rfl rfl (any_of HT_.out (by kernel_rfl)) (fun _ _ _ h => h) (Or.inl ⟨by rfl, ?_⟩) ?_ ?_
                            rotate_left
                            · intro w'
                              go_simp
                              with_reducible rfl
                            rotate_left
                            · simp only [Act.put, List.setIfInBounds_toArray, List.set_cons_zero, List.set_cons_succ, i64_w, i32_w]
                              rfl
                            refine pure_ (i := 19) (N := some 93) (v := ?_) (a' := ?_) #[true, true, true, true, true, true, true, true, true, true, true, true, true, true, true, true, true, true, true, true, false, false, false] rfl rfl (any_of HT_.out (by kernel_rfl)) (fun _ _ _ h => h) (Or.inl ⟨by rfl, ?_⟩) ?_ ?_
                            rotate_left
                            · intro w'
                              go_simp
                              with_reducible rfl
                            rotate_left
                            · simp only [Act.put, List.setIfInBounds_toArray, List.set_cons_zero, List.set_cons_succ, i64_w, i32_w]
                              rfl
                            refine take_ (i := 20) (N := some 94) (v := ?_) (a' := ?_) #[true, true, true, true, true, true, true, true, true, true, true, true, true, true, true, true, true, true, true, true, true, false, false] rfl rfl (take_ofW HT_.out HW_.out (by kernel_rfl)) (fun _ _ _ h => h) (Or.inl ⟨by rfl, ?_⟩) hHeld ?_ ?_
                            rotate_left
                            · rintro w' ⟨s0, s1, s2, s3, s4, s5⟩
                              go_simp
                              with_reducible rfl
                            rotate_left
                            · simp only [Act.put, List.setIfInBounds_toArray, List.set_cons_zero, List.set_cons_succ, i64_w, i32_w]
                              rfl
                            refine pure_ (i := 21) (N := some 95) (v := ?_) (a' := ?_) #[true, true, true, true, true, true, true, true, true, true, true, true, true, true, true, true, true, true, true, true, true, true, false] rfl rfl (any_of HT_.out (by kernel_rfl)) (fun _ _ _ h => h) (Or.inl ⟨by rfl, ?_⟩) ?_ ?_
                            rotate_left
                            · intro w'
                              go_simp
                              with_reducible rfl
                            rotate_left
                            · simp only [Act.put, List.setIfInBounds_toArray, List.set_cons_zero, List.set_cons_succ, i64_w, i32_w]
                              rfl
                            refine pure_ (i := 22) (N := some 96) (v := ?_) (a' := ?_) #[true, true, true, true, true, true, true, true, true, true, true, true, true, true, true, true, true, true, true, true, true, true, true] rfl rfl (any_of HT_.out (by kernel_rfl)) (fun _ _ _ h => h) (Or.inl ⟨by rfl, ?_⟩) ?_ ?_
                            rotate_left
                            · intro w'
                              go_simp
                              with_reducible rfl
                            rotate_left
                            · simp only [Act.put, List.setIfInBounds_toArray, List.set_cons_zero, List.set_cons_succ, i64_w, i32_w]
                              rfl
                            refine done_ (done_of HT_.out (by kernel_rfl)) ?_
                            have hcz62_0 : w59.cell? ⟨gb281, 0, none⟩ = some (.int .i64 t272) := (blk_cell BK281.out 0).trans rfl
                            have hcz62_1 : w59.cell? ⟨gb281, 1, none⟩ = some (.int .i64 t273) := (blk_cell BK281.out 1).trans rfl
                            have hcz62_2 : w59.cell? ⟨gb281, 2, none⟩ = some (.slice Ao57 t274.length co57) := (blk_cell BK281.out 2).trans rfl
                            have hfz62_0 := blk_frozen BK281.out 0
                            have hfz62_1 := blk_frozen BK281.out 1
                            have hfz62_2 := blk_frozen BK281.out 2
                            have hcz63_0 : w59.cell? ⟨gb257, 0, none⟩ = some (.int .i64 x258000_2) := (blk_cell BK257.out 0).trans rfl
                            have hcz63_1 : w59.cell? ⟨gb257, 1, none⟩ = some (.int .i64 x258001_2) := (blk_cell BK257.out 1).trans rfl
                            have hcz63_2 : w59.cell? ⟨gb257, 2, none⟩ = some (.slice Ao52 x258002_2.length co52) := (blk_cell BK257.out 2).trans rfl
                            have hfz63_0 := blk_frozen BK257.out 0
                            have hfz63_1 := blk_frozen BK257.out 1
                            have hfz63_2 := blk_frozen BK257.out 2
                            try go_wp2
                            go_roundg k2
                            case measure => have := HK1.out; have := HK2.out; omega
                            case rel => exact ⟨(wrap64 (x14_2 + 1)), (t272), (t273), (t274), (.slice Ao57 t274.length co57), (by first | rfl | (simp; done) | (simp [*]; done)), H', ⟨by have := HK1.out; have := HK2.out; omega⟩, ⟨by (with_reducible repeat (first | apply Kd.R_alloc | apply Kd.R_drewN | apply Kd.R_drew)); exact Kd.R_mono (Kd.R_far (p := ⟨gb257, 2, none⟩) (Kd.R_far (p := ⟨gb257, 1, none⟩) (Kd.R_far (p := ⟨gb257, 0, none⟩) (Kd.R_types HO_8.out BK257.out (by decide)) (fun _ hk => hk.2) (.int .i64 t272)) (fun _ hk => hk.2) (.int .i64 t273)) (fun _ hk => hk.2) (.slice Ao57 t274.length co57)) (fun _ hk => trivial)⟩, ⟨by (with_reducible repeat (first | apply Kd.V_alloc | apply Kd.V_drewN | apply Kd.V_drew)); exact Kd.V_mono (Kd.V_far (p := ⟨gb257, 2, none⟩) (Kd.V_far (p := ⟨gb257, 1, none⟩) (Kd.V_far (p := ⟨gb257, 0, none⟩) (Kd.V_mono HO276.out (fun k_ hk => (⟨hk, hk.2.2.1⟩ : _ ∧ k_ ≠ gb257))) (fun _ hk => hk.2) (.int .i64 t272)) (fun _ hk => hk.2) (.int .i64 t273)) (fun _ hk => hk.2) (.slice Ao57 t274.length co57)) (fun _ hk => ⟨hk.1.1, hk.1.2.2.1⟩)⟩, ⟨by (with_reducible repeat (first | refine blk_drewN ?_ _ | refine blk_drew ?_ | refine blk_alloc ?_ _)); refine blk_put (cs := #[.int .i64 t272, .int .i64 t273, .slice Ao52 x258002_2.length co52]) ?_ 2 _ rfl; (with_reducible repeat (first | refine blk_drewN ?_ _ | refine blk_drew ?_ | refine blk_alloc ?_ _)); refine blk_put (cs := #[.int .i64 t272, .int .i64 x258001_2, .slice Ao52 x258002_2.length co52]) ?_ 1 _ rfl; (with_reducible repeat (first | refine blk_drewN ?_ _ | refine blk_drew ?_ | refine blk_alloc ?_ _)); refine blk_put (cs := #[.int .i64 x258000_2, .int .i64 x258001_2, .slice Ao52 x258002_2.length co52]) ?_ 0 _ rfl; (with_reducible repeat (first | refine blk_drewN ?_ _ | refine blk_drew ?_ | refine blk_alloc ?_ _)); exact BK257.out⟩, ⟨by repeat (first | (with_reducible first | exact HB.out | apply below_alloc | apply pw_below_drewN | apply below_drew1 | refine below_set ?_ GE257.out | refine below_set ?_ GE281.out) | exact HB.out)⟩⟩
                          · rw [if_neg c50] at H
                            exact absurd H (by simp)
                        · rw [if_neg c49] at H
                          exact absurd H (by simp)
                      · rw [if_neg c48] at H
                        exact absurd H (by simp)
                    · rw [if_neg c47] at H
                      exact absurd H (by simp)
                  · rw [if_neg c46] at H
                    exact absurd H (by simp)
                · rw [if_neg c45] at H
                  exact absurd H (by simp)
              · rw [if_neg c44] at H
                exact absurd H (by simp)
            · rw [if_neg c42] at H
              have c42b0 : decide (x14_2 < (wrap64 (1 + (wrap64 (Int.tmod a1 8))))) = false := decide_eq_false c42
              clear c42
              replace H := Option.bind_eq_some_iff.mp H
              obtain ⟨⟨t284, t285, t286, t289, t292⟩, A640, H⟩ := H
              replace H : ((sema_Give.f k2 t284 t285 t286 1).bind fun bt294 => (if t256 = 0 then (if t292 = 0 then (if (t289.length : Int) = 0 then (if t285 = 1 then (if bt294.2.2.2.2 = 4 then ((handshakerlaw18_awake.f k2).bind fun t304 => (some t304)) else (none)) else (none)) else (none)) else (none)) else (none))) = some r := H
              have A64 := Aside0.mk A640
              clear A640
              replace H := Option.bind_eq_some_iff.mp H
              obtain ⟨⟨t294, t295, t296, t299, t302⟩, A650, H⟩ := H
              replace H : (if t256 = 0 then (if t292 = 0 then (if (t289.length : Int) = 0 then (if t285 = 1 then (if t302 = 4 then ((handshakerlaw18_awake.f k2).bind fun t304 => (some t304)) else (none)) else (none)) else (none)) else (none)) else (none)) = some r := H
              have A65 := Aside0.mk A650
              clear A650
              by_cases c66 : t256 = 0
              · rw [if_pos c66] at H
                have c66b0 : (t256 == 0) = true := beq_iff_eq.mpr c66
                have c66b1 : (t256 != 0) = false := bne_eq_false_iff_eq.mpr c66
                clear c66
                by_cases c67 : t292 = 0
                · rw [if_pos c67] at H
                  have c67b0 : (t292 == 0) = true := beq_iff_eq.mpr c67
                  have c67b1 : (t292 != 0) = false := bne_eq_false_iff_eq.mpr c67
                  clear c67
                  by_cases c68 : (t289.length : Int) = 0
                  · rw [if_pos c68] at H
                    have c68b0 : ((t289.length : Int) == 0) = true := beq_iff_eq.mpr c68
                    have c68b1 : ((t289.length : Int) != 0) = false := bne_eq_false_iff_eq.mpr c68
                    clear c68
                    by_cases c69 : t285 = 1
                    · rw [if_pos c69] at H
                      have c69b0 : (t285 == 1) = true := beq_iff_eq.mpr c69
                      have c69b1 : (t285 != 1) = false := bne_eq_false_iff_eq.mpr c69
                      clear c69
                      by_cases c70 : t302 = 4
                      · rw [if_pos c70] at H
                        have c70b0 : (t302 == 4) = true := beq_iff_eq.mpr c70
                        have c70b1 : (t302 != 4) = false := bne_eq_false_iff_eq.mpr c70
                        clear c70
                        replace H := Option.bind_eq_some_iff.mp H
                        obtain ⟨t304, A710, H⟩ := H
                        replace H : (some t304) = some r := H
                        have A71 := Aside0.mk A710
                        clear A710
                        obtain rfl := Option.some.inj H
                        have hcz72_0 : wr.cell? ⟨gb257, 0, none⟩ = some (.int .i64 x258000_2) := (blk_cell BK257.out 0).trans rfl
                        have hcz72_1 : wr.cell? ⟨gb257, 1, none⟩ = some (.int .i64 x258001_2) := (blk_cell BK257.out 1).trans rfl
                        have hcz72_2 : wr.cell? ⟨gb257, 2, none⟩ = some (u258002) := (blk_cell BK257.out 2).trans rfl
                        have hfz72_0 := blk_frozen BK257.out 0
                        have hfz72_1 := blk_frozen BK257.out 1
                        have hfz72_2 := blk_frozen BK257.out 2
                        obtain ⟨Ao73, co73, eo73⟩ := Kd.V_slice HO_258002.out
                        subst eo73
                        go_wp2_with (first | ((with_reducible refine gate_callee (f := 13) rfl ?_); refine goesL_ (some 100) rfl rfl Try.func13 (by kernel_rfl) rfl #[.agg #[.int .i64 x258000_2, .int .i64 x258001_2, .slice Ao73 x258002_2.length co73], .int .i64 1] rfl zm ?_; (with_reducible refine (sema_Give.calls k2 x258000_2 x258001_2 (fun k_ => (some k_ ≠ (u8 : Value).ownBlock ∧ k_ ≠ gb257)) _ _ x258002_2 1 t284 t285 t286 t289 t292 _ ?side1 A64.out).mono ?_); (case side1 => exact HO_258002.out); rintro e w74 ⟨v287, v290, rfl, ho0, ho1, hb⟩; refine ⟨_, rfl, ?_⟩; have n0_ := Aside0.mk (Kd.R_below (zR HO_8) hb); have n1_ := Aside0.mk (Kd.V_elder' (zV HO_258002) (Kd.R_base ho1) hb); have n2_ := Aside0.mk (Kd.V_lower (Kd.V_mono (ok' := fun k_ => some k_ ≠ (v290 : Value).ownBlock ∧ some k_ ≠ (u8 : Value).ownBlock ∧ k_ ≠ gb257) ho0 (fun k_ hk_ => ⟨hk_.2, Or.elim hk_.1 (fun hs_ => hs_.1) (fun hn_ => (Kd.fresh' (Kd.R_lt (zR HO_8)) k_ hn_)), Or.elim hk_.1 (fun hs_ => hs_.2) (fun hn_ => (Kd.freshB (g := gb257) (o := .cells #[.int .i64 x258000_2, .int .i64 x258001_2, .slice Ao73 x258002_2.length co73] 24 (0, 0)) (zb BK257) k_ hn_))⟩)) (below_size (zc1 HB GE257))); have n3_ := Aside0.mk (Kd.R_lower (Kd.R_mono (ok' := fun k_ => True) ho1 (fun _ hk_ => trivial)) (below_size (zc1 HB GE257))); have n4_ := Aside0.mk (blk_below (g := gb257) (o := .cells #[.int .i64 x258000_2, .int .i64 x258001_2, .slice Ao73 x258002_2.length co73] 24 (0, 0)) (zb BK257) hb); have n5_ := Aside0.mk (below_step (zc1 HB GE257) hb); clear HO_8; clear HO_258002; clear BK257; clear HB; have HO_8 := n0_; have HO_258002 := n1_; have HO288 := n2_; have HO291 := n3_; have BK257 := n4_; have HB := n5_; clear n0_ n1_ n2_ n3_ n4_ n5_; (try clear hb); (try clear hb2); (try clear hk); (try clear hi); (try clear ho0); (try clear ho1)) | ((with_reducible refine gate_dst (N := 18) rfl ?_); (try (refine gate_guard (by rfl) ?_; dsimp only)); refine box_event ?hg (N := 18) ?hd (cs := #[.int .i64 0, .int .i64 0, .slice none 0 0]) (t := 24) ?hr ?_; (case hd => rfl); (case hg => rfl); (case hr => first | (go_simp; done) | (go_simp; rfl)); intro gb293 hg w75 hbox hb; have n0_ := Aside0.mk (Kd.R_below (zR HO_8) hb); have n1_ := Aside0.mk (Kd.V_below (Kd.V_elderB (zV HO_258002) gb293 (Nat.le_of_eq hg.symm)) hb); have n2_ := Aside0.mk (Kd.V_below (Kd.V_elderB (zV HO288) gb293 (Nat.le_of_eq hg.symm)) hb); have n3_ := Aside0.mk (Kd.R_below (zR HO291) hb); have n4_ := Aside0.mk (blk_below (g := gb257) (o := .cells #[.int .i64 x258000_2, .int .i64 x258001_2, .slice Ao73 x258002_2.length co73] 24 (0, 0)) (zb BK257) hb); have n5_ := Aside0.mk (below_step (zc1 HB GE257) hb); have n6_ := Aside0.mk (hbox); have n7_ := Aside0.mk ((by rw [hg]; exact (below_size (zc1 HB GE257)) : w.heap.size ≤ gb293)); have n8_ := Aside0.mk ((by rw [hg]; exact (below_size (zc1 HB GE257)) : w.heap.size ≤ gb293)); have n9_ := Aside0.mk ((by rw [hg]; exact Nat.ne_of_lt (blk_lt (g := gb257) (o := .cells #[.int .i64 x258000_2, .int .i64 x258001_2, .slice Ao73 x258002_2.length co73] 24 (0, 0)) (zb BK257)) : gb257 ≠ gb293)); have n10_ := Aside0.mk ((by rw [hg]; exact Nat.ne_of_gt (blk_lt (g := gb257) (o := .cells #[.int .i64 x258000_2, .int .i64 x258001_2, .slice Ao73 x258002_2.length co73] 24 (0, 0)) (zb BK257)) : gb293 ≠ gb257)); clear HO_8; clear HO_258002; clear HO288; clear HO291; clear BK257; clear HB; have HO_8 := n0_; have HO_258002 := n1_; have HO288 := n2_; have HO291 := n3_; have BK257 := n4_; have HB := n5_; have BK293 := n6_; have GW293 := n7_; have GE293 := n8_; have NB257_293 := n9_; have NB293_257 := n10_; clear n0_ n1_ n2_ n3_ n4_ n5_ n6_ n7_ n8_ n9_ n10_; clear hb hbox hg; have hnb76 := NB293_257.out; have hnc76 := NB257_293.out; have hcz77_0 : w75.cell? ⟨gb293, 0, none⟩ = some (.int .i64 0) := (blk_cell BK293.out 0).trans rfl; have hcz77_1 : w75.cell? ⟨gb293, 1, none⟩ = some (.int .i64 0) := (blk_cell BK293.out 1).trans rfl; have hcz77_2 : w75.cell? ⟨gb293, 2, none⟩ = some (.slice none 0 0) := (blk_cell BK293.out 2).trans rfl; have hfz77_0 := blk_frozen BK293.out 0; have hfz77_1 := blk_frozen BK293.out 1; have hfz77_2 := blk_frozen BK293.out 2; obtain ⟨Ao78, co78, eo78⟩ := Kd.V_slice HO288.out; subst eo78) | ((with_reducible refine gate_store (t := 24) (p := 18) rfl ?_); refine store_event (t := 24) (p := 18) (v := ?vo_w79) (w1 := (((w75.setCell ⟨gb293, 0, none⟩ (.int .i64 t284)).setCell ⟨gb293, 1, none⟩ (.int .i64 t285)).setCell ⟨gb293, 2, none⟩ (.slice Ao78 t286.length co78))) ?hg ?ho ?hn ?hr ?_; (case ho => rfl); (case hg => rfl); (case hn => rfl); (case hr => first | (go_simp; done) | (go_simp; rfl)); intro w79 hw; have n0_ : Aside0 (Kd.R (Kd.int .i64) 3 w79 w.heap.size (fun _ => True) u8 x8_1) := ⟨(by rw [hw]; exact (by (with_reducible repeat (first | apply Kd.R_alloc | apply Kd.R_drewN | apply Kd.R_drew)); exact Kd.R_mono (Kd.R_far (p := ⟨gb293, 2, none⟩) (Kd.R_far (p := ⟨gb293, 1, none⟩) (Kd.R_far (p := ⟨gb293, 0, none⟩) (Kd.R_types HO_8.out BK293.out (by decide)) (fun _ hk => hk.2) (.int .i64 t284)) (fun _ hk => hk.2) (.int .i64 t285)) (fun _ hk => hk.2) (.slice Ao78 t286.length co78)) (fun _ hk => trivial)))⟩; have n1_ : Aside0 (Kd.V k50 50 w79 w.heap.size (fun k_ => some k_ ≠ (u8 : Value).ownBlock ∧ some k_ ≠ (v290 : Value).ownBlock ∧ k_ ≠ gb257 ∧ k_ ≠ gb293) (.slice Ao73 x258002_2.length co73) x258002_2) := ⟨(by rw [hw]; exact (by (with_reducible repeat (first | apply Kd.V_alloc | apply Kd.V_drewN | apply Kd.V_drew)); exact Kd.V_mono (Kd.V_far (p := ⟨gb293, 2, none⟩) (Kd.V_far (p := ⟨gb293, 1, none⟩) (Kd.V_far (p := ⟨gb293, 0, none⟩) (Kd.V_mono HO_258002.out (fun k_ hk => (⟨hk, hk.2⟩ : _ ∧ k_ ≠ gb293))) (fun _ hk => hk.2) (.int .i64 t284)) (fun _ hk => hk.2) (.int .i64 t285)) (fun _ hk => hk.2) (.slice Ao78 t286.length co78)) (fun _ hk => ⟨hk.1.1.1.1, ⟨hk.1.1.2, ⟨hk.1.1.1.2, hk.1.2⟩⟩⟩)))⟩; have n2_ : Aside0 (Kd.V k50 50 w79 w.heap.size (fun k_ => some k_ ≠ (u8 : Value).ownBlock ∧ some k_ ≠ (v290 : Value).ownBlock ∧ k_ ≠ gb257 ∧ k_ ≠ gb293) (.slice Ao78 t286.length co78) t286) := ⟨(by rw [hw]; exact (by (with_reducible repeat (first | apply Kd.V_alloc | apply Kd.V_drewN | apply Kd.V_drew)); exact Kd.V_mono (Kd.V_far (p := ⟨gb293, 2, none⟩) (Kd.V_far (p := ⟨gb293, 1, none⟩) (Kd.V_far (p := ⟨gb293, 0, none⟩) (Kd.V_mono HO288.out (fun k_ hk => (⟨hk, hk.2⟩ : _ ∧ k_ ≠ gb293))) (fun _ hk => hk.2) (.int .i64 t284)) (fun _ hk => hk.2) (.int .i64 t285)) (fun _ hk => hk.2) (.slice Ao78 t286.length co78)) (fun _ hk => ⟨hk.1.1.2.1, ⟨hk.1.1.1, ⟨hk.1.1.2.2, hk.1.2⟩⟩⟩)))⟩; have n3_ : Aside0 (Kd.R k50 50 w79 w.heap.size (fun _ => True) v290 t289) := ⟨(by rw [hw]; exact (by (with_reducible repeat (first | apply Kd.R_alloc | apply Kd.R_drewN | apply Kd.R_drew)); exact Kd.R_mono (Kd.R_far (p := ⟨gb293, 2, none⟩) (Kd.R_far (p := ⟨gb293, 1, none⟩) (Kd.R_far (p := ⟨gb293, 0, none⟩) (Kd.R_types HO291.out BK293.out (by decide)) (fun _ hk => hk.2) (.int .i64 t284)) (fun _ hk => hk.2) (.int .i64 t285)) (fun _ hk => hk.2) (.slice Ao78 t286.length co78)) (fun _ hk => trivial)))⟩; have n4_ : Aside0 (w79.heap[gb257]? = some (.cells #[.int .i64 x258000_2, .int .i64 x258001_2, .slice Ao73 x258002_2.length co73] 24 (0, 0))) := ⟨(by rw [hw]; exact (by (with_reducible repeat (first | refine blk_drewN ?_ _ | refine blk_drew ?_ | refine blk_alloc ?_ _)); refine blk_far ?_ NB257_293.out _; (with_reducible repeat (first | refine blk_drewN ?_ _ | refine blk_drew ?_ | refine blk_alloc ?_ _)); refine blk_far ?_ NB257_293.out _; (with_reducible repeat (first | refine blk_drewN ?_ _ | refine blk_drew ?_ | refine blk_alloc ?_ _)); refine blk_far ?_ NB257_293.out _; (with_reducible repeat (first | refine blk_drewN ?_ _ | refine blk_drew ?_ | refine blk_alloc ?_ _)); exact BK257.out))⟩; have n5_ : Aside0 (w79.heap[gb293]? = some (.cells #[.int .i64 t284, .int .i64 t285, .slice Ao78 t286.length co78] 24 (0, 0))) := ⟨(by rw [hw]; exact (by (with_reducible repeat (first | refine blk_drewN ?_ _ | refine blk_drew ?_ | refine blk_alloc ?_ _)); refine blk_put (cs := #[.int .i64 t284, .int .i64 t285, .slice none 0 0]) ?_ 2 _ rfl; (with_reducible repeat (first | refine blk_drewN ?_ _ | refine blk_drew ?_ | refine blk_alloc ?_ _)); refine blk_put (cs := #[.int .i64 t284, .int .i64 0, .slice none 0 0]) ?_ 1 _ rfl; (with_reducible repeat (first | refine blk_drewN ?_ _ | refine blk_drew ?_ | refine blk_alloc ?_ _)); refine blk_put (cs := #[.int .i64 0, .int .i64 0, .slice none 0 0]) ?_ 0 _ rfl; (with_reducible repeat (first | refine blk_drewN ?_ _ | refine blk_drew ?_ | refine blk_alloc ?_ _)); exact BK293.out))⟩; have n6_ : Aside0 (Below w.heap.size w w79) := ⟨(by rw [hw]; exact (zc2 HB GE257 GE293))⟩; clear hw; clear HO_8; clear HO_258002; clear HO288; clear HO291; clear BK257; clear BK293; clear HB; have HO_8 := n0_; have HO_258002 := n1_; have HO288 := n2_; have HO291 := n3_; have BK257 := n4_; have BK293 := n5_; have HB := n6_; clear n0_ n1_ n2_ n3_ n4_ n5_ n6_; have hcz80_0 : w79.cell? ⟨gb293, 0, none⟩ = some (.int .i64 t284) := (blk_cell BK293.out 0).trans rfl; have hcz80_1 : w79.cell? ⟨gb293, 1, none⟩ = some (.int .i64 t285) := (blk_cell BK293.out 1).trans rfl; have hcz80_2 : w79.cell? ⟨gb293, 2, none⟩ = some (.slice Ao78 t286.length co78) := (blk_cell BK293.out 2).trans rfl; have hfz80_0 := blk_frozen BK293.out 0; have hfz80_1 := blk_frozen BK293.out 1; have hfz80_2 := blk_frozen BK293.out 2) | ((with_reducible refine gate_callee (f := 13) rfl ?_); refine goesL_ (some 106) rfl rfl Try.func13 (by kernel_rfl) rfl #[.agg #[.int .i64 t284, .int .i64 t285, .slice Ao78 t286.length co78], .int .i64 1] rfl zm ?_; (with_reducible refine (sema_Give.calls k2 t284 t285 (fun k_ => (some k_ ≠ (u8 : Value).ownBlock ∧ (some k_ ≠ (v290 : Value).ownBlock ∧ (k_ ≠ gb257 ∧ k_ ≠ gb293)))) _ _ t286 1 t294 t295 t296 t299 t302 _ ?side1 A65.out).mono ?_); (case side1 => exact HO288.out); rintro e w81 ⟨v297, v300, rfl, ho0, ho1, hb⟩; refine ⟨_, rfl, ?_⟩; have n0_ := Aside0.mk (Kd.R_below (zR HO_8) hb); have n1_ := Aside0.mk (Kd.V_elder' (zV HO_258002) (Kd.R_base ho1) hb); have n2_ := Aside0.mk (Kd.V_elder' (zV HO288) (Kd.R_base ho1) hb); have n3_ := Aside0.mk (Kd.R_elder' (zR HO291) (Kd.R_base ho1) hb); have n4_ := Aside0.mk (Kd.V_lower (Kd.V_mono (ok' := fun k_ => some k_ ≠ (v300 : Value).ownBlock ∧ some k_ ≠ (u8 : Value).ownBlock ∧ some k_ ≠ (v290 : Value).ownBlock ∧ k_ ≠ gb257 ∧ k_ ≠ gb293) ho0 (fun k_ hk_ => ⟨hk_.2, Or.elim hk_.1 (fun hs_ => hs_.1) (fun hn_ => (Kd.fresh' (Kd.R_lt (zR HO_8)) k_ hn_)), Or.elim hk_.1 (fun hs_ => hs_.2.1) (fun hn_ => (Kd.fresh' (Kd.R_lt (zR HO291)) k_ hn_)), Or.elim hk_.1 (fun hs_ => hs_.2.2.1) (fun hn_ => (Kd.freshB (g := gb257) (o := .cells #[.int .i64 x258000_2, .int .i64 x258001_2, .slice Ao73 x258002_2.length co73] 24 (0, 0)) (zb BK257) k_ hn_)), Or.elim hk_.1 (fun hs_ => hs_.2.2.2) (fun hn_ => (Kd.freshB (g := gb293) (o := .cells #[.int .i64 t284, .int .i64 t285, .slice Ao78 t286.length co78] 24 (0, 0)) (zb BK293) k_ hn_))⟩)) (below_size (zc2 HB GE257 GE293))); have n5_ := Aside0.mk (Kd.R_lower (Kd.R_new' (Kd.R_mono (ok' := fun k_ => True) ho1 (fun _ hk_ => trivial)) (Kd.R_lt (zR HO291))) (below_size (zc2 HB GE257 GE293))); have n6_ := Aside0.mk (blk_below (g := gb257) (o := .cells #[.int .i64 x258000_2, .int .i64 x258001_2, .slice Ao73 x258002_2.length co73] 24 (0, 0)) (zb BK257) hb); have n7_ := Aside0.mk (blk_below (g := gb293) (o := .cells #[.int .i64 t284, .int .i64 t285, .slice Ao78 t286.length co78] 24 (0, 0)) (zb BK293) hb); have n8_ := Aside0.mk (below_step (zc2 HB GE257 GE293) hb); clear HO_8; clear HO_258002; clear HO288; clear HO291; clear BK257; clear BK293; clear HB; have HO_8 := n0_; have HO_258002 := n1_; have HO288 := n2_; have HO291 := n3_; have HO298 := n4_; have HO301 := n5_; have BK257 := n6_; have BK293 := n7_; have HB := n8_; clear n0_ n1_ n2_ n3_ n4_ n5_ n6_ n7_ n8_; (try clear hb); (try clear hb2); (try clear hk); (try clear hi); (try clear ho0); (try clear ho1)) | ((with_reducible refine gate_dst (N := 21) rfl ?_); (try (refine gate_guard (by rfl) ?_; dsimp only)); refine box_event ?hg (N := 21) ?hd (cs := #[.int .i64 0, .int .i64 0, .slice none 0 0]) (t := 24) ?hr ?_; (case hd => rfl); (case hg => rfl); (case hr => first | (go_simp; done) | (go_simp; rfl)); intro gb303 hg w82 hbox hb; have n0_ := Aside0.mk (Kd.R_below (zR HO_8) hb); have n1_ := Aside0.mk (Kd.V_below (Kd.V_elderB (zV HO_258002) gb303 (Nat.le_of_eq hg.symm)) hb); have n2_ := Aside0.mk (Kd.V_below (Kd.V_elderB (zV HO288) gb303 (Nat.le_of_eq hg.symm)) hb); have n3_ := Aside0.mk (Kd.R_below (zR HO291) hb); have n4_ := Aside0.mk (Kd.V_below (Kd.V_elderB (zV HO298) gb303 (Nat.le_of_eq hg.symm)) hb); have n5_ := Aside0.mk (Kd.R_below (zR HO301) hb); have n6_ := Aside0.mk (blk_below (g := gb257) (o := .cells #[.int .i64 x258000_2, .int .i64 x258001_2, .slice Ao73 x258002_2.length co73] 24 (0, 0)) (zb BK257) hb); have n7_ := Aside0.mk (blk_below (g := gb293) (o := .cells #[.int .i64 t284, .int .i64 t285, .slice Ao78 t286.length co78] 24 (0, 0)) (zb BK293) hb); have n8_ := Aside0.mk (below_step (zc2 HB GE257 GE293) hb); have n9_ := Aside0.mk (hbox); have n10_ := Aside0.mk ((by rw [hg]; exact (below_size (zc2 HB GE257 GE293)) : w.heap.size ≤ gb303)); have n11_ := Aside0.mk ((by rw [hg]; exact (below_size (zc2 HB GE257 GE293)) : w.heap.size ≤ gb303)); have n12_ := Aside0.mk ((by rw [hg]; exact Nat.ne_of_lt (blk_lt (g := gb257) (o := .cells #[.int .i64 x258000_2, .int .i64 x258001_2, .slice Ao73 x258002_2.length co73] 24 (0, 0)) (zb BK257)) : gb257 ≠ gb303)); have n13_ := Aside0.mk ((by rw [hg]; exact Nat.ne_of_gt (blk_lt (g := gb257) (o := .cells #[.int .i64 x258000_2, .int .i64 x258001_2, .slice Ao73 x258002_2.length co73] 24 (0, 0)) (zb BK257)) : gb303 ≠ gb257)); have n14_ := Aside0.mk ((by rw [hg]; exact Nat.ne_of_lt (blk_lt (g := gb293) (o := .cells #[.int .i64 t284, .int .i64 t285, .slice Ao78 t286.length co78] 24 (0, 0)) (zb BK293)) : gb293 ≠ gb303)); have n15_ := Aside0.mk ((by rw [hg]; exact Nat.ne_of_gt (blk_lt (g := gb293) (o := .cells #[.int .i64 t284, .int .i64 t285, .slice Ao78 t286.length co78] 24 (0, 0)) (zb BK293)) : gb303 ≠ gb293)); clear HO_8; clear HO_258002; clear HO288; clear HO291; clear HO298; clear HO301; clear BK257; clear BK293; clear HB; have HO_8 := n0_; have HO_258002 := n1_; have HO288 := n2_; have HO291 := n3_; have HO298 := n4_; have HO301 := n5_; have BK257 := n6_; have BK293 := n7_; have HB := n8_; have BK303 := n9_; have GW303 := n10_; have GE303 := n11_; have NB257_303 := n12_; have NB303_257 := n13_; have NB293_303 := n14_; have NB303_293 := n15_; clear n0_ n1_ n2_ n3_ n4_ n5_ n6_ n7_ n8_ n9_ n10_ n11_ n12_ n13_ n14_ n15_; clear hb hbox hg; have hnb83 := NB303_257.out; have hnc83 := NB257_303.out; have hnb84 := NB303_293.out; have hnc84 := NB293_303.out; have hcz85_0 : w82.cell? ⟨gb303, 0, none⟩ = some (.int .i64 0) := (blk_cell BK303.out 0).trans rfl; have hcz85_1 : w82.cell? ⟨gb303, 1, none⟩ = some (.int .i64 0) := (blk_cell BK303.out 1).trans rfl; have hcz85_2 : w82.cell? ⟨gb303, 2, none⟩ = some (.slice none 0 0) := (blk_cell BK303.out 2).trans rfl; have hfz85_0 := blk_frozen BK303.out 0; have hfz85_1 := blk_frozen BK303.out 1; have hfz85_2 := blk_frozen BK303.out 2; obtain ⟨Ao86, co86, eo86⟩ := Kd.V_slice HO298.out; subst eo86; obtain ⟨Ao87, co87, eo87⟩ := Kd.R_slice HO291.out; subst eo87; have hcz88_0 : w82.cell? ⟨gb293, 0, none⟩ = some (.int .i64 t284) := (blk_cell BK293.out 0).trans rfl; have hcz88_1 : w82.cell? ⟨gb293, 1, none⟩ = some (.int .i64 t285) := (blk_cell BK293.out 1).trans rfl; have hcz88_2 : w82.cell? ⟨gb293, 2, none⟩ = some (.slice Ao78 t286.length co78) := (blk_cell BK293.out 2).trans rfl; have hfz88_0 := blk_frozen BK293.out 0; have hfz88_1 := blk_frozen BK293.out 1; have hfz88_2 := blk_frozen BK293.out 2) | (go_at_call 9; (with_reducible refine (handshakerlaw18_awake.calls k2  t304 _ A71.out).mono ?_); rintro e w89 ⟨rfl, hb⟩; have n0_ := Aside0.mk (Kd.R_below (by (with_reducible repeat (first | apply Kd.R_alloc | apply Kd.R_drewN | apply Kd.R_drew)); exact (Kd.R_mono (Kd.R_far (p := ⟨gb303, 2, none⟩) (Kd.R_far (p := ⟨gb303, 1, none⟩) (Kd.R_far (p := ⟨gb303, 0, none⟩) (Kd.R_types HO_8.out BK303.out (by decide)) (fun _ hk => hk.2) (.int .i64 t294)) (fun _ hk => hk.2) (.int .i64 t295)) (fun _ hk => hk.2) (.slice Ao86 t296.length co86)) (fun _ h_ => h_.1))) hb); have n1_ := Aside0.mk (Kd.V_below (by (with_reducible repeat (first | apply Kd.V_alloc | apply Kd.V_drewN | apply Kd.V_drew)); exact (Kd.V_mono (Kd.V_far (p := ⟨gb303, 2, none⟩) (Kd.V_far (p := ⟨gb303, 1, none⟩) (Kd.V_far (p := ⟨gb303, 0, none⟩) (Kd.V_mono HO_258002.out (fun k_ hk => (⟨hk, hk.2⟩ : _ ∧ k_ ≠ gb303))) (fun _ hk => hk.2) (.int .i64 t294)) (fun _ hk => hk.2) (.int .i64 t295)) (fun _ hk => hk.2) (.slice Ao86 t296.length co86)) (fun _ h_ => h_.1))) hb); have n2_ := Aside0.mk (Kd.V_below (by (with_reducible repeat (first | apply Kd.V_alloc | apply Kd.V_drewN | apply Kd.V_drew)); exact (Kd.V_mono (Kd.V_far (p := ⟨gb303, 2, none⟩) (Kd.V_far (p := ⟨gb303, 1, none⟩) (Kd.V_far (p := ⟨gb303, 0, none⟩) (Kd.V_mono HO288.out (fun k_ hk => (⟨hk, hk.2⟩ : _ ∧ k_ ≠ gb303))) (fun _ hk => hk.2) (.int .i64 t294)) (fun _ hk => hk.2) (.int .i64 t295)) (fun _ hk => hk.2) (.slice Ao86 t296.length co86)) (fun _ h_ => h_.1))) hb); have n3_ := Aside0.mk (Kd.R_below (by (with_reducible repeat (first | apply Kd.R_alloc | apply Kd.R_drewN | apply Kd.R_drew)); exact (Kd.R_mono (Kd.R_far (p := ⟨gb303, 2, none⟩) (Kd.R_far (p := ⟨gb303, 1, none⟩) (Kd.R_far (p := ⟨gb303, 0, none⟩) (Kd.R_types HO291.out BK303.out (by decide)) (fun _ hk => hk.2) (.int .i64 t294)) (fun _ hk => hk.2) (.int .i64 t295)) (fun _ hk => hk.2) (.slice Ao86 t296.length co86)) (fun _ h_ => h_.1))) hb); have n4_ := Aside0.mk (Kd.V_below (by (with_reducible repeat (first | apply Kd.V_alloc | apply Kd.V_drewN | apply Kd.V_drew)); exact (Kd.V_mono (Kd.V_far (p := ⟨gb303, 2, none⟩) (Kd.V_far (p := ⟨gb303, 1, none⟩) (Kd.V_far (p := ⟨gb303, 0, none⟩) (Kd.V_mono HO298.out (fun k_ hk => (⟨hk, hk.2⟩ : _ ∧ k_ ≠ gb303))) (fun _ hk => hk.2) (.int .i64 t294)) (fun _ hk => hk.2) (.int .i64 t295)) (fun _ hk => hk.2) (.slice Ao86 t296.length co86)) (fun _ h_ => h_.1))) hb); have n5_ := Aside0.mk (Kd.R_below (by (with_reducible repeat (first | apply Kd.R_alloc | apply Kd.R_drewN | apply Kd.R_drew)); exact (Kd.R_mono (Kd.R_far (p := ⟨gb303, 2, none⟩) (Kd.R_far (p := ⟨gb303, 1, none⟩) (Kd.R_far (p := ⟨gb303, 0, none⟩) (Kd.R_types HO301.out BK303.out (by decide)) (fun _ hk => hk.2) (.int .i64 t294)) (fun _ hk => hk.2) (.int .i64 t295)) (fun _ hk => hk.2) (.slice Ao86 t296.length co86)) (fun _ h_ => h_.1))) hb); have n6_ := Aside0.mk (blk_below (g := gb257) (o := .cells #[.int .i64 x258000_2, .int .i64 x258001_2, .slice Ao73 x258002_2.length co73] 24 (0, 0)) (by (with_reducible repeat (first | refine blk_drewN ?_ _ | refine blk_drew ?_ | refine blk_alloc ?_ _)); refine blk_far ?_ NB257_303.out _; (with_reducible repeat (first | refine blk_drewN ?_ _ | refine blk_drew ?_ | refine blk_alloc ?_ _)); refine blk_far ?_ NB257_303.out _; (with_reducible repeat (first | refine blk_drewN ?_ _ | refine blk_drew ?_ | refine blk_alloc ?_ _)); refine blk_far ?_ NB257_303.out _; (with_reducible repeat (first | refine blk_drewN ?_ _ | refine blk_drew ?_ | refine blk_alloc ?_ _)); exact BK257.out) hb); have n7_ := Aside0.mk (blk_below (g := gb293) (o := .cells #[.int .i64 t284, .int .i64 t285, .slice Ao78 t286.length co78] 24 (0, 0)) (by (with_reducible repeat (first | refine blk_drewN ?_ _ | refine blk_drew ?_ | refine blk_alloc ?_ _)); refine blk_far ?_ NB293_303.out _; (with_reducible repeat (first | refine blk_drewN ?_ _ | refine blk_drew ?_ | refine blk_alloc ?_ _)); refine blk_far ?_ NB293_303.out _; (with_reducible repeat (first | refine blk_drewN ?_ _ | refine blk_drew ?_ | refine blk_alloc ?_ _)); refine blk_far ?_ NB293_303.out _; (with_reducible repeat (first | refine blk_drewN ?_ _ | refine blk_drew ?_ | refine blk_alloc ?_ _)); exact BK293.out) hb); have n8_ := Aside0.mk (blk_below (g := gb303) (o := .cells #[.int .i64 t294, .int .i64 t295, .slice Ao86 t296.length co86] 24 (0, 0)) (by (with_reducible repeat (first | refine blk_drewN ?_ _ | refine blk_drew ?_ | refine blk_alloc ?_ _)); refine blk_put (cs := #[.int .i64 t294, .int .i64 t295, .slice none 0 0]) ?_ 2 _ rfl; (with_reducible repeat (first | refine blk_drewN ?_ _ | refine blk_drew ?_ | refine blk_alloc ?_ _)); refine blk_put (cs := #[.int .i64 t294, .int .i64 0, .slice none 0 0]) ?_ 1 _ rfl; (with_reducible repeat (first | refine blk_drewN ?_ _ | refine blk_drew ?_ | refine blk_alloc ?_ _)); refine blk_put (cs := #[.int .i64 0, .int .i64 0, .slice none 0 0]) ?_ 0 _ rfl; (with_reducible repeat (first | refine blk_drewN ?_ _ | refine blk_drew ?_ | refine blk_alloc ?_ _)); exact BK303.out) hb); have n9_ := Aside0.mk (below_step (zc3 HB GE257 GE293 GE303) hb); clear HO_8; clear HO_258002; clear HO288; clear HO291; clear HO298; clear HO301; clear BK257; clear BK293; clear BK303; clear HB; have HO_8 := n0_; have HO_258002 := n1_; have HO288 := n2_; have HO291 := n3_; have HO298 := n4_; have HO301 := n5_; have BK257 := n6_; have BK293 := n7_; have BK303 := n8_; have HB := n9_; clear n0_ n1_ n2_ n3_ n4_ n5_ n6_ n7_ n8_ n9_; (try clear hb); (try clear hb2); (try clear hk); (try clear hi)))
                        go_ret
                        exact ⟨by first | rfl | (simp [errW_none, errW_some] <;> rfl) | (simp [*, errW_none, errW_some] <;> rfl), by repeat (first | (with_reducible first | exact HB.out | apply below_alloc | apply pw_below_drewN | apply below_drew1 | refine below_set ?_ GE257.out | refine below_set ?_ GE293.out | refine below_set ?_ GE303.out) | exact HB.out)⟩
                      · rw [if_neg c70] at H
                        exact absurd H (by simp)
                    · rw [if_neg c69] at H
                      exact absurd H (by simp)
                  · rw [if_neg c68] at H
                    exact absurd H (by simp)
                · rw [if_neg c67] at H
                  exact absurd H (by simp)
              · rw [if_neg c66] at H
                exact absurd H (by simp)

/-- THE ONE PURE STATEMENT of handshakerlaw18_SemaLocks: yours. -/
def handshakerlaw18_SemaLocks.Pure : Prop := ∀ (a0 : Int) (a1 : Int), (Lit.int .u8 a0).wf = true → (Lit.int .u8 a1).wf = true → ∃ k, handshakerlaw18_SemaLocks.f k a0 a1 = some true
theorem handshakerlaw18_SemaLocks.walk (P : handshakerlaw18_SemaLocks.Pure) (a0 : Int) (a1 : Int) (w : World) (w0 : (Lit.int .u8 a0).wf = true) (w1 : (Lit.int .u8 a1).wf = true) :
    Calls Try.prog 7 #[.int .u8 a0, .int .u8 a1] w fun e w' => e = .returned (.bool true) ∧ Below w.heap.size w w' := by
  obtain ⟨k, h⟩ := P a0 a1 w0 w1
  refine (handshakerlaw18_SemaLocks.calls k a0 a1 true w h).mono ?_
  rintro e w' ⟨rfl, hd⟩
  exact ⟨rfl, hd⟩

end Go.Proofs.Ythbcajkphkdnmaa.PSemaLocks
