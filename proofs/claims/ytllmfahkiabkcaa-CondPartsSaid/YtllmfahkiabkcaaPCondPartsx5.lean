/- Lean functions that say what functions of the given program compute, and proofs by walking the code that each call does just that; no condition but those that each statement names. -/
import Derived.Test.YtllmfahkiabkcaaPCondPartsx0
import Derived.Test.YtllmfahkiabkcaaPCondPartsx1
import Derived.Test.YtllmfahkiabkcaaPCondPartsx2
import Derived.Test.YtllmfahkiabkcaaPCondPartsx3
import Derived.Test.YtllmfahkiabkcaaPCondPartsx4
namespace Go.Proofs.Ytllmfahkiabkcaa.PCondParts
open Go.RowKit Go.Proofs.YtllmfahkiabkcaaW.PrintWords Go.Proofs.YtllmfahkiabkcaaW.PrintLast Go.Proofs.YtllmfahkiabkcaaW.PrintMore
attribute [local go_sem] max2_int min2_int max_two min_two max_three min_three max_four min_four   -- for this text's walks alone
set_option linter.unusedVariables false
set_option linter.unusedSimpArgs false

/-! ### handshakerlaw20_CondParts: function 6 -/
def handshakerlaw20_CondParts.j0 : Nat → Int → Int → Bool → List Int → List Int → Option (Bool)
 | 0, _, _, _, _, _ => none
 | k + 1, x1, x2, x21, x265000, x265001 => if x21 = true then ((handshakerlaw20_awake.f k).bind fun t267 => (some t267)) else ((cond_Signal.f k x265000 x265001 (wrap64 (Int.tmod x1 9))).bind fun bt268 => ((cond_Signal.f k bt268.1 bt268.2.1 (wrap64 (Int.tmod x2 9))).bind fun bt278 => ((cond_Signal.f k x265000 x265001 (wrap64 ((wrap64 (Int.tmod x1 9)) + (wrap64 (Int.tmod x2 9))))).bind fun bt288 => ((some (([] : List Int) : List Int)).bind fun y298 => (if y298.length + x265001.length < 17592186044416 then ((some (y298 ++ x265001 : List Int)).bind fun y301 => (if y301.length + bt288.2.2.length < 17592186044416 then ((handshakerlaw20_ref.f bt278.1 bt278.2.1).bind fun bt307 => ((handshakerlaw20_ref.f bt288.1 bt288.2.1).bind fun bt313 => ((handshakerref20_Same.f k bt307.1 bt307.2 bt313.1 bt313.2).bind fun t319 => (if t319 = true then ((some (([] : List Int) : List Int)).bind fun y320 => (if y320.length + bt268.2.2.length < 17592186044416 then ((some (y320 ++ bt268.2.2 : List Int)).bind fun y323 => (if y323.length + bt278.2.2.length < 17592186044416 then ((handshakerref03_Numbers.f k (y323 ++ bt278.2.2) bt288.2.2).bind fun t329 => (if t329 = true then ((handshakerref03_Numbers.f k bt288.2.1 (y301 ++ bt288.2.2)).bind fun t330 => (if t330 = true then (if (bt288.2.2.length : Int) = (mn (wrap64 ((wrap64 (Int.tmod x1 9)) + (wrap64 (Int.tmod x2 9)))) (x265000.length : Int)) then ((handshakerlaw20_awake.f k).bind fun t331 => (some t331)) else (none)) else (none))) else (none))) else (none))) else (none))) else (none))))) else (none))) else (none))))))
def handshakerlaw20_CondParts.f (k : Nat) (l0_0 : List Int) (l0_1 : List Int) (a1 : Int) (a2 : Int) : Option (Bool) := (handshakerlaw20_small.f l0_0 l0_1).bind fun t265 => (if t265 = true then ((cond_Right.f k l0_0 l0_1).bind fun t266 => (handshakerlaw20_CondParts.j0 k a1 a2 (!t266) l0_0 l0_1)) else (handshakerlaw20_CondParts.j0 k a1 a2 true l0_0 l0_1))
theorem handshakerlaw20_CondParts.mono_l : ∀ k, (∀ y0 y1 y2 y3 y4, LeO (handshakerlaw20_CondParts.j0 k y0 y1 y2 y3 y4) (handshakerlaw20_CondParts.j0 (k + 1) y0 y1 y2 y3 y4))
 | 0 => fun _ _ _ _ _ r h => by simp [handshakerlaw20_CondParts.j0] at h
 | k + 1 => by
  have ih0 := handshakerlaw20_CondParts.mono_l k
  ·intro y0 y1 y2 y3 y4
   unfold handshakerlaw20_CondParts.j0
   repeat' first
   | (with_reducible exact ih0 _ _ _ _ _)
   | (with_reducible exact cond_Right.mono _ _ _)
   | (with_reducible exact cond_Signal.mono _ _ _ _)
   | (with_reducible exact handshakerlaw20_awake.mono _)
   | (with_reducible exact handshakerref03_Numbers.mono _ _ _)
   | (with_reducible exact handshakerref20_Same.mono _ _ _ _ _)
   | (with_reducible exact LeO.refl _)
   | (with_reducible exact LeO.none _)
   | (with_reducible refine LeO.ite ?_ ?_)
   | (with_reducible refine LeO.bind ?_ (fun _ => ?_))
   | exact ih0 _ _ _ _ _
   | exact cond_Right.mono _ _ _
   | exact cond_Signal.mono _ _ _ _
   | exact handshakerlaw20_awake.mono _
   | exact handshakerref03_Numbers.mono _ _ _
   | exact handshakerref20_Same.mono _ _ _ _ _
   | exact LeO.none _
   | refine LeO.ite ?_ ?_
   | refine LeO.bind ?_ (fun _ => ?_)
theorem handshakerlaw20_CondParts.mono : ∀ a0 a1 a2 a3 k, LeO (handshakerlaw20_CondParts.f k a0 a1 a2 a3) (handshakerlaw20_CondParts.f (k + 1) a0 a1 a2 a3) := by
 intro a0 a1 a2 a3 k
 have ih0 := handshakerlaw20_CondParts.mono_l k
 unfold handshakerlaw20_CondParts.f
 repeat' first
   | (with_reducible exact ih0 _ _ _ _ _)
   | (with_reducible exact cond_Right.mono _ _ _)
   | (with_reducible exact cond_Signal.mono _ _ _ _)
   | (with_reducible exact handshakerlaw20_awake.mono _)
   | (with_reducible exact handshakerref03_Numbers.mono _ _ _)
   | (with_reducible exact handshakerref20_Same.mono _ _ _ _ _)
   | (with_reducible exact LeO.refl _)
   | (with_reducible exact LeO.none _)
   | (with_reducible refine LeO.ite ?_ ?_)
   | (with_reducible refine LeO.bind ?_ (fun _ => ?_))
   | exact ih0 _ _ _ _ _
   | exact cond_Right.mono _ _ _
   | exact cond_Signal.mono _ _ _ _
   | exact handshakerlaw20_awake.mono _
   | exact handshakerref03_Numbers.mono _ _ _
   | exact handshakerref20_Same.mono _ _ _ _ _
   | exact LeO.none _
   | refine LeO.ite ?_ ?_
   | refine LeO.bind ?_ (fun _ => ?_)
def handshakerlaw20_CondParts.T7 : Bool × List (List Nat × List Nat) := (true, [([], []), ([0], [0]), ([], []), ([2, 1], [2]), ([1, 3, 3], [1, 3]), ([4, 4], [4]), ([5], [5]), ([5], [5]), ([6, 7, 5, 5], [5, 6, 7]), ([5], [5]), ([8, 9, 8, 5], [5, 8, 9]), ([5], [5]), ([10, 11, 10, 5], [5, 10, 11]), ([5, 12], [5, 12]), ([13, 12], [13]), ([14], [14]), ([15, 14], [14, 15]), ([14], [14]), ([16, 17, 14, 14], [14, 16, 17]), ([14, 18], [14, 18]), ([19, 18], [19]), ([20], [20]), ([21, 20], [20, 21]), ([20], [20]), ([23, 20], [20, 23]), ([24, 20], [20, 24]), ([20], [20]), ([26, 20], [20, 26]), ([27, 20], [20, 27]), ([25, 28, 20], [20, 25, 28]), ([20], [20]), ([30, 20], [20, 30]), ([31, 20], [20, 31]), ([29, 32, 20], [20, 29, 32]), ([22, 33, 20], [20, 22, 33]), ([20, 34], [20, 34]), ([35, 20], [35]), ([36, 36], [36]), ([36, 37], [36, 37]), ([38, 37, 0, 1, 2, 3, 4, 5, 6, 7, 8, 9, 10, 11, 12, 13, 14, 15, 16, 17, 18, 19, 20, 21, 22, 23, 24, 25, 26, 27, 28, 29, 30, 31, 32, 33, 34, 35, 36, 37, 38], [38])])
def handshakerlaw20_CondParts.B7 : List Nat := [0, 1, 0, 7, 15, 31, 63, 63, 255, 63, 1023, 63, 4095, 8191, 16383, 32767, 65535, 32767, 262143, 524287, 1048575, 2097151, 4194303, 2097151, 10485759, 27262975, 2097151, 69206015, 203423743, 530579455, 2097151, 1075838975, 3223322623, 8583643135, 17179869183, 34359738367, 68719476735, 137438953471, 274877906943, 549755813887]
theorem handshakerlaw20_CondParts.tab7 : rtab .any (opsOf Try.f6 7) = handshakerlaw20_CondParts.T7 := by kernel_rfl
theorem handshakerlaw20_CondParts.bits7 : waitsOk handshakerlaw20_CondParts.T7.2 handshakerlaw20_CondParts.B7 = true := by kernel_rfl
set_option maxHeartbeats 8000000 in
set_option maxRecDepth 100000 in
theorem handshakerlaw20_CondParts.calls (k : Nat) (A0_0 : Option Addr) (c0_0 : Nat) (l0_0 : List Int) (A0_1 : Option Addr) (c0_1 : Nat) (l0_1 : List Int) (a1 : Int) (a2 : Int) (r : Bool) (w : World) (hr0_0 : Kd.C (Kd.int .i64) w A0_0 l0_0.length l0_0) (hc0_0 : l0_0.length ≤ c0_0) (hr0_1 : Kd.C (Kd.int .i64) w A0_1 l0_1.length l0_1) (hc0_1 : l0_1.length ≤ c0_1) (h : handshakerlaw20_CondParts.f k l0_0 l0_1 a1 a2 = some r) :
  Calls Try.prog 6 #[.agg #[.slice A0_0 l0_0.length c0_0, .slice A0_1 l0_1.length c0_1], .int .u8 a1, .int .u8 a2] w fun e w' => e = .returned (.bool r) ∧ Below w.heap.size w w' := by
 have hu24 := Try.underlying24
 have HR0_0 := Aside0.mk hr0_0
 have HC0_0 := Aside0.mk hc0_0
 clear hr0_0 hc0_0
 have HR0_1 := Aside0.mk hr0_1
 have HC0_1 := Aside0.mk hc0_1
 clear hr0_1 hc0_1
 have HB := Aside0.mk (Below.refl w.heap.size w)
 have H : ((handshakerlaw20_small.f l0_0 l0_1).bind fun t265 => (if t265 = true then ((cond_Right.f k l0_0 l0_1).bind fun t266 => (handshakerlaw20_CondParts.j0 k a1 a2 (!t266) l0_0 l0_1)) else (handshakerlaw20_CondParts.j0 k a1 a2 true l0_0 l0_1))) = some r := h
 clear h
 have HC4 := Aside0.mk H
 clear H
 go_enter Try.func6, Try.ntmps6
 go_upto_region 1 with (first | ((with_reducible refine gate_dst (N := 3) rfl ?_); (try (refine gate_guard (by rfl) ?_; dsimp only)); refine box_event ?hg (N := 3) ?hd (cs := #[.slice A0_0 l0_0.length c0_0, .slice A0_1 l0_1.length c0_1]) (t := 24) ?hr ?_; (case hd => rfl); (case hg => rfl); (case hr => first | (go_simp; done) | (go_simp; rfl)); intro gb264 hg w5 hbox hb; have n0_ := Aside0.mk (below_step (zc0 HB) hb); have n1_ := Aside0.mk (hbox); have n2_ := Aside0.mk ((by rw [hg]; exact (below_size (zc0 HB)) : w.heap.size ≤ gb264)); have n3_ := Aside0.mk ((by rw [hg]; exact (below_size (zc0 HB)) : w.heap.size ≤ gb264)); clear HB; have HB := n0_; have BK264 := n1_; have GW264 := n2_; have GE264 := n3_; clear n0_ n1_ n2_ n3_; clear hb hbox hg))
 (try simp only [Act.put, List.setIfInBounds_toArray, List.set_cons_zero, List.set_cons_succ])
 go_cut [21] (fun v21 wc => ∃ (kq : Nat) (x21_3 : Bool), v21 = .bool x21_3 ∧ Aside0 (handshakerlaw20_CondParts.j0 kq a1 a2 x21_3 l0_0 l0_1 = some r) ∧ Aside0 (kq ≤ k) ∧ Aside0 (wc.heap[gb264]? = some (.cells #[(.slice A0_0 l0_0.length c0_0), (.slice A0_1 l0_1.length c0_1)] 24 (0, 0))) ∧ Aside0 (Below w.heap.size w wc))
 case first =>
  have H := HC4.out
  clear HC4
  replace H := Option.bind_eq_some_iff.mp H
  obtain ⟨t265, A60, H⟩ := H
  replace H : (if t265 = true then ((cond_Right.f k l0_0 l0_1).bind fun t266 => (handshakerlaw20_CondParts.j0 k a1 a2 (!t266) l0_0 l0_1)) else (handshakerlaw20_CondParts.j0 k a1 a2 true l0_0 l0_1)) = some r := H
  have A6 := Aside0.mk A60
  clear A60
  by_cases c7 : t265 = true
  ·subst c7
   have H1 : ((cond_Right.f k l0_0 l0_1).bind fun t266 => (handshakerlaw20_CondParts.j0 k a1 a2 (!t266) l0_0 l0_1)) = some r := by rw [if_pos rfl] at H; exact H
   clear H
   have H := H1
   clear H1
   replace H := Option.bind_eq_some_iff.mp H
   obtain ⟨t266, A80, H⟩ := H
   replace H : (handshakerlaw20_CondParts.j0 k a1 a2 (!t266) l0_0 l0_1) = some r := H
   have A8 := Aside0.mk A80
   clear A80
   have H' := Aside0.mk H
   clear H
   have hcz9_0 : w5.cell? ⟨gb264, 0, none⟩ = some (.slice A0_0 l0_0.length c0_0) := (blk_cell BK264.out 0).trans rfl
   have hcz9_1 : w5.cell? ⟨gb264, 1, none⟩ = some (.slice A0_1 l0_1.length c0_1) := (blk_cell BK264.out 1).trans rfl
   have hfz9_0 := blk_frozen BK264.out 0
   have hfz9_1 := blk_frozen BK264.out 1
   go_wp2_with (first | ((with_reducible refine gate_callee (f := 8) rfl ?_); refine goesL_ (some 15) rfl rfl Try.func8 (by kernel_rfl) rfl #[.agg #[.slice A0_0 l0_0.length c0_0, .slice A0_1 l0_1.length c0_1]] rfl zm ?_; (with_reducible refine (handshakerlaw20_small.calls _ _ l0_0 _ _ l0_1 true _ ?side1 ?side2 ?side3 ?side4 A6.out).mono ?_); (case side1 => repeat (first | exact (Kd.C_below HR0_0.out HB.out) | (with_reducible refine Kd.C_alloc ?_ _) | (with_reducible refine Kd.C_drewN ?_ _) | (with_reducible refine Kd.C_drew ?_))); (case side2 => exact HC0_0.out); (case side3 => repeat (first | exact (Kd.C_below HR0_1.out HB.out) | (with_reducible refine Kd.C_alloc ?_ _) | (with_reducible refine Kd.C_drewN ?_ _) | (with_reducible refine Kd.C_drew ?_))); (case side4 => exact HC0_1.out); rintro e w10 ⟨rfl, hb⟩; refine ⟨_, rfl, ?_⟩; have n0_ := Aside0.mk (blk_below (g := gb264) (o := .cells #[.slice A0_0 l0_0.length c0_0, .slice A0_1 l0_1.length c0_1] 24 (0, 0)) (zb BK264) hb); have n1_ := Aside0.mk (below_step (zc1 HB GE264) hb); clear BK264; clear HB; have BK264 := n0_; have HB := n1_; clear n0_ n1_; (try clear hb); (try clear hb2); (try clear hk); (try clear hi); have hcz11_0 : w10.cell? ⟨gb264, 0, none⟩ = some (.slice A0_0 l0_0.length c0_0) := (blk_cell BK264.out 0).trans rfl; have hcz11_1 : w10.cell? ⟨gb264, 1, none⟩ = some (.slice A0_1 l0_1.length c0_1) := (blk_cell BK264.out 1).trans rfl; have hfz11_0 := blk_frozen BK264.out 0; have hfz11_1 := blk_frozen BK264.out 1) | (go_at_call 19; (with_reducible refine (cond_Right.calls k (fun k_ => k_ < w.heap.size) _ _ l0_0 (fun k_ => k_ < w.heap.size) _ _ l0_1 t266 _ ?side1 ?side2 A8.out).mono ?_); (case side1 => exact Kd.V_mk HC0_0.out (Kd.F_below (Kd.C_F (Kd.heap_int .i64) HR0_0.out) (zc1 HB GE264))); (case side2 => exact Kd.V_mk HC0_1.out (Kd.F_below (Kd.C_F (Kd.heap_int .i64) HR0_1.out) (zc1 HB GE264))); rintro e w12 ⟨rfl, hb⟩; have n0_ := Aside0.mk (blk_below (g := gb264) (o := .cells #[.slice A0_0 l0_0.length c0_0, .slice A0_1 l0_1.length c0_1] 24 (0, 0)) (zb BK264) hb); have n1_ := Aside0.mk (below_step (zc1 HB GE264) hb); clear BK264; clear HB; have BK264 := n0_; have HB := n1_; clear n0_ n1_; (try clear hb); (try clear hb2); (try clear hk); (try clear hi)))
   go_meet
   case rel => exact ⟨_, (!t266), (by first | rfl | (simp; done) | (simp [*]; done)), H', ⟨by first | omega | exact Nat.le_refl _⟩, ⟨by (with_reducible repeat (first | refine blk_drewN ?_ _ | refine blk_drew ?_ | refine blk_alloc ?_ _)); exact BK264.out⟩, ⟨by repeat (first | (with_reducible first | exact HB.out | apply below_alloc | apply pw_below_drewN | apply below_drew1 | refine below_set ?_ GE264.out) | exact HB.out)⟩⟩
  ·replace c7 := Bool.eq_false_iff.mpr c7
   subst c7
   have H1 : (handshakerlaw20_CondParts.j0 k a1 a2 true l0_0 l0_1) = some r := by rw [if_neg (show ¬ (false = true) by decide)] at H; exact H
   clear H
   have H := H1
   clear H1
   have H' := Aside0.mk H
   clear H
   have hcz13_0 : w5.cell? ⟨gb264, 0, none⟩ = some (.slice A0_0 l0_0.length c0_0) := (blk_cell BK264.out 0).trans rfl
   have hcz13_1 : w5.cell? ⟨gb264, 1, none⟩ = some (.slice A0_1 l0_1.length c0_1) := (blk_cell BK264.out 1).trans rfl
   have hfz13_0 := blk_frozen BK264.out 0
   have hfz13_1 := blk_frozen BK264.out 1
   go_wp2_with (first | ((with_reducible refine gate_callee (f := 8) rfl ?_); refine goesL_ (some 15) rfl rfl Try.func8 (by kernel_rfl) rfl #[.agg #[.slice A0_0 l0_0.length c0_0, .slice A0_1 l0_1.length c0_1]] rfl zm ?_; (with_reducible refine (handshakerlaw20_small.calls _ _ l0_0 _ _ l0_1 false _ ?side1 ?side2 ?side3 ?side4 A6.out).mono ?_); (case side1 => repeat (first | exact (Kd.C_below HR0_0.out HB.out) | (with_reducible refine Kd.C_alloc ?_ _) | (with_reducible refine Kd.C_drewN ?_ _) | (with_reducible refine Kd.C_drew ?_))); (case side2 => exact HC0_0.out); (case side3 => repeat (first | exact (Kd.C_below HR0_1.out HB.out) | (with_reducible refine Kd.C_alloc ?_ _) | (with_reducible refine Kd.C_drewN ?_ _) | (with_reducible refine Kd.C_drew ?_))); (case side4 => exact HC0_1.out); rintro e w14 ⟨rfl, hb⟩; refine ⟨_, rfl, ?_⟩; have n0_ := Aside0.mk (blk_below (g := gb264) (o := .cells #[.slice A0_0 l0_0.length c0_0, .slice A0_1 l0_1.length c0_1] 24 (0, 0)) (zb BK264) hb); have n1_ := Aside0.mk (below_step (zc1 HB GE264) hb); clear BK264; clear HB; have BK264 := n0_; have HB := n1_; clear n0_ n1_; (try clear hb); (try clear hb2); (try clear hk); (try clear hi)))
   go_meet
   case rel => exact ⟨_, (true), (by first | rfl | (simp; done) | (simp [*]; done)), H', ⟨by first | omega | exact Nat.le_refl _⟩, ⟨by (with_reducible repeat (first | refine blk_drewN ?_ _ | refine blk_drew ?_ | refine blk_alloc ?_ _)); exact BK264.out⟩, ⟨by repeat (first | (with_reducible first | exact HB.out | apply below_alloc | apply pw_below_drewN | apply below_drew1 | refine below_set ?_ GE264.out) | exact HB.out)⟩⟩
 case rest =>
  clear HC4
  try clear p2
  try clear c6
  try clear c7
  try clear c8
  try clear hcz11_0
  try clear hcz11_1
  try clear hcz13_0
  try clear hcz13_1
  try clear hcz9_0
  try clear hcz9_1
  try clear hfz11_0
  try clear hfz11_1
  try clear hfz13_0
  try clear hfz13_1
  try clear hfz9_0
  try clear hfz9_1
  obtain ⟨kq, x21_3, rfl, HA, HJ3, BK264, HB⟩ := hcut
  cases kq with
  | zero => exact absurd HA.out (by simp [handshakerlaw20_CondParts.j0])
  | succ kj3 =>
   have H := HA.out
   clear HA
   simp only [handshakerlaw20_CondParts.j0] at H
   by_cases c15 : x21_3 = true
   ·subst c15
    have H1 : ((handshakerlaw20_awake.f kj3).bind fun t267 => (some t267)) = some r := by rw [if_pos rfl] at H; exact H
    clear H
    have H := H1
    clear H1
    replace H := Option.bind_eq_some_iff.mp H
    obtain ⟨t267, A160, H⟩ := H
    replace H : (some t267) = some r := H
    have A16 := Aside0.mk A160
    clear A160
    obtain rfl := Option.some.inj H
    go_wp2_with (first | ((with_reducible refine gate_callee (f := 9) rfl ?_); refine goesL_ (some 22) rfl rfl Try.func9 (by kernel_rfl) rfl #[] rfl zm ?_; (with_reducible refine (handshakerlaw20_awake.calls kj3  t267 _ A16.out).mono ?_); rintro e w17 ⟨rfl, hb⟩; refine ⟨_, rfl, ?_⟩; have n0_ := Aside0.mk (blk_below (g := gb264) (o := .cells #[.slice A0_0 l0_0.length c0_0, .slice A0_1 l0_1.length c0_1] 24 (0, 0)) (zb BK264) hb); have n1_ := Aside0.mk (below_step (zc1 HB GE264) hb); clear BK264; clear HB; have BK264 := n0_; have HB := n1_; clear n0_ n1_; (try clear hb); (try clear hb2); (try clear hk); (try clear hi)))
    go_ret
    exact ⟨by first | rfl | (simp [errW_none, errW_some] <;> rfl) | (simp [*, errW_none, errW_some] <;> rfl), by repeat (first | (with_reducible first | exact HB.out | apply below_alloc | apply pw_below_drewN | apply below_drew1 | refine below_set ?_ GE264.out) | exact HB.out)⟩
   ·replace c15 := Bool.eq_false_iff.mpr c15
    subst c15
    have H1 : ((cond_Signal.f kj3 l0_0 l0_1 (wrap64 (Int.tmod a1 9))).bind fun bt268 => ((cond_Signal.f kj3 bt268.1 bt268.2.1 (wrap64 (Int.tmod a2 9))).bind fun bt278 => ((cond_Signal.f kj3 l0_0 l0_1 (wrap64 ((wrap64 (Int.tmod a1 9)) + (wrap64 (Int.tmod a2 9))))).bind fun bt288 => ((some (([] : List Int) : List Int)).bind fun y298 => (if y298.length + l0_1.length < 17592186044416 then ((some (y298 ++ l0_1 : List Int)).bind fun y301 => (if y301.length + bt288.2.2.length < 17592186044416 then ((handshakerlaw20_ref.f bt278.1 bt278.2.1).bind fun bt307 => ((handshakerlaw20_ref.f bt288.1 bt288.2.1).bind fun bt313 => ((handshakerref20_Same.f kj3 bt307.1 bt307.2 bt313.1 bt313.2).bind fun t319 => (if t319 = true then ((some (([] : List Int) : List Int)).bind fun y320 => (if y320.length + bt268.2.2.length < 17592186044416 then ((some (y320 ++ bt268.2.2 : List Int)).bind fun y323 => (if y323.length + bt278.2.2.length < 17592186044416 then ((handshakerref03_Numbers.f kj3 (y323 ++ bt278.2.2) bt288.2.2).bind fun t329 => (if t329 = true then ((handshakerref03_Numbers.f kj3 bt288.2.1 (y301 ++ bt288.2.2)).bind fun t330 => (if t330 = true then (if (bt288.2.2.length : Int) = (mn (wrap64 ((wrap64 (Int.tmod a1 9)) + (wrap64 (Int.tmod a2 9)))) (l0_0.length : Int)) then ((handshakerlaw20_awake.f kj3).bind fun t331 => (some t331)) else (none)) else (none))) else (none))) else (none))) else (none))) else (none))))) else (none))) else (none)))))) = some r := by rw [if_neg (show ¬ (false = true) by decide)] at H; exact H
    clear H
    have H := H1
    clear H1
    replace H := Option.bind_eq_some_iff.mp H
    obtain ⟨⟨t268, t271, t274⟩, A180, H⟩ := H
    replace H : ((cond_Signal.f kj3 t268 t271 (wrap64 (Int.tmod a2 9))).bind fun bt278 => ((cond_Signal.f kj3 l0_0 l0_1 (wrap64 ((wrap64 (Int.tmod a1 9)) + (wrap64 (Int.tmod a2 9))))).bind fun bt288 => ((some (([] : List Int) : List Int)).bind fun y298 => (if y298.length + l0_1.length < 17592186044416 then ((some (y298 ++ l0_1 : List Int)).bind fun y301 => (if y301.length + bt288.2.2.length < 17592186044416 then ((handshakerlaw20_ref.f bt278.1 bt278.2.1).bind fun bt307 => ((handshakerlaw20_ref.f bt288.1 bt288.2.1).bind fun bt313 => ((handshakerref20_Same.f kj3 bt307.1 bt307.2 bt313.1 bt313.2).bind fun t319 => (if t319 = true then ((some (([] : List Int) : List Int)).bind fun y320 => (if y320.length + t274.length < 17592186044416 then ((some (y320 ++ t274 : List Int)).bind fun y323 => (if y323.length + bt278.2.2.length < 17592186044416 then ((handshakerref03_Numbers.f kj3 (y323 ++ bt278.2.2) bt288.2.2).bind fun t329 => (if t329 = true then ((handshakerref03_Numbers.f kj3 bt288.2.1 (y301 ++ bt288.2.2)).bind fun t330 => (if t330 = true then (if (bt288.2.2.length : Int) = (mn (wrap64 ((wrap64 (Int.tmod a1 9)) + (wrap64 (Int.tmod a2 9)))) (l0_0.length : Int)) then ((handshakerlaw20_awake.f kj3).bind fun t331 => (some t331)) else (none)) else (none))) else (none))) else (none))) else (none))) else (none))))) else (none))) else (none))))) = some r := H
    have A18 := Aside0.mk A180
    clear A180
    replace H := Option.bind_eq_some_iff.mp H
    obtain ⟨⟨t278, t281, t284⟩, A190, H⟩ := H
    replace H : ((cond_Signal.f kj3 l0_0 l0_1 (wrap64 ((wrap64 (Int.tmod a1 9)) + (wrap64 (Int.tmod a2 9))))).bind fun bt288 => ((some (([] : List Int) : List Int)).bind fun y298 => (if y298.length + l0_1.length < 17592186044416 then ((some (y298 ++ l0_1 : List Int)).bind fun y301 => (if y301.length + bt288.2.2.length < 17592186044416 then ((handshakerlaw20_ref.f t278 t281).bind fun bt307 => ((handshakerlaw20_ref.f bt288.1 bt288.2.1).bind fun bt313 => ((handshakerref20_Same.f kj3 bt307.1 bt307.2 bt313.1 bt313.2).bind fun t319 => (if t319 = true then ((some (([] : List Int) : List Int)).bind fun y320 => (if y320.length + t274.length < 17592186044416 then ((some (y320 ++ t274 : List Int)).bind fun y323 => (if y323.length + t284.length < 17592186044416 then ((handshakerref03_Numbers.f kj3 (y323 ++ t284) bt288.2.2).bind fun t329 => (if t329 = true then ((handshakerref03_Numbers.f kj3 bt288.2.1 (y301 ++ bt288.2.2)).bind fun t330 => (if t330 = true then (if (bt288.2.2.length : Int) = (mn (wrap64 ((wrap64 (Int.tmod a1 9)) + (wrap64 (Int.tmod a2 9)))) (l0_0.length : Int)) then ((handshakerlaw20_awake.f kj3).bind fun t331 => (some t331)) else (none)) else (none))) else (none))) else (none))) else (none))) else (none))))) else (none))) else (none)))) = some r := H
    have A19 := Aside0.mk A190
    clear A190
    replace H := Option.bind_eq_some_iff.mp H
    obtain ⟨⟨t288, t291, t294⟩, A200, H⟩ := H
    replace H : ((some (([] : List Int) : List Int)).bind fun y298 => (if y298.length + l0_1.length < 17592186044416 then ((some (y298 ++ l0_1 : List Int)).bind fun y301 => (if y301.length + t294.length < 17592186044416 then ((handshakerlaw20_ref.f t278 t281).bind fun bt307 => ((handshakerlaw20_ref.f t288 t291).bind fun bt313 => ((handshakerref20_Same.f kj3 bt307.1 bt307.2 bt313.1 bt313.2).bind fun t319 => (if t319 = true then ((some (([] : List Int) : List Int)).bind fun y320 => (if y320.length + t274.length < 17592186044416 then ((some (y320 ++ t274 : List Int)).bind fun y323 => (if y323.length + t284.length < 17592186044416 then ((handshakerref03_Numbers.f kj3 (y323 ++ t284) t294).bind fun t329 => (if t329 = true then ((handshakerref03_Numbers.f kj3 t291 (y301 ++ t294)).bind fun t330 => (if t330 = true then (if (t294.length : Int) = (mn (wrap64 ((wrap64 (Int.tmod a1 9)) + (wrap64 (Int.tmod a2 9)))) (l0_0.length : Int)) then ((handshakerlaw20_awake.f kj3).bind fun t331 => (some t331)) else (none)) else (none))) else (none))) else (none))) else (none))) else (none))))) else (none))) else (none))) = some r := H
    have A20 := Aside0.mk A200
    clear A200
    obtain ⟨y298, hy298⟩ : ∃ y_ : List Int, y_ = (([] : List Int)) := ⟨_, rfl⟩
    replace H : (if y298.length + l0_1.length < 17592186044416 then ((some (y298 ++ l0_1 : List Int)).bind fun y301 => (if y301.length + t294.length < 17592186044416 then ((handshakerlaw20_ref.f t278 t281).bind fun bt307 => ((handshakerlaw20_ref.f t288 t291).bind fun bt313 => ((handshakerref20_Same.f kj3 bt307.1 bt307.2 bt313.1 bt313.2).bind fun t319 => (if t319 = true then ((some (([] : List Int) : List Int)).bind fun y320 => (if y320.length + t274.length < 17592186044416 then ((some (y320 ++ t274 : List Int)).bind fun y323 => (if y323.length + t284.length < 17592186044416 then ((handshakerref03_Numbers.f kj3 (y323 ++ t284) t294).bind fun t329 => (if t329 = true then ((handshakerref03_Numbers.f kj3 t291 (y301 ++ t294)).bind fun t330 => (if t330 = true then (if (t294.length : Int) = (mn (wrap64 ((wrap64 (Int.tmod a1 9)) + (wrap64 (Int.tmod a2 9)))) (l0_0.length : Int)) then ((handshakerlaw20_awake.f kj3).bind fun t331 => (some t331)) else (none)) else (none))) else (none))) else (none))) else (none))) else (none))))) else (none))) else (none)) = some r := by first | (rw [hy298]; with_reducible exact H) | (have H2_ := (Option.bind_some _ _).symm.trans H; rw [hy298]; with_reducible exact H2_) | (have H2_ := (Option.bind_some _ _).symm.trans H; with_reducible exact H2_) | with_reducible exact H | (rw [hy298]; exact H) | exact H
    have Ny298 := Aside0.mk hy298
    clear hy298
    by_cases c21 : y298.length + l0_1.length < 17592186044416
    ·rw [if_pos c21] at H
     have LMc21 := Aside0.mk c21
     clear c21
     obtain ⟨y301, hy301⟩ : ∃ y_ : List Int, y_ = (y298 ++ l0_1) := ⟨_, rfl⟩
     replace H : (if y301.length + t294.length < 17592186044416 then ((handshakerlaw20_ref.f t278 t281).bind fun bt307 => ((handshakerlaw20_ref.f t288 t291).bind fun bt313 => ((handshakerref20_Same.f kj3 bt307.1 bt307.2 bt313.1 bt313.2).bind fun t319 => (if t319 = true then ((some (([] : List Int) : List Int)).bind fun y320 => (if y320.length + t274.length < 17592186044416 then ((some (y320 ++ t274 : List Int)).bind fun y323 => (if y323.length + t284.length < 17592186044416 then ((handshakerref03_Numbers.f kj3 (y323 ++ t284) t294).bind fun t329 => (if t329 = true then ((handshakerref03_Numbers.f kj3 t291 (y301 ++ t294)).bind fun t330 => (if t330 = true then (if (t294.length : Int) = (mn (wrap64 ((wrap64 (Int.tmod a1 9)) + (wrap64 (Int.tmod a2 9)))) (l0_0.length : Int)) then ((handshakerlaw20_awake.f kj3).bind fun t331 => (some t331)) else (none)) else (none))) else (none))) else (none))) else (none))) else (none))))) else (none)) = some r := by first | (rw [hy301]; with_reducible exact H) | (have H2_ := (Option.bind_some _ _).symm.trans H; rw [hy301]; with_reducible exact H2_) | (have H2_ := (Option.bind_some _ _).symm.trans H; with_reducible exact H2_) | with_reducible exact H | (rw [hy301]; exact H) | exact H
     have Ny301 := Aside0.mk hy301
     clear hy301
     by_cases c22 : y301.length + t294.length < 17592186044416
     ·rw [if_pos c22] at H
      have LMc22 := Aside0.mk c22
      clear c22
      obtain ⟨y304, hy304⟩ : ∃ y_ : List Int, y_ = (y301 ++ t294) := ⟨_, rfl⟩
      replace H : ((handshakerlaw20_ref.f t278 t281).bind fun bt307 => ((handshakerlaw20_ref.f t288 t291).bind fun bt313 => ((handshakerref20_Same.f kj3 bt307.1 bt307.2 bt313.1 bt313.2).bind fun t319 => (if t319 = true then ((some (([] : List Int) : List Int)).bind fun y320 => (if y320.length + t274.length < 17592186044416 then ((some (y320 ++ t274 : List Int)).bind fun y323 => (if y323.length + t284.length < 17592186044416 then ((handshakerref03_Numbers.f kj3 (y323 ++ t284) t294).bind fun t329 => (if t329 = true then ((handshakerref03_Numbers.f kj3 t291 y304).bind fun t330 => (if t330 = true then (if (t294.length : Int) = (mn (wrap64 ((wrap64 (Int.tmod a1 9)) + (wrap64 (Int.tmod a2 9)))) (l0_0.length : Int)) then ((handshakerlaw20_awake.f kj3).bind fun t331 => (some t331)) else (none)) else (none))) else (none))) else (none))) else (none))) else (none))))) = some r := by first | (rw [hy304]; with_reducible exact H) | (have H2_ := (Option.bind_some _ _).symm.trans H; rw [hy304]; with_reducible exact H2_) | (have H2_ := (Option.bind_some _ _).symm.trans H; with_reducible exact H2_) | with_reducible exact H | (rw [hy304]; exact H) | exact H
      have Ny304 := Aside0.mk hy304
      clear hy304
      replace H := Option.bind_eq_some_iff.mp H
      obtain ⟨⟨t307, t310⟩, A230, H⟩ := H
      replace H : ((handshakerlaw20_ref.f t288 t291).bind fun bt313 => ((handshakerref20_Same.f kj3 t307 t310 bt313.1 bt313.2).bind fun t319 => (if t319 = true then ((some (([] : List Int) : List Int)).bind fun y320 => (if y320.length + t274.length < 17592186044416 then ((some (y320 ++ t274 : List Int)).bind fun y323 => (if y323.length + t284.length < 17592186044416 then ((handshakerref03_Numbers.f kj3 (y323 ++ t284) t294).bind fun t329 => (if t329 = true then ((handshakerref03_Numbers.f kj3 t291 y304).bind fun t330 => (if t330 = true then (if (t294.length : Int) = (mn (wrap64 ((wrap64 (Int.tmod a1 9)) + (wrap64 (Int.tmod a2 9)))) (l0_0.length : Int)) then ((handshakerlaw20_awake.f kj3).bind fun t331 => (some t331)) else (none)) else (none))) else (none))) else (none))) else (none))) else (none)))) = some r := H
      have A23 := Aside0.mk A230
      clear A230
      replace H := Option.bind_eq_some_iff.mp H
      obtain ⟨⟨t313, t316⟩, A240, H⟩ := H
      replace H : ((handshakerref20_Same.f kj3 t307 t310 t313 t316).bind fun t319 => (if t319 = true then ((some (([] : List Int) : List Int)).bind fun y320 => (if y320.length + t274.length < 17592186044416 then ((some (y320 ++ t274 : List Int)).bind fun y323 => (if y323.length + t284.length < 17592186044416 then ((handshakerref03_Numbers.f kj3 (y323 ++ t284) t294).bind fun t329 => (if t329 = true then ((handshakerref03_Numbers.f kj3 t291 y304).bind fun t330 => (if t330 = true then (if (t294.length : Int) = (mn (wrap64 ((wrap64 (Int.tmod a1 9)) + (wrap64 (Int.tmod a2 9)))) (l0_0.length : Int)) then ((handshakerlaw20_awake.f kj3).bind fun t331 => (some t331)) else (none)) else (none))) else (none))) else (none))) else (none))) else (none))) = some r := H
      have A24 := Aside0.mk A240
      clear A240
      replace H := Option.bind_eq_some_iff.mp H
      obtain ⟨t319, A250, H⟩ := H
      replace H : (if t319 = true then ((some (([] : List Int) : List Int)).bind fun y320 => (if y320.length + t274.length < 17592186044416 then ((some (y320 ++ t274 : List Int)).bind fun y323 => (if y323.length + t284.length < 17592186044416 then ((handshakerref03_Numbers.f kj3 (y323 ++ t284) t294).bind fun t329 => (if t329 = true then ((handshakerref03_Numbers.f kj3 t291 y304).bind fun t330 => (if t330 = true then (if (t294.length : Int) = (mn (wrap64 ((wrap64 (Int.tmod a1 9)) + (wrap64 (Int.tmod a2 9)))) (l0_0.length : Int)) then ((handshakerlaw20_awake.f kj3).bind fun t331 => (some t331)) else (none)) else (none))) else (none))) else (none))) else (none))) else (none)) = some r := H
      have A25 := Aside0.mk A250
      clear A250
      by_cases c26 : t319 = true
      ·subst c26
       have H1 : ((some (([] : List Int) : List Int)).bind fun y320 => (if y320.length + t274.length < 17592186044416 then ((some (y320 ++ t274 : List Int)).bind fun y323 => (if y323.length + t284.length < 17592186044416 then ((handshakerref03_Numbers.f kj3 (y323 ++ t284) t294).bind fun t329 => (if t329 = true then ((handshakerref03_Numbers.f kj3 t291 y304).bind fun t330 => (if t330 = true then (if (t294.length : Int) = (mn (wrap64 ((wrap64 (Int.tmod a1 9)) + (wrap64 (Int.tmod a2 9)))) (l0_0.length : Int)) then ((handshakerlaw20_awake.f kj3).bind fun t331 => (some t331)) else (none)) else (none))) else (none))) else (none))) else (none))) = some r := by rw [if_pos rfl] at H; exact H
       clear H
       have H := H1
       clear H1
       obtain ⟨y320, hy320⟩ : ∃ y_ : List Int, y_ = (([] : List Int)) := ⟨_, rfl⟩
       replace H : (if y320.length + t274.length < 17592186044416 then ((some (y320 ++ t274 : List Int)).bind fun y323 => (if y323.length + t284.length < 17592186044416 then ((handshakerref03_Numbers.f kj3 (y323 ++ t284) t294).bind fun t329 => (if t329 = true then ((handshakerref03_Numbers.f kj3 t291 y304).bind fun t330 => (if t330 = true then (if (t294.length : Int) = (mn (wrap64 ((wrap64 (Int.tmod a1 9)) + (wrap64 (Int.tmod a2 9)))) (l0_0.length : Int)) then ((handshakerlaw20_awake.f kj3).bind fun t331 => (some t331)) else (none)) else (none))) else (none))) else (none))) else (none)) = some r := by first | (rw [hy320]; with_reducible exact H) | (have H2_ := (Option.bind_some _ _).symm.trans H; rw [hy320]; with_reducible exact H2_) | (have H2_ := (Option.bind_some _ _).symm.trans H; with_reducible exact H2_) | with_reducible exact H | (rw [hy320]; exact H) | exact H
       have Ny320 := Aside0.mk hy320
       clear hy320
       by_cases c27 : y320.length + t274.length < 17592186044416
       ·rw [if_pos c27] at H
        have LMc27 := Aside0.mk c27
        clear c27
        obtain ⟨y323, hy323⟩ : ∃ y_ : List Int, y_ = (y320 ++ t274) := ⟨_, rfl⟩
        replace H : (if y323.length + t284.length < 17592186044416 then ((handshakerref03_Numbers.f kj3 (y323 ++ t284) t294).bind fun t329 => (if t329 = true then ((handshakerref03_Numbers.f kj3 t291 y304).bind fun t330 => (if t330 = true then (if (t294.length : Int) = (mn (wrap64 ((wrap64 (Int.tmod a1 9)) + (wrap64 (Int.tmod a2 9)))) (l0_0.length : Int)) then ((handshakerlaw20_awake.f kj3).bind fun t331 => (some t331)) else (none)) else (none))) else (none))) else (none)) = some r := by first | (rw [hy323]; with_reducible exact H) | (have H2_ := (Option.bind_some _ _).symm.trans H; rw [hy323]; with_reducible exact H2_) | (have H2_ := (Option.bind_some _ _).symm.trans H; with_reducible exact H2_) | with_reducible exact H | (rw [hy323]; exact H) | exact H
        have Ny323 := Aside0.mk hy323
        clear hy323
        by_cases c28 : y323.length + t284.length < 17592186044416
        ·rw [if_pos c28] at H
         have LMc28 := Aside0.mk c28
         clear c28
         obtain ⟨y326, hy326⟩ : ∃ y_ : List Int, y_ = (y323 ++ t284) := ⟨_, rfl⟩
         replace H : ((handshakerref03_Numbers.f kj3 y326 t294).bind fun t329 => (if t329 = true then ((handshakerref03_Numbers.f kj3 t291 y304).bind fun t330 => (if t330 = true then (if (t294.length : Int) = (mn (wrap64 ((wrap64 (Int.tmod a1 9)) + (wrap64 (Int.tmod a2 9)))) (l0_0.length : Int)) then ((handshakerlaw20_awake.f kj3).bind fun t331 => (some t331)) else (none)) else (none))) else (none))) = some r := by first | (rw [hy326]; with_reducible exact H) | (have H2_ := (Option.bind_some _ _).symm.trans H; rw [hy326]; with_reducible exact H2_) | (have H2_ := (Option.bind_some _ _).symm.trans H; with_reducible exact H2_) | with_reducible exact H | (rw [hy326]; exact H) | exact H
         have Ny326 := Aside0.mk hy326
         clear hy326
         replace H := Option.bind_eq_some_iff.mp H
         obtain ⟨t329, A290, H⟩ := H
         replace H : (if t329 = true then ((handshakerref03_Numbers.f kj3 t291 y304).bind fun t330 => (if t330 = true then (if (t294.length : Int) = (mn (wrap64 ((wrap64 (Int.tmod a1 9)) + (wrap64 (Int.tmod a2 9)))) (l0_0.length : Int)) then ((handshakerlaw20_awake.f kj3).bind fun t331 => (some t331)) else (none)) else (none))) else (none)) = some r := H
         have A29 := Aside0.mk A290
         clear A290
         by_cases c30 : t329 = true
         ·subst c30
          have H1 : ((handshakerref03_Numbers.f kj3 t291 y304).bind fun t330 => (if t330 = true then (if (t294.length : Int) = (mn (wrap64 ((wrap64 (Int.tmod a1 9)) + (wrap64 (Int.tmod a2 9)))) (l0_0.length : Int)) then ((handshakerlaw20_awake.f kj3).bind fun t331 => (some t331)) else (none)) else (none))) = some r := by rw [if_pos rfl] at H; exact H
          clear H
          have H := H1
          clear H1
          replace H := Option.bind_eq_some_iff.mp H
          obtain ⟨t330, A310, H⟩ := H
          replace H : (if t330 = true then (if (t294.length : Int) = (mn (wrap64 ((wrap64 (Int.tmod a1 9)) + (wrap64 (Int.tmod a2 9)))) (l0_0.length : Int)) then ((handshakerlaw20_awake.f kj3).bind fun t331 => (some t331)) else (none)) else (none)) = some r := H
          have A31 := Aside0.mk A310
          clear A310
          by_cases c32 : t330 = true
          ·subst c32
           have H1 : (if (t294.length : Int) = (mn (wrap64 ((wrap64 (Int.tmod a1 9)) + (wrap64 (Int.tmod a2 9)))) (l0_0.length : Int)) then ((handshakerlaw20_awake.f kj3).bind fun t331 => (some t331)) else (none)) = some r := by rw [if_pos rfl] at H; exact H
           clear H
           have H := H1
           clear H1
           obtain ⟨ji33, hji33⟩ : ∃ j_ : Int, (mn (wrap64 ((wrap64 (Int.tmod a1 9)) + (wrap64 (Int.tmod a2 9)))) (l0_0.length : Int)) = j_ := ⟨_, rfl⟩
           replace H : (if (t294.length : Int) = (ji33) then ((handshakerlaw20_awake.f kj3).bind fun t331 => (some t331)) else (none)) = some r := by first | (rw [hji33] at H; exact H) | (simp only [hji33] at H ⊢; exact H)
           (try rw [hji33] at A18)
           (try rw [hji33] at A19)
           (try rw [hji33] at A20)
           (try rw [hji33] at A23)
           (try rw [hji33] at A24)
           (try rw [hji33] at A25)
           (try rw [hji33] at A29)
           (try rw [hji33] at A31)
           have hji33_ : (if (l0_0.length : Int) < (wrap64 ((wrap64 (Int.tmod a1 9)) + (wrap64 (Int.tmod a2 9)))) then (l0_0.length : Int) else (wrap64 ((wrap64 (Int.tmod a1 9)) + (wrap64 (Int.tmod a2 9))))) = ji33 := hji33
           by_cases c34 : (t294.length : Int) = (ji33)
           ·rw [if_pos c34] at H
            have c34b0 : ((t294.length : Int) == (ji33)) = true := beq_iff_eq.mpr c34
            have c34b1 : ((t294.length : Int) != (ji33)) = false := bne_eq_false_iff_eq.mpr c34
            clear c34
            replace H := Option.bind_eq_some_iff.mp H
            obtain ⟨t331, A350, H⟩ := H
            replace H : (some t331) = some r := H
            have A35 := Aside0.mk A350
            clear A350
            obtain rfl := Option.some.inj H
            have hcz36_0 : wc.cell? ⟨gb264, 0, none⟩ = some (.slice A0_0 l0_0.length c0_0) := (blk_cell BK264.out 0).trans rfl
            have hcz36_1 : wc.cell? ⟨gb264, 1, none⟩ = some (.slice A0_1 l0_1.length c0_1) := (blk_cell BK264.out 1).trans rfl
            have hfz36_0 := blk_frozen BK264.out 0
            have hfz36_1 := blk_frozen BK264.out 1
            try go_wp2_with (first | ((with_reducible refine gate_callee (f := 13) rfl ?_); refine goesL_ (some 28) rfl rfl Try.func13 (by kernel_rfl) rfl #[.agg #[.slice A0_0 l0_0.length c0_0, .slice A0_1 l0_1.length c0_1], .int .i64 (wrap64 (Int.tmod a1 9))] rfl zm ?_; (with_reducible refine (cond_Signal.calls kj3 (fun k_ => k_ < w.heap.size) _ _ l0_0 (fun k_ => k_ < w.heap.size) _ _ l0_1 (wrap64 (Int.tmod a1 9)) t268 t271 t274 _ ?side1 ?side2 A18.out).mono ?_); (case side1 => exact Kd.V_mk HC0_0.out (Kd.F_below (Kd.C_F (Kd.heap_int .i64) HR0_0.out) (zc1 HB GE264))); (case side2 => exact Kd.V_mk HC0_1.out (Kd.F_below (Kd.C_F (Kd.heap_int .i64) HR0_1.out) (zc1 HB GE264))); rintro e w37 ⟨v269, v272, v275, rfl, ho0, ho1, ho2, hb⟩; refine ⟨_, rfl, ?_⟩; have n0_ := Aside0.mk (Kd.V_lower (Kd.V_mono (ok' := fun k_ => k_ ≠ gb264) ho0 (fun k_ hk_ => Or.elim hk_ (fun hs_ => Or.elim hs_ (fun hs_ => fun e_ => Nat.not_le.2 hs_ (by rw [e_]; exact GW264.out)) (fun hs_ => fun e_ => Nat.not_le.2 hs_ (by rw [e_]; exact GW264.out))) (fun hn_ => (Kd.freshB (g := gb264) (o := .cells #[.slice A0_0 l0_0.length c0_0, .slice A0_1 l0_1.length c0_1] 24 (0, 0)) (zb BK264) k_ hn_)))) (below_size (zc1 HB GE264))); have n1_ := Aside0.mk (Kd.V_lower (Kd.V_mono (ok' := fun k_ => k_ ≠ gb264) ho1 (fun k_ hk_ => Or.elim hk_ (fun hs_ => Or.elim hs_ (fun hs_ => fun e_ => Nat.not_le.2 hs_ (by rw [e_]; exact GW264.out)) (fun hs_ => fun e_ => Nat.not_le.2 hs_ (by rw [e_]; exact GW264.out))) (fun hn_ => (Kd.freshB (g := gb264) (o := .cells #[.slice A0_0 l0_0.length c0_0, .slice A0_1 l0_1.length c0_1] 24 (0, 0)) (zb BK264) k_ hn_)))) (below_size (zc1 HB GE264))); have n2_ := Aside0.mk (Kd.V_lower (Kd.V_mono (ok' := fun k_ => k_ ≠ gb264) ho2 (fun k_ hk_ => Or.elim hk_ (fun hs_ => Or.elim hs_ (fun hs_ => fun e_ => Nat.not_le.2 hs_ (by rw [e_]; exact GW264.out)) (fun hs_ => fun e_ => Nat.not_le.2 hs_ (by rw [e_]; exact GW264.out))) (fun hn_ => (Kd.freshB (g := gb264) (o := .cells #[.slice A0_0 l0_0.length c0_0, .slice A0_1 l0_1.length c0_1] 24 (0, 0)) (zb BK264) k_ hn_)))) (below_size (zc1 HB GE264))); have n3_ := Aside0.mk (blk_below (g := gb264) (o := .cells #[.slice A0_0 l0_0.length c0_0, .slice A0_1 l0_1.length c0_1] 24 (0, 0)) (zb BK264) hb); have n4_ := Aside0.mk (below_step (zc1 HB GE264) hb); clear BK264; clear HB; have HO270 := n0_; have HO273 := n1_; have HO276 := n2_; have BK264 := n3_; have HB := n4_; clear n0_ n1_ n2_ n3_ n4_; (try clear hb); (try clear hb2); (try clear hk); (try clear hi); (try clear ho0); (try clear ho1); (try clear ho2)) | ((with_reducible refine gate_dst (N := 7) rfl ?_); (try (refine gate_guard (by rfl) ?_; dsimp only)); refine box_event ?hg (N := 7) ?hd (cs := #[.slice none 0 0, .slice none 0 0]) (t := 24) ?hr ?_; (case hd => rfl); (case hg => rfl); (case hr => first | (go_simp; done) | (go_simp; rfl)); intro gb277 hg w38 hbox hb; have n0_ := Aside0.mk (Kd.V_below (Kd.V_elderB (zV HO270) gb277 (Nat.le_of_eq hg.symm)) hb); have n1_ := Aside0.mk (Kd.V_below (Kd.V_elderB (zV HO273) gb277 (Nat.le_of_eq hg.symm)) hb); have n2_ := Aside0.mk (Kd.V_below (Kd.V_elderB (zV HO276) gb277 (Nat.le_of_eq hg.symm)) hb); have n3_ := Aside0.mk (blk_below (g := gb264) (o := .cells #[.slice A0_0 l0_0.length c0_0, .slice A0_1 l0_1.length c0_1] 24 (0, 0)) (zb BK264) hb); have n4_ := Aside0.mk (below_step (zc1 HB GE264) hb); have n5_ := Aside0.mk (hbox); have n6_ := Aside0.mk ((by rw [hg]; exact (below_size (zc1 HB GE264)) : w.heap.size ≤ gb277)); have n7_ := Aside0.mk ((by rw [hg]; exact (below_size (zc1 HB GE264)) : w.heap.size ≤ gb277)); have n8_ := Aside0.mk ((by rw [hg]; exact Nat.ne_of_lt (blk_lt (g := gb264) (o := .cells #[.slice A0_0 l0_0.length c0_0, .slice A0_1 l0_1.length c0_1] 24 (0, 0)) (zb BK264)) : gb264 ≠ gb277)); have n9_ := Aside0.mk ((by rw [hg]; exact Nat.ne_of_gt (blk_lt (g := gb264) (o := .cells #[.slice A0_0 l0_0.length c0_0, .slice A0_1 l0_1.length c0_1] 24 (0, 0)) (zb BK264)) : gb277 ≠ gb264)); clear HO270; clear HO273; clear HO276; clear BK264; clear HB; have HO270 := n0_; have HO273 := n1_; have HO276 := n2_; have BK264 := n3_; have HB := n4_; have BK277 := n5_; have GW277 := n6_; have GE277 := n7_; have NB264_277 := n8_; have NB277_264 := n9_; clear n0_ n1_ n2_ n3_ n4_ n5_ n6_ n7_ n8_ n9_; clear hb hbox hg; obtain ⟨Ao39, co39, eo39⟩ := Kd.V_slice HO270.out; subst eo39; have hnb40 := NB277_264.out; have hnc40 := NB264_277.out; have hcz41_0 : w38.cell? ⟨gb277, 0, none⟩ = some (.slice none 0 0) := (blk_cell BK277.out 0).trans rfl; have hcz41_1 : w38.cell? ⟨gb277, 1, none⟩ = some (.slice none 0 0) := (blk_cell BK277.out 1).trans rfl; have hfz41_0 := blk_frozen BK277.out 0; have hfz41_1 := blk_frozen BK277.out 1; obtain ⟨Ao42, co42, eo42⟩ := Kd.V_slice HO273.out; subst eo42) | ((with_reducible refine gate_store (t := 24) (p := 7) rfl ?_); refine store_event (t := 24) (p := 7) (v := ?vo_w43) (w1 := ((w38.setCell ⟨gb277, 0, none⟩ (.slice Ao39 t268.length co39)).setCell ⟨gb277, 1, none⟩ (.slice Ao42 t271.length co42))) ?hg ?ho ?hn ?hr ?_; (case ho => rfl); (case hg => rfl); (case hn => rfl); (case hr => first | (go_simp; done) | (go_simp; rfl)); intro w43 hw; have n0_ : Aside0 (Kd.V (Kd.int .i64) 3 w43 w.heap.size (fun k_ => k_ ≠ gb264 ∧ k_ ≠ gb277) (.slice Ao39 t268.length co39) t268) := ⟨(by rw [hw]; exact (by (with_reducible repeat (first | apply Kd.V_alloc | apply Kd.V_drewN | apply Kd.V_drew)); exact Kd.V_mono (Kd.V_far (p := ⟨gb277, 1, none⟩) (Kd.V_far (p := ⟨gb277, 0, none⟩) (Kd.V_mono HO270.out (fun k_ hk => (⟨hk, hk.2⟩ : _ ∧ k_ ≠ gb277))) (fun _ hk => hk.2) (.slice Ao39 t268.length co39)) (fun _ hk => hk.2) (.slice Ao42 t271.length co42)) (fun _ hk => ⟨hk.1.1, hk.1.2⟩)))⟩; have n1_ : Aside0 (Kd.V (Kd.int .i64) 3 w43 w.heap.size (fun k_ => k_ ≠ gb264 ∧ k_ ≠ gb277) (.slice Ao42 t271.length co42) t271) := ⟨(by rw [hw]; exact (by (with_reducible repeat (first | apply Kd.V_alloc | apply Kd.V_drewN | apply Kd.V_drew)); exact Kd.V_mono (Kd.V_far (p := ⟨gb277, 1, none⟩) (Kd.V_far (p := ⟨gb277, 0, none⟩) (Kd.V_mono HO273.out (fun k_ hk => (⟨hk, hk.2⟩ : _ ∧ k_ ≠ gb277))) (fun _ hk => hk.2) (.slice Ao39 t268.length co39)) (fun _ hk => hk.2) (.slice Ao42 t271.length co42)) (fun _ hk => ⟨hk.1.1, hk.1.2⟩)))⟩; have n2_ : Aside0 (Kd.V (Kd.int .i64) 3 w43 w.heap.size (fun k_ => k_ ≠ gb264 ∧ k_ ≠ gb277) v275 t274) := ⟨(by rw [hw]; exact (by (with_reducible repeat (first | apply Kd.V_alloc | apply Kd.V_drewN | apply Kd.V_drew)); exact Kd.V_mono (Kd.V_far (p := ⟨gb277, 1, none⟩) (Kd.V_far (p := ⟨gb277, 0, none⟩) (Kd.V_mono HO276.out (fun k_ hk => (⟨hk, hk.2⟩ : _ ∧ k_ ≠ gb277))) (fun _ hk => hk.2) (.slice Ao39 t268.length co39)) (fun _ hk => hk.2) (.slice Ao42 t271.length co42)) (fun _ hk => ⟨hk.1.1, hk.1.2⟩)))⟩; have n3_ : Aside0 (w43.heap[gb264]? = some (.cells #[.slice A0_0 l0_0.length c0_0, .slice A0_1 l0_1.length c0_1] 24 (0, 0))) := ⟨(by rw [hw]; exact (by (with_reducible repeat (first | refine blk_drewN ?_ _ | refine blk_drew ?_ | refine blk_alloc ?_ _)); refine blk_far ?_ NB264_277.out _; (with_reducible repeat (first | refine blk_drewN ?_ _ | refine blk_drew ?_ | refine blk_alloc ?_ _)); refine blk_far ?_ NB264_277.out _; (with_reducible repeat (first | refine blk_drewN ?_ _ | refine blk_drew ?_ | refine blk_alloc ?_ _)); exact BK264.out))⟩; have n4_ : Aside0 (w43.heap[gb277]? = some (.cells #[.slice Ao39 t268.length co39, .slice Ao42 t271.length co42] 24 (0, 0))) := ⟨(by rw [hw]; exact (by (with_reducible repeat (first | refine blk_drewN ?_ _ | refine blk_drew ?_ | refine blk_alloc ?_ _)); refine blk_put (cs := #[.slice Ao39 t268.length co39, .slice none 0 0]) ?_ 1 _ rfl; (with_reducible repeat (first | refine blk_drewN ?_ _ | refine blk_drew ?_ | refine blk_alloc ?_ _)); refine blk_put (cs := #[.slice none 0 0, .slice none 0 0]) ?_ 0 _ rfl; (with_reducible repeat (first | refine blk_drewN ?_ _ | refine blk_drew ?_ | refine blk_alloc ?_ _)); exact BK277.out))⟩; have n5_ : Aside0 (Below w.heap.size w w43) := ⟨(by rw [hw]; exact (zc2 HB GE264 GE277))⟩; clear hw; clear HO270; clear HO273; clear HO276; clear BK264; clear BK277; clear HB; have HO270 := n0_; have HO273 := n1_; have HO276 := n2_; have BK264 := n3_; have BK277 := n4_; have HB := n5_; clear n0_ n1_ n2_ n3_ n4_ n5_; have hcz44_0 : w43.cell? ⟨gb277, 0, none⟩ = some (.slice Ao39 t268.length co39) := (blk_cell BK277.out 0).trans rfl; have hcz44_1 : w43.cell? ⟨gb277, 1, none⟩ = some (.slice Ao42 t271.length co42) := (blk_cell BK277.out 1).trans rfl; have hfz44_0 := blk_frozen BK277.out 0; have hfz44_1 := blk_frozen BK277.out 1) | ((with_reducible refine gate_callee (f := 13) rfl ?_); refine goesL_ (some 36) rfl rfl Try.func13 (by kernel_rfl) rfl #[.agg #[.slice Ao39 t268.length co39, .slice Ao42 t271.length co42], .int .i64 (wrap64 (Int.tmod a2 9))] rfl zm ?_; (with_reducible refine (cond_Signal.calls kj3 (fun k_ => (k_ ≠ gb264 ∧ k_ ≠ gb277)) _ _ t268 (fun k_ => (k_ ≠ gb264 ∧ k_ ≠ gb277)) _ _ t271 (wrap64 (Int.tmod a2 9)) t278 t281 t284 _ ?side1 ?side2 A19.out).mono ?_); (case side1 => exact HO270.out); (case side2 => exact HO273.out); rintro e w45 ⟨v279, v282, v285, rfl, ho0, ho1, ho2, hb⟩; refine ⟨_, rfl, ?_⟩; have n0_ := Aside0.mk (Kd.V_below (zV HO270) hb); have n1_ := Aside0.mk (Kd.V_below (zV HO273) hb); have n2_ := Aside0.mk (Kd.V_below (zV HO276) hb); have n3_ := Aside0.mk (Kd.V_lower (Kd.V_mono (ok' := fun k_ => k_ ≠ gb264 ∧ k_ ≠ gb277) ho0 (fun k_ hk_ => ⟨Or.elim hk_ (fun hs_ => Or.elim hs_ (fun hs_ => hs_.1) (fun hs_ => hs_.1)) (fun hn_ => (Kd.freshB (g := gb264) (o := .cells #[.slice A0_0 l0_0.length c0_0, .slice A0_1 l0_1.length c0_1] 24 (0, 0)) (zb BK264) k_ hn_)), Or.elim hk_ (fun hs_ => Or.elim hs_ (fun hs_ => hs_.2) (fun hs_ => hs_.2)) (fun hn_ => (Kd.freshB (g := gb277) (o := .cells #[.slice Ao39 t268.length co39, .slice Ao42 t271.length co42] 24 (0, 0)) (zb BK277) k_ hn_))⟩)) (below_size (zc2 HB GE264 GE277))); have n4_ := Aside0.mk (Kd.V_lower (Kd.V_mono (ok' := fun k_ => k_ ≠ gb264 ∧ k_ ≠ gb277) ho1 (fun k_ hk_ => ⟨Or.elim hk_ (fun hs_ => Or.elim hs_ (fun hs_ => hs_.1) (fun hs_ => hs_.1)) (fun hn_ => (Kd.freshB (g := gb264) (o := .cells #[.slice A0_0 l0_0.length c0_0, .slice A0_1 l0_1.length c0_1] 24 (0, 0)) (zb BK264) k_ hn_)), Or.elim hk_ (fun hs_ => Or.elim hs_ (fun hs_ => hs_.2) (fun hs_ => hs_.2)) (fun hn_ => (Kd.freshB (g := gb277) (o := .cells #[.slice Ao39 t268.length co39, .slice Ao42 t271.length co42] 24 (0, 0)) (zb BK277) k_ hn_))⟩)) (below_size (zc2 HB GE264 GE277))); have n5_ := Aside0.mk (Kd.V_lower (Kd.V_mono (ok' := fun k_ => k_ ≠ gb264 ∧ k_ ≠ gb277) ho2 (fun k_ hk_ => ⟨Or.elim hk_ (fun hs_ => Or.elim hs_ (fun hs_ => hs_.1) (fun hs_ => hs_.1)) (fun hn_ => (Kd.freshB (g := gb264) (o := .cells #[.slice A0_0 l0_0.length c0_0, .slice A0_1 l0_1.length c0_1] 24 (0, 0)) (zb BK264) k_ hn_)), Or.elim hk_ (fun hs_ => Or.elim hs_ (fun hs_ => hs_.2) (fun hs_ => hs_.2)) (fun hn_ => (Kd.freshB (g := gb277) (o := .cells #[.slice Ao39 t268.length co39, .slice Ao42 t271.length co42] 24 (0, 0)) (zb BK277) k_ hn_))⟩)) (below_size (zc2 HB GE264 GE277))); have n6_ := Aside0.mk (blk_below (g := gb264) (o := .cells #[.slice A0_0 l0_0.length c0_0, .slice A0_1 l0_1.length c0_1] 24 (0, 0)) (zb BK264) hb); have n7_ := Aside0.mk (blk_below (g := gb277) (o := .cells #[.slice Ao39 t268.length co39, .slice Ao42 t271.length co42] 24 (0, 0)) (zb BK277) hb); have n8_ := Aside0.mk (below_step (zc2 HB GE264 GE277) hb); clear HO270; clear HO273; clear HO276; clear BK264; clear BK277; clear HB; have HO270 := n0_; have HO273 := n1_; have HO276 := n2_; have HO280 := n3_; have HO283 := n4_; have HO286 := n5_; have BK264 := n6_; have BK277 := n7_; have HB := n8_; clear n0_ n1_ n2_ n3_ n4_ n5_ n6_ n7_ n8_; (try clear hb); (try clear hb2); (try clear hk); (try clear hi); (try clear ho0); (try clear ho1); (try clear ho2)) | ((with_reducible refine gate_dst (N := 9) rfl ?_); (try (refine gate_guard (by rfl) ?_; dsimp only)); refine box_event ?hg (N := 9) ?hd (cs := #[.slice none 0 0, .slice none 0 0]) (t := 24) ?hr ?_; (case hd => rfl); (case hg => rfl); (case hr => first | (go_simp; done) | (go_simp; rfl)); intro gb287 hg w46 hbox hb; have n0_ := Aside0.mk (Kd.V_below (Kd.V_elderB (zV HO270) gb287 (Nat.le_of_eq hg.symm)) hb); have n1_ := Aside0.mk (Kd.V_below (Kd.V_elderB (zV HO273) gb287 (Nat.le_of_eq hg.symm)) hb); have n2_ := Aside0.mk (Kd.V_below (Kd.V_elderB (zV HO276) gb287 (Nat.le_of_eq hg.symm)) hb); have n3_ := Aside0.mk (Kd.V_below (Kd.V_elderB (zV HO280) gb287 (Nat.le_of_eq hg.symm)) hb); have n4_ := Aside0.mk (Kd.V_below (Kd.V_elderB (zV HO283) gb287 (Nat.le_of_eq hg.symm)) hb); have n5_ := Aside0.mk (Kd.V_below (Kd.V_elderB (zV HO286) gb287 (Nat.le_of_eq hg.symm)) hb); have n6_ := Aside0.mk (blk_below (g := gb264) (o := .cells #[.slice A0_0 l0_0.length c0_0, .slice A0_1 l0_1.length c0_1] 24 (0, 0)) (zb BK264) hb); have n7_ := Aside0.mk (blk_below (g := gb277) (o := .cells #[.slice Ao39 t268.length co39, .slice Ao42 t271.length co42] 24 (0, 0)) (zb BK277) hb); have n8_ := Aside0.mk (below_step (zc2 HB GE264 GE277) hb); have n9_ := Aside0.mk (hbox); have n10_ := Aside0.mk ((by rw [hg]; exact (below_size (zc2 HB GE264 GE277)) : w.heap.size ≤ gb287)); have n11_ := Aside0.mk ((by rw [hg]; exact (below_size (zc2 HB GE264 GE277)) : w.heap.size ≤ gb287)); have n12_ := Aside0.mk ((by rw [hg]; exact Nat.ne_of_lt (blk_lt (g := gb264) (o := .cells #[.slice A0_0 l0_0.length c0_0, .slice A0_1 l0_1.length c0_1] 24 (0, 0)) (zb BK264)) : gb264 ≠ gb287)); have n13_ := Aside0.mk ((by rw [hg]; exact Nat.ne_of_gt (blk_lt (g := gb264) (o := .cells #[.slice A0_0 l0_0.length c0_0, .slice A0_1 l0_1.length c0_1] 24 (0, 0)) (zb BK264)) : gb287 ≠ gb264)); have n14_ := Aside0.mk ((by rw [hg]; exact Nat.ne_of_lt (blk_lt (g := gb277) (o := .cells #[.slice Ao39 t268.length co39, .slice Ao42 t271.length co42] 24 (0, 0)) (zb BK277)) : gb277 ≠ gb287)); have n15_ := Aside0.mk ((by rw [hg]; exact Nat.ne_of_gt (blk_lt (g := gb277) (o := .cells #[.slice Ao39 t268.length co39, .slice Ao42 t271.length co42] 24 (0, 0)) (zb BK277)) : gb287 ≠ gb277)); clear HO270; clear HO273; clear HO276; clear HO280; clear HO283; clear HO286; clear BK264; clear BK277; clear HB; have HO270 := n0_; have HO273 := n1_; have HO276 := n2_; have HO280 := n3_; have HO283 := n4_; have HO286 := n5_; have BK264 := n6_; have BK277 := n7_; have HB := n8_; have BK287 := n9_; have GW287 := n10_; have GE287 := n11_; have NB264_287 := n12_; have NB287_264 := n13_; have NB277_287 := n14_; have NB287_277 := n15_; clear n0_ n1_ n2_ n3_ n4_ n5_ n6_ n7_ n8_ n9_ n10_ n11_ n12_ n13_ n14_ n15_; clear hb hbox hg; obtain ⟨Ao47, co47, eo47⟩ := Kd.V_slice HO280.out; subst eo47; have hnb48 := NB287_264.out; have hnc48 := NB264_287.out; have hnb49 := NB287_277.out; have hnc49 := NB277_287.out; have hcz50_0 : w46.cell? ⟨gb287, 0, none⟩ = some (.slice none 0 0) := (blk_cell BK287.out 0).trans rfl; have hcz50_1 : w46.cell? ⟨gb287, 1, none⟩ = some (.slice none 0 0) := (blk_cell BK287.out 1).trans rfl; have hfz50_0 := blk_frozen BK287.out 0; have hfz50_1 := blk_frozen BK287.out 1; obtain ⟨Ao51, co51, eo51⟩ := Kd.V_slice HO283.out; subst eo51) | ((with_reducible refine gate_store (t := 24) (p := 9) rfl ?_); refine store_event (t := 24) (p := 9) (v := ?vo_w52) (w1 := ((w46.setCell ⟨gb287, 0, none⟩ (.slice Ao47 t278.length co47)).setCell ⟨gb287, 1, none⟩ (.slice Ao51 t281.length co51))) ?hg ?ho ?hn ?hr ?_; (case ho => rfl); (case hg => rfl); (case hn => rfl); (case hr => first | (go_simp; done) | (go_simp; rfl)); intro w52 hw; have n0_ : Aside0 (Kd.V (Kd.int .i64) 3 w52 w.heap.size (fun k_ => k_ ≠ gb264 ∧ k_ ≠ gb277 ∧ k_ ≠ gb287) (.slice Ao39 t268.length co39) t268) := ⟨(by rw [hw]; exact (by (with_reducible repeat (first | apply Kd.V_alloc | apply Kd.V_drewN | apply Kd.V_drew)); exact Kd.V_mono (Kd.V_far (p := ⟨gb287, 1, none⟩) (Kd.V_far (p := ⟨gb287, 0, none⟩) (Kd.V_mono HO270.out (fun k_ hk => (⟨hk, hk.2⟩ : _ ∧ k_ ≠ gb287))) (fun _ hk => hk.2) (.slice Ao47 t278.length co47)) (fun _ hk => hk.2) (.slice Ao51 t281.length co51)) (fun _ hk => ⟨hk.1.1.1, ⟨hk.1.1.2, hk.1.2⟩⟩)))⟩; have n1_ : Aside0 (Kd.V (Kd.int .i64) 3 w52 w.heap.size (fun k_ => k_ ≠ gb264 ∧ k_ ≠ gb277 ∧ k_ ≠ gb287) (.slice Ao42 t271.length co42) t271) := ⟨(by rw [hw]; exact (by (with_reducible repeat (first | apply Kd.V_alloc | apply Kd.V_drewN | apply Kd.V_drew)); exact Kd.V_mono (Kd.V_far (p := ⟨gb287, 1, none⟩) (Kd.V_far (p := ⟨gb287, 0, none⟩) (Kd.V_mono HO273.out (fun k_ hk => (⟨hk, hk.2⟩ : _ ∧ k_ ≠ gb287))) (fun _ hk => hk.2) (.slice Ao47 t278.length co47)) (fun _ hk => hk.2) (.slice Ao51 t281.length co51)) (fun _ hk => ⟨hk.1.1.1, ⟨hk.1.1.2, hk.1.2⟩⟩)))⟩; have n2_ : Aside0 (Kd.V (Kd.int .i64) 3 w52 w.heap.size (fun k_ => k_ ≠ gb264 ∧ k_ ≠ gb277 ∧ k_ ≠ gb287) v275 t274) := ⟨(by rw [hw]; exact (by (with_reducible repeat (first | apply Kd.V_alloc | apply Kd.V_drewN | apply Kd.V_drew)); exact Kd.V_mono (Kd.V_far (p := ⟨gb287, 1, none⟩) (Kd.V_far (p := ⟨gb287, 0, none⟩) (Kd.V_mono HO276.out (fun k_ hk => (⟨hk, hk.2⟩ : _ ∧ k_ ≠ gb287))) (fun _ hk => hk.2) (.slice Ao47 t278.length co47)) (fun _ hk => hk.2) (.slice Ao51 t281.length co51)) (fun _ hk => ⟨hk.1.1.1, ⟨hk.1.1.2, hk.1.2⟩⟩)))⟩; have n3_ : Aside0 (Kd.V (Kd.int .i64) 3 w52 w.heap.size (fun k_ => k_ ≠ gb264 ∧ k_ ≠ gb277 ∧ k_ ≠ gb287) (.slice Ao47 t278.length co47) t278) := ⟨(by rw [hw]; exact (by (with_reducible repeat (first | apply Kd.V_alloc | apply Kd.V_drewN | apply Kd.V_drew)); exact Kd.V_mono (Kd.V_far (p := ⟨gb287, 1, none⟩) (Kd.V_far (p := ⟨gb287, 0, none⟩) (Kd.V_mono HO280.out (fun k_ hk => (⟨hk, hk.2⟩ : _ ∧ k_ ≠ gb287))) (fun _ hk => hk.2) (.slice Ao47 t278.length co47)) (fun _ hk => hk.2) (.slice Ao51 t281.length co51)) (fun _ hk => ⟨hk.1.1.1, ⟨hk.1.1.2, hk.1.2⟩⟩)))⟩; have n4_ : Aside0 (Kd.V (Kd.int .i64) 3 w52 w.heap.size (fun k_ => k_ ≠ gb264 ∧ k_ ≠ gb277 ∧ k_ ≠ gb287) (.slice Ao51 t281.length co51) t281) := ⟨(by rw [hw]; exact (by (with_reducible repeat (first | apply Kd.V_alloc | apply Kd.V_drewN | apply Kd.V_drew)); exact Kd.V_mono (Kd.V_far (p := ⟨gb287, 1, none⟩) (Kd.V_far (p := ⟨gb287, 0, none⟩) (Kd.V_mono HO283.out (fun k_ hk => (⟨hk, hk.2⟩ : _ ∧ k_ ≠ gb287))) (fun _ hk => hk.2) (.slice Ao47 t278.length co47)) (fun _ hk => hk.2) (.slice Ao51 t281.length co51)) (fun _ hk => ⟨hk.1.1.1, ⟨hk.1.1.2, hk.1.2⟩⟩)))⟩; have n5_ : Aside0 (Kd.V (Kd.int .i64) 3 w52 w.heap.size (fun k_ => k_ ≠ gb264 ∧ k_ ≠ gb277 ∧ k_ ≠ gb287) v285 t284) := ⟨(by rw [hw]; exact (by (with_reducible repeat (first | apply Kd.V_alloc | apply Kd.V_drewN | apply Kd.V_drew)); exact Kd.V_mono (Kd.V_far (p := ⟨gb287, 1, none⟩) (Kd.V_far (p := ⟨gb287, 0, none⟩) (Kd.V_mono HO286.out (fun k_ hk => (⟨hk, hk.2⟩ : _ ∧ k_ ≠ gb287))) (fun _ hk => hk.2) (.slice Ao47 t278.length co47)) (fun _ hk => hk.2) (.slice Ao51 t281.length co51)) (fun _ hk => ⟨hk.1.1.1, ⟨hk.1.1.2, hk.1.2⟩⟩)))⟩; have n6_ : Aside0 (w52.heap[gb264]? = some (.cells #[.slice A0_0 l0_0.length c0_0, .slice A0_1 l0_1.length c0_1] 24 (0, 0))) := ⟨(by rw [hw]; exact (by (with_reducible repeat (first | refine blk_drewN ?_ _ | refine blk_drew ?_ | refine blk_alloc ?_ _)); refine blk_far ?_ NB264_287.out _; (with_reducible repeat (first | refine blk_drewN ?_ _ | refine blk_drew ?_ | refine blk_alloc ?_ _)); refine blk_far ?_ NB264_287.out _; (with_reducible repeat (first | refine blk_drewN ?_ _ | refine blk_drew ?_ | refine blk_alloc ?_ _)); exact BK264.out))⟩; have n7_ : Aside0 (w52.heap[gb277]? = some (.cells #[.slice Ao39 t268.length co39, .slice Ao42 t271.length co42] 24 (0, 0))) := ⟨(by rw [hw]; exact (by (with_reducible repeat (first | refine blk_drewN ?_ _ | refine blk_drew ?_ | refine blk_alloc ?_ _)); refine blk_far ?_ NB277_287.out _; (with_reducible repeat (first | refine blk_drewN ?_ _ | refine blk_drew ?_ | refine blk_alloc ?_ _)); refine blk_far ?_ NB277_287.out _; (with_reducible repeat (first | refine blk_drewN ?_ _ | refine blk_drew ?_ | refine blk_alloc ?_ _)); exact BK277.out))⟩; have n8_ : Aside0 (w52.heap[gb287]? = some (.cells #[.slice Ao47 t278.length co47, .slice Ao51 t281.length co51] 24 (0, 0))) := ⟨(by rw [hw]; exact (by (with_reducible repeat (first | refine blk_drewN ?_ _ | refine blk_drew ?_ | refine blk_alloc ?_ _)); refine blk_put (cs := #[.slice Ao47 t278.length co47, .slice none 0 0]) ?_ 1 _ rfl; (with_reducible repeat (first | refine blk_drewN ?_ _ | refine blk_drew ?_ | refine blk_alloc ?_ _)); refine blk_put (cs := #[.slice none 0 0, .slice none 0 0]) ?_ 0 _ rfl; (with_reducible repeat (first | refine blk_drewN ?_ _ | refine blk_drew ?_ | refine blk_alloc ?_ _)); exact BK287.out))⟩; have n9_ : Aside0 (Below w.heap.size w w52) := ⟨(by rw [hw]; exact (zc3 HB GE264 GE277 GE287))⟩; clear hw; clear HO270; clear HO273; clear HO276; clear HO280; clear HO283; clear HO286; clear BK264; clear BK277; clear BK287; clear HB; have HO270 := n0_; have HO273 := n1_; have HO276 := n2_; have HO280 := n3_; have HO283 := n4_; have HO286 := n5_; have BK264 := n6_; have BK277 := n7_; have BK287 := n8_; have HB := n9_; clear n0_ n1_ n2_ n3_ n4_ n5_ n6_ n7_ n8_ n9_; have hcz53_0 : w52.cell? ⟨gb264, 0, none⟩ = some (.slice A0_0 l0_0.length c0_0) := (blk_cell BK264.out 0).trans rfl; have hcz53_1 : w52.cell? ⟨gb264, 1, none⟩ = some (.slice A0_1 l0_1.length c0_1) := (blk_cell BK264.out 1).trans rfl; have hfz53_0 := blk_frozen BK264.out 0; have hfz53_1 := blk_frozen BK264.out 1) | ((with_reducible refine gate_callee (f := 13) rfl ?_); refine goesL_ (some 48) rfl rfl Try.func13 (by kernel_rfl) rfl #[.agg #[.slice A0_0 l0_0.length c0_0, .slice A0_1 l0_1.length c0_1], .int .i64 (wrap64 ((wrap64 (Int.tmod a1 9)) + (wrap64 (Int.tmod a2 9))))] rfl zm ?_; (with_reducible refine (cond_Signal.calls kj3 (fun k_ => k_ < w.heap.size) _ _ l0_0 (fun k_ => k_ < w.heap.size) _ _ l0_1 (wrap64 ((wrap64 (Int.tmod a1 9)) + (wrap64 (Int.tmod a2 9)))) t288 t291 t294 _ ?side1 ?side2 A20.out).mono ?_); (case side1 => exact Kd.V_mk HC0_0.out (Kd.F_below (Kd.C_F (Kd.heap_int .i64) HR0_0.out) (zc3 HB GE264 GE277 GE287))); (case side2 => exact Kd.V_mk HC0_1.out (Kd.F_below (Kd.C_F (Kd.heap_int .i64) HR0_1.out) (zc3 HB GE264 GE277 GE287))); rintro e w54 ⟨v289, v292, v295, rfl, ho0, ho1, ho2, hb⟩; refine ⟨_, rfl, ?_⟩; have n0_ := Aside0.mk (Kd.V_below (zV HO270) hb); have n1_ := Aside0.mk (Kd.V_below (zV HO273) hb); have n2_ := Aside0.mk (Kd.V_below (zV HO276) hb); have n3_ := Aside0.mk (Kd.V_below (zV HO280) hb); have n4_ := Aside0.mk (Kd.V_below (zV HO283) hb); have n5_ := Aside0.mk (Kd.V_below (zV HO286) hb); have n6_ := Aside0.mk (Kd.V_lower (Kd.V_mono (ok' := fun k_ => k_ ≠ gb264 ∧ k_ ≠ gb277 ∧ k_ ≠ gb287) ho0 (fun k_ hk_ => ⟨Or.elim hk_ (fun hs_ => Or.elim hs_ (fun hs_ => fun e_ => Nat.not_le.2 hs_ (by rw [e_]; exact GW264.out)) (fun hs_ => fun e_ => Nat.not_le.2 hs_ (by rw [e_]; exact GW264.out))) (fun hn_ => (Kd.freshB (g := gb264) (o := .cells #[.slice A0_0 l0_0.length c0_0, .slice A0_1 l0_1.length c0_1] 24 (0, 0)) (zb BK264) k_ hn_)), Or.elim hk_ (fun hs_ => Or.elim hs_ (fun hs_ => fun e_ => Nat.not_le.2 hs_ (by rw [e_]; exact GW277.out)) (fun hs_ => fun e_ => Nat.not_le.2 hs_ (by rw [e_]; exact GW277.out))) (fun hn_ => (Kd.freshB (g := gb277) (o := .cells #[.slice Ao39 t268.length co39, .slice Ao42 t271.length co42] 24 (0, 0)) (zb BK277) k_ hn_)), Or.elim hk_ (fun hs_ => Or.elim hs_ (fun hs_ => fun e_ => Nat.not_le.2 hs_ (by rw [e_]; exact GW287.out)) (fun hs_ => fun e_ => Nat.not_le.2 hs_ (by rw [e_]; exact GW287.out))) (fun hn_ => (Kd.freshB (g := gb287) (o := .cells #[.slice Ao47 t278.length co47, .slice Ao51 t281.length co51] 24 (0, 0)) (zb BK287) k_ hn_))⟩)) (below_size (zc3 HB GE264 GE277 GE287))); have n7_ := Aside0.mk (Kd.V_lower (Kd.V_mono (ok' := fun k_ => k_ ≠ gb264 ∧ k_ ≠ gb277 ∧ k_ ≠ gb287) ho1 (fun k_ hk_ => ⟨Or.elim hk_ (fun hs_ => Or.elim hs_ (fun hs_ => fun e_ => Nat.not_le.2 hs_ (by rw [e_]; exact GW264.out)) (fun hs_ => fun e_ => Nat.not_le.2 hs_ (by rw [e_]; exact GW264.out))) (fun hn_ => (Kd.freshB (g := gb264) (o := .cells #[.slice A0_0 l0_0.length c0_0, .slice A0_1 l0_1.length c0_1] 24 (0, 0)) (zb BK264) k_ hn_)), Or.elim hk_ (fun hs_ => Or.elim hs_ (fun hs_ => fun e_ => Nat.not_le.2 hs_ (by rw [e_]; exact GW277.out)) (fun hs_ => fun e_ => Nat.not_le.2 hs_ (by rw [e_]; exact GW277.out))) (fun hn_ => (Kd.freshB (g := gb277) (o := .cells #[.slice Ao39 t268.length co39, .slice Ao42 t271.length co42] 24 (0, 0)) (zb BK277) k_ hn_)), Or.elim hk_ (fun hs_ => Or.elim hs_ (fun hs_ => fun e_ => Nat.not_le.2 hs_ (by rw [e_]; exact GW287.out)) (fun hs_ => fun e_ => Nat.not_le.2 hs_ (by rw [e_]; exact GW287.out))) (fun hn_ => (Kd.freshB (g := gb287) (o := .cells #[.slice Ao47 t278.length co47, .slice Ao51 t281.length co51] 24 (0, 0)) (zb BK287) k_ hn_))⟩)) (below_size (zc3 HB GE264 GE277 GE287))); have n8_ := Aside0.mk (Kd.V_lower (Kd.V_mono (ok' := fun k_ => k_ ≠ gb264 ∧ k_ ≠ gb277 ∧ k_ ≠ gb287) ho2 (fun k_ hk_ => ⟨Or.elim hk_ (fun hs_ => Or.elim hs_ (fun hs_ => fun e_ => Nat.not_le.2 hs_ (by rw [e_]; exact GW264.out)) (fun hs_ => fun e_ => Nat.not_le.2 hs_ (by rw [e_]; exact GW264.out))) (fun hn_ => (Kd.freshB (g := gb264) (o := .cells #[.slice A0_0 l0_0.length c0_0, .slice A0_1 l0_1.length c0_1] 24 (0, 0)) (zb BK264) k_ hn_)), Or.elim hk_ (fun hs_ => Or.elim hs_ (fun hs_ => fun e_ => Nat.not_le.2 hs_ (by rw [e_]; exact GW277.out)) (fun hs_ => fun e_ => Nat.not_le.2 hs_ (by rw [e_]; exact GW277.out))) (fun hn_ => (Kd.freshB (g := gb277) (o := .cells #[.slice Ao39 t268.length co39, .slice Ao42 t271.length co42] 24 (0, 0)) (zb BK277) k_ hn_)), Or.elim hk_ (fun hs_ => Or.elim hs_ (fun hs_ => fun e_ => Nat.not_le.2 hs_ (by rw [e_]; exact GW287.out)) (fun hs_ => fun e_ => Nat.not_le.2 hs_ (by rw [e_]; exact GW287.out))) (fun hn_ => (Kd.freshB (g := gb287) (o := .cells #[.slice Ao47 t278.length co47, .slice Ao51 t281.length co51] 24 (0, 0)) (zb BK287) k_ hn_))⟩)) (below_size (zc3 HB GE264 GE277 GE287))); have n9_ := Aside0.mk (blk_below (g := gb264) (o := .cells #[.slice A0_0 l0_0.length c0_0, .slice A0_1 l0_1.length c0_1] 24 (0, 0)) (zb BK264) hb); have n10_ := Aside0.mk (blk_below (g := gb277) (o := .cells #[.slice Ao39 t268.length co39, .slice Ao42 t271.length co42] 24 (0, 0)) (zb BK277) hb); have n11_ := Aside0.mk (blk_below (g := gb287) (o := .cells #[.slice Ao47 t278.length co47, .slice Ao51 t281.length co51] 24 (0, 0)) (zb BK287) hb); have n12_ := Aside0.mk (below_step (zc3 HB GE264 GE277 GE287) hb); clear HO270; clear HO273; clear HO276; clear HO280; clear HO283; clear HO286; clear BK264; clear BK277; clear BK287; clear HB; have HO270 := n0_; have HO273 := n1_; have HO276 := n2_; have HO280 := n3_; have HO283 := n4_; have HO286 := n5_; have HO290 := n6_; have HO293 := n7_; have HO296 := n8_; have BK264 := n9_; have BK277 := n10_; have BK287 := n11_; have HB := n12_; clear n0_ n1_ n2_ n3_ n4_ n5_ n6_ n7_ n8_ n9_ n10_ n11_ n12_; (try clear hb); (try clear hb2); (try clear hk); (try clear hi); (try clear ho0); (try clear ho1); (try clear ho2)) | ((with_reducible refine gate_dst (N := 11) rfl ?_); (try (refine gate_guard (by rfl) ?_; dsimp only)); refine box_event ?hg (N := 11) ?hd (cs := #[.slice none 0 0, .slice none 0 0]) (t := 24) ?hr ?_; (case hd => rfl); (case hg => rfl); (case hr => first | (go_simp; done) | (go_simp; rfl)); intro gb297 hg w55 hbox hb; have n0_ := Aside0.mk (Kd.V_below (Kd.V_elderB (zV HO270) gb297 (Nat.le_of_eq hg.symm)) hb); have n1_ := Aside0.mk (Kd.V_below (Kd.V_elderB (zV HO273) gb297 (Nat.le_of_eq hg.symm)) hb); have n2_ := Aside0.mk (Kd.V_below (Kd.V_elderB (zV HO276) gb297 (Nat.le_of_eq hg.symm)) hb); have n3_ := Aside0.mk (Kd.V_below (Kd.V_elderB (zV HO280) gb297 (Nat.le_of_eq hg.symm)) hb); have n4_ := Aside0.mk (Kd.V_below (Kd.V_elderB (zV HO283) gb297 (Nat.le_of_eq hg.symm)) hb); have n5_ := Aside0.mk (Kd.V_below (Kd.V_elderB (zV HO286) gb297 (Nat.le_of_eq hg.symm)) hb); have n6_ := Aside0.mk (Kd.V_below (Kd.V_elderB (zV HO290) gb297 (Nat.le_of_eq hg.symm)) hb); have n7_ := Aside0.mk (Kd.V_below (Kd.V_elderB (zV HO293) gb297 (Nat.le_of_eq hg.symm)) hb); have n8_ := Aside0.mk (Kd.V_below (Kd.V_elderB (zV HO296) gb297 (Nat.le_of_eq hg.symm)) hb); have n9_ := Aside0.mk (blk_below (g := gb264) (o := .cells #[.slice A0_0 l0_0.length c0_0, .slice A0_1 l0_1.length c0_1] 24 (0, 0)) (zb BK264) hb); have n10_ := Aside0.mk (blk_below (g := gb277) (o := .cells #[.slice Ao39 t268.length co39, .slice Ao42 t271.length co42] 24 (0, 0)) (zb BK277) hb); have n11_ := Aside0.mk (blk_below (g := gb287) (o := .cells #[.slice Ao47 t278.length co47, .slice Ao51 t281.length co51] 24 (0, 0)) (zb BK287) hb); have n12_ := Aside0.mk (below_step (zc3 HB GE264 GE277 GE287) hb); have n13_ := Aside0.mk (hbox); have n14_ := Aside0.mk ((by rw [hg]; exact (below_size (zc3 HB GE264 GE277 GE287)) : w.heap.size ≤ gb297)); have n15_ := Aside0.mk ((by rw [hg]; exact (below_size (zc3 HB GE264 GE277 GE287)) : w.heap.size ≤ gb297)); have n16_ := Aside0.mk ((by rw [hg]; exact Nat.ne_of_lt (blk_lt (g := gb264) (o := .cells #[.slice A0_0 l0_0.length c0_0, .slice A0_1 l0_1.length c0_1] 24 (0, 0)) (zb BK264)) : gb264 ≠ gb297)); have n17_ := Aside0.mk ((by rw [hg]; exact Nat.ne_of_gt (blk_lt (g := gb264) (o := .cells #[.slice A0_0 l0_0.length c0_0, .slice A0_1 l0_1.length c0_1] 24 (0, 0)) (zb BK264)) : gb297 ≠ gb264)); have n18_ := Aside0.mk ((by rw [hg]; exact Nat.ne_of_lt (blk_lt (g := gb277) (o := .cells #[.slice Ao39 t268.length co39, .slice Ao42 t271.length co42] 24 (0, 0)) (zb BK277)) : gb277 ≠ gb297)); have n19_ := Aside0.mk ((by rw [hg]; exact Nat.ne_of_gt (blk_lt (g := gb277) (o := .cells #[.slice Ao39 t268.length co39, .slice Ao42 t271.length co42] 24 (0, 0)) (zb BK277)) : gb297 ≠ gb277)); have n20_ := Aside0.mk ((by rw [hg]; exact Nat.ne_of_lt (blk_lt (g := gb287) (o := .cells #[.slice Ao47 t278.length co47, .slice Ao51 t281.length co51] 24 (0, 0)) (zb BK287)) : gb287 ≠ gb297)); have n21_ := Aside0.mk ((by rw [hg]; exact Nat.ne_of_gt (blk_lt (g := gb287) (o := .cells #[.slice Ao47 t278.length co47, .slice Ao51 t281.length co51] 24 (0, 0)) (zb BK287)) : gb297 ≠ gb287)); clear HO270; clear HO273; clear HO276; clear HO280; clear HO283; clear HO286; clear HO290; clear HO293; clear HO296; clear BK264; clear BK277; clear BK287; clear HB; have HO270 := n0_; have HO273 := n1_; have HO276 := n2_; have HO280 := n3_; have HO283 := n4_; have HO286 := n5_; have HO290 := n6_; have HO293 := n7_; have HO296 := n8_; have BK264 := n9_; have BK277 := n10_; have BK287 := n11_; have HB := n12_; have BK297 := n13_; have GW297 := n14_; have GE297 := n15_; have NB264_297 := n16_; have NB297_264 := n17_; have NB277_297 := n18_; have NB297_277 := n19_; have NB287_297 := n20_; have NB297_287 := n21_; clear n0_ n1_ n2_ n3_ n4_ n5_ n6_ n7_ n8_ n9_ n10_ n11_ n12_ n13_ n14_ n15_ n16_ n17_ n18_ n19_ n20_ n21_; clear hb hbox hg; obtain ⟨Ao56, co56, eo56⟩ := Kd.V_slice HO290.out; subst eo56; have hnb57 := NB297_264.out; have hnc57 := NB264_297.out; have hnb58 := NB297_277.out; have hnc58 := NB277_297.out; have hnb59 := NB297_287.out; have hnc59 := NB287_297.out; have hcz60_0 : w55.cell? ⟨gb297, 0, none⟩ = some (.slice none 0 0) := (blk_cell BK297.out 0).trans rfl; have hcz60_1 : w55.cell? ⟨gb297, 1, none⟩ = some (.slice none 0 0) := (blk_cell BK297.out 1).trans rfl; have hfz60_0 := blk_frozen BK297.out 0; have hfz60_1 := blk_frozen BK297.out 1; obtain ⟨Ao61, co61, eo61⟩ := Kd.V_slice HO293.out; subst eo61) | ((with_reducible refine gate_dst (N := 51) rfl ?_); (try (refine gate_guard (by rfl) ?_; dsimp only)); refine Kd.R_lit (Kd.int .i64) _ 3 ?hg (N := 51) ?hd (xs := ([] : List Int)) (inner := []) (ok := fun _ => True) (okp := fun _ => True) ?hr ?hp (fun _ hk => hk) trivial (Below.refl _ _) (Nat.le_refl _) (by simp) ?_; (case hd => rfl); (case hg => rfl); (case hr => first | (go_simp; done) | (go_simp; rfl)); (case hp => exact (Reps.none _ _)); intro v299 w62 ho63 hb hg_ hnew_; clear hg_ hnew_; (first | rw [← Ny298.out] at ho63 | (simp only [Int.reduceToNat] at ho63; rw [← Ny298.out] at ho63)); have n0_ := Aside0.mk (Kd.V_elder' (by (with_reducible repeat (first | apply Kd.V_alloc | apply Kd.V_drewN | apply Kd.V_drew)); exact (Kd.V_mono (Kd.V_far (p := ⟨gb297, 1, none⟩) (Kd.V_far (p := ⟨gb297, 0, none⟩) (Kd.V_mono HO270.out (fun k_ hk => (⟨hk, hk.2⟩ : _ ∧ k_ ≠ gb297))) (fun _ hk => hk.2) (.slice Ao56 t288.length co56)) (fun _ hk => hk.2) (.slice Ao61 t291.length co61)) (fun _ h_ => h_.1))) (Kd.R_base ho63) hb); have n1_ := Aside0.mk (Kd.V_elder' (by (with_reducible repeat (first | apply Kd.V_alloc | apply Kd.V_drewN | apply Kd.V_drew)); exact (Kd.V_mono (Kd.V_far (p := ⟨gb297, 1, none⟩) (Kd.V_far (p := ⟨gb297, 0, none⟩) (Kd.V_mono HO273.out (fun k_ hk => (⟨hk, hk.2⟩ : _ ∧ k_ ≠ gb297))) (fun _ hk => hk.2) (.slice Ao56 t288.length co56)) (fun _ hk => hk.2) (.slice Ao61 t291.length co61)) (fun _ h_ => h_.1))) (Kd.R_base ho63) hb); have n2_ := Aside0.mk (Kd.V_elder' (by (with_reducible repeat (first | apply Kd.V_alloc | apply Kd.V_drewN | apply Kd.V_drew)); exact (Kd.V_mono (Kd.V_far (p := ⟨gb297, 1, none⟩) (Kd.V_far (p := ⟨gb297, 0, none⟩) (Kd.V_mono HO276.out (fun k_ hk => (⟨hk, hk.2⟩ : _ ∧ k_ ≠ gb297))) (fun _ hk => hk.2) (.slice Ao56 t288.length co56)) (fun _ hk => hk.2) (.slice Ao61 t291.length co61)) (fun _ h_ => h_.1))) (Kd.R_base ho63) hb); have n3_ := Aside0.mk (Kd.V_elder' (by (with_reducible repeat (first | apply Kd.V_alloc | apply Kd.V_drewN | apply Kd.V_drew)); exact (Kd.V_mono (Kd.V_far (p := ⟨gb297, 1, none⟩) (Kd.V_far (p := ⟨gb297, 0, none⟩) (Kd.V_mono HO280.out (fun k_ hk => (⟨hk, hk.2⟩ : _ ∧ k_ ≠ gb297))) (fun _ hk => hk.2) (.slice Ao56 t288.length co56)) (fun _ hk => hk.2) (.slice Ao61 t291.length co61)) (fun _ h_ => h_.1))) (Kd.R_base ho63) hb); have n4_ := Aside0.mk (Kd.V_elder' (by (with_reducible repeat (first | apply Kd.V_alloc | apply Kd.V_drewN | apply Kd.V_drew)); exact (Kd.V_mono (Kd.V_far (p := ⟨gb297, 1, none⟩) (Kd.V_far (p := ⟨gb297, 0, none⟩) (Kd.V_mono HO283.out (fun k_ hk => (⟨hk, hk.2⟩ : _ ∧ k_ ≠ gb297))) (fun _ hk => hk.2) (.slice Ao56 t288.length co56)) (fun _ hk => hk.2) (.slice Ao61 t291.length co61)) (fun _ h_ => h_.1))) (Kd.R_base ho63) hb); have n5_ := Aside0.mk (Kd.V_elder' (by (with_reducible repeat (first | apply Kd.V_alloc | apply Kd.V_drewN | apply Kd.V_drew)); exact (Kd.V_mono (Kd.V_far (p := ⟨gb297, 1, none⟩) (Kd.V_far (p := ⟨gb297, 0, none⟩) (Kd.V_mono HO286.out (fun k_ hk => (⟨hk, hk.2⟩ : _ ∧ k_ ≠ gb297))) (fun _ hk => hk.2) (.slice Ao56 t288.length co56)) (fun _ hk => hk.2) (.slice Ao61 t291.length co61)) (fun _ h_ => h_.1))) (Kd.R_base ho63) hb); have n6_ := Aside0.mk (Kd.V_elder' (by (with_reducible repeat (first | apply Kd.V_alloc | apply Kd.V_drewN | apply Kd.V_drew)); exact (Kd.V_mono (Kd.V_far (p := ⟨gb297, 1, none⟩) (Kd.V_far (p := ⟨gb297, 0, none⟩) (Kd.V_mono HO290.out (fun k_ hk => (⟨hk, hk.2⟩ : _ ∧ k_ ≠ gb297))) (fun _ hk => hk.2) (.slice Ao56 t288.length co56)) (fun _ hk => hk.2) (.slice Ao61 t291.length co61)) (fun _ h_ => h_.1))) (Kd.R_base ho63) hb); have n7_ := Aside0.mk (Kd.V_elder' (by (with_reducible repeat (first | apply Kd.V_alloc | apply Kd.V_drewN | apply Kd.V_drew)); exact (Kd.V_mono (Kd.V_far (p := ⟨gb297, 1, none⟩) (Kd.V_far (p := ⟨gb297, 0, none⟩) (Kd.V_mono HO293.out (fun k_ hk => (⟨hk, hk.2⟩ : _ ∧ k_ ≠ gb297))) (fun _ hk => hk.2) (.slice Ao56 t288.length co56)) (fun _ hk => hk.2) (.slice Ao61 t291.length co61)) (fun _ h_ => h_.1))) (Kd.R_base ho63) hb); have n8_ := Aside0.mk (Kd.V_elder' (by (with_reducible repeat (first | apply Kd.V_alloc | apply Kd.V_drewN | apply Kd.V_drew)); exact (Kd.V_mono (Kd.V_far (p := ⟨gb297, 1, none⟩) (Kd.V_far (p := ⟨gb297, 0, none⟩) (Kd.V_mono HO296.out (fun k_ hk => (⟨hk, hk.2⟩ : _ ∧ k_ ≠ gb297))) (fun _ hk => hk.2) (.slice Ao56 t288.length co56)) (fun _ hk => hk.2) (.slice Ao61 t291.length co61)) (fun _ h_ => h_.1))) (Kd.R_base ho63) hb); have n9_ := Aside0.mk (Kd.R_lower ho63 (below_size (zc4 HB GE264 GE277 GE287 GE297))); have n10_ := Aside0.mk (blk_below (g := gb264) (o := .cells #[.slice A0_0 l0_0.length c0_0, .slice A0_1 l0_1.length c0_1] 24 (0, 0)) (by (with_reducible repeat (first | refine blk_drewN ?_ _ | refine blk_drew ?_ | refine blk_alloc ?_ _)); refine blk_far ?_ NB264_297.out _; (with_reducible repeat (first | refine blk_drewN ?_ _ | refine blk_drew ?_ | refine blk_alloc ?_ _)); refine blk_far ?_ NB264_297.out _; (with_reducible repeat (first | refine blk_drewN ?_ _ | refine blk_drew ?_ | refine blk_alloc ?_ _)); exact BK264.out) hb); have n11_ := Aside0.mk (blk_below (g := gb277) (o := .cells #[.slice Ao39 t268.length co39, .slice Ao42 t271.length co42] 24 (0, 0)) (by (with_reducible repeat (first | refine blk_drewN ?_ _ | refine blk_drew ?_ | refine blk_alloc ?_ _)); refine blk_far ?_ NB277_297.out _; (with_reducible repeat (first | refine blk_drewN ?_ _ | refine blk_drew ?_ | refine blk_alloc ?_ _)); refine blk_far ?_ NB277_297.out _; (with_reducible repeat (first | refine blk_drewN ?_ _ | refine blk_drew ?_ | refine blk_alloc ?_ _)); exact BK277.out) hb); have n12_ := Aside0.mk (blk_below (g := gb287) (o := .cells #[.slice Ao47 t278.length co47, .slice Ao51 t281.length co51] 24 (0, 0)) (by (with_reducible repeat (first | refine blk_drewN ?_ _ | refine blk_drew ?_ | refine blk_alloc ?_ _)); refine blk_far ?_ NB287_297.out _; (with_reducible repeat (first | refine blk_drewN ?_ _ | refine blk_drew ?_ | refine blk_alloc ?_ _)); refine blk_far ?_ NB287_297.out _; (with_reducible repeat (first | refine blk_drewN ?_ _ | refine blk_drew ?_ | refine blk_alloc ?_ _)); exact BK287.out) hb); have n13_ := Aside0.mk (blk_below (g := gb297) (o := .cells #[.slice Ao56 t288.length co56, .slice Ao61 t291.length co61] 24 (0, 0)) (by (with_reducible repeat (first | refine blk_drewN ?_ _ | refine blk_drew ?_ | refine blk_alloc ?_ _)); refine blk_put (cs := #[.slice Ao56 t288.length co56, .slice none 0 0]) ?_ 1 _ rfl; (with_reducible repeat (first | refine blk_drewN ?_ _ | refine blk_drew ?_ | refine blk_alloc ?_ _)); refine blk_put (cs := #[.slice none 0 0, .slice none 0 0]) ?_ 0 _ rfl; (with_reducible repeat (first | refine blk_drewN ?_ _ | refine blk_drew ?_ | refine blk_alloc ?_ _)); exact BK297.out) hb); have n14_ := Aside0.mk (below_step (zc4 HB GE264 GE277 GE287 GE297) hb); clear HO270; clear HO273; clear HO276; clear HO280; clear HO283; clear HO286; clear HO290; clear HO293; clear HO296; clear BK264; clear BK277; clear BK287; clear BK297; clear HB; have HO270 := n0_; have HO273 := n1_; have HO276 := n2_; have HO280 := n3_; have HO283 := n4_; have HO286 := n5_; have HO290 := n6_; have HO293 := n7_; have HO296 := n8_; have HO300 := n9_; have BK264 := n10_; have BK277 := n11_; have BK287 := n12_; have BK297 := n13_; have HB := n14_; clear n0_ n1_ n2_ n3_ n4_ n5_ n6_ n7_ n8_ n9_ n10_ n11_ n12_ n13_ n14_; clear hb ho63; have hcz64_0 : w62.cell? ⟨gb264, 0, none⟩ = some (.slice A0_0 l0_0.length c0_0) := (blk_cell BK264.out 0).trans rfl; have hcz64_1 : w62.cell? ⟨gb264, 1, none⟩ = some (.slice A0_1 l0_1.length c0_1) := (blk_cell BK264.out 1).trans rfl; have hfz64_0 := blk_frozen BK264.out 0; have hfz64_1 := blk_frozen BK264.out 1) | ((with_reducible refine gate_builtin (b := .append) (xs := #[.tmp 51, .tmp 53]) rfl ?_); (try (refine gate_guard (by rfl) ?_; dsimp only)); at_builtin; refine Kd.R_append_rows (Kd.int .i64) (w0 := w) w.heap.size rfl (.tmp 51) (.tmp 53) 22 3 (.int .i64 0) 8 rfl Try.underlying22 info3 rfl (by decide) (by omega) v299 y298 l0_1 _ _ _ (fun _ => True) (fun _ => False) rfl rfl ?aO ?aR (fun _ _ h => h) (fun _ h => h.elim) ?aF ?aB ?aS ?aL ?_; (case aR => repeat (first | exact (Kd.C_below HR0_1.out HB.out) | (with_reducible refine Kd.C_alloc ?_ _) | (with_reducible refine Kd.C_drewN ?_ _) | (with_reducible refine Kd.C_drew ?_))); (case aB => exact (zc4 HB GE264 GE277 GE287 GE297)); (case aF => exact (fun _ _ => trivial)); (case aO => exact (zR HO300)); (case aS => exact (below_size (zc4 HB GE264 GE277 GE287 GE297))); (case aL => have := LMc21.out; omega); intro v302 w65 ho hb hg hat; rw [← Ny301.out] at ho; have n0_ := Aside0.mk (blk_grown (g := gb264) (o := .cells #[.slice A0_0 l0_0.length c0_0, .slice A0_1 l0_1.length c0_1] 24 (0, 0)) (zb BK264) hg (Kd.R_ne HO300.out BK264.out (by decide))); have n1_ := Aside0.mk (Kd.V_afterv (ok := (fun k_ => k_ ≠ gb264 ∧ k_ ≠ gb277 ∧ k_ ≠ gb287 ∧ k_ ≠ gb297)) (by (with_reducible repeat (first | apply Kd.V_alloc | apply Kd.V_drewN | apply Kd.V_drew)); exact Kd.V_mono HO270.out (fun _ hk => ⟨⟨hk.1.1.1, ⟨hk.1.1.2.1, ⟨hk.1.1.2.2, hk.1.2⟩⟩⟩, hk.2⟩)) hg hat); have n2_ := Aside0.mk (Kd.V_afterv (ok := (fun k_ => k_ ≠ gb264 ∧ k_ ≠ gb277 ∧ k_ ≠ gb287 ∧ k_ ≠ gb297)) (by (with_reducible repeat (first | apply Kd.V_alloc | apply Kd.V_drewN | apply Kd.V_drew)); exact Kd.V_mono HO273.out (fun _ hk => ⟨⟨hk.1.1.1, ⟨hk.1.1.2.1, ⟨hk.1.1.2.2, hk.1.2⟩⟩⟩, hk.2⟩)) hg hat); have n3_ := Aside0.mk (Kd.V_afterv (ok := (fun k_ => k_ ≠ gb264 ∧ k_ ≠ gb277 ∧ k_ ≠ gb287 ∧ k_ ≠ gb297)) (by (with_reducible repeat (first | apply Kd.V_alloc | apply Kd.V_drewN | apply Kd.V_drew)); exact Kd.V_mono HO276.out (fun _ hk => ⟨⟨hk.1.1.1, ⟨hk.1.1.2.1, ⟨hk.1.1.2.2, hk.1.2⟩⟩⟩, hk.2⟩)) hg hat); have n4_ := Aside0.mk (blk_grown (g := gb277) (o := .cells #[.slice Ao39 t268.length co39, .slice Ao42 t271.length co42] 24 (0, 0)) (zb BK277) hg (Kd.R_ne HO300.out BK277.out (by decide))); have n5_ := Aside0.mk (Kd.V_afterv (ok := (fun k_ => k_ ≠ gb264 ∧ k_ ≠ gb277 ∧ k_ ≠ gb287 ∧ k_ ≠ gb297)) (by (with_reducible repeat (first | apply Kd.V_alloc | apply Kd.V_drewN | apply Kd.V_drew)); exact Kd.V_mono HO280.out (fun _ hk => ⟨⟨hk.1.1.1, ⟨hk.1.1.2.1, ⟨hk.1.1.2.2, hk.1.2⟩⟩⟩, hk.2⟩)) hg hat); have n6_ := Aside0.mk (Kd.V_afterv (ok := (fun k_ => k_ ≠ gb264 ∧ k_ ≠ gb277 ∧ k_ ≠ gb287 ∧ k_ ≠ gb297)) (by (with_reducible repeat (first | apply Kd.V_alloc | apply Kd.V_drewN | apply Kd.V_drew)); exact Kd.V_mono HO283.out (fun _ hk => ⟨⟨hk.1.1.1, ⟨hk.1.1.2.1, ⟨hk.1.1.2.2, hk.1.2⟩⟩⟩, hk.2⟩)) hg hat); have n7_ := Aside0.mk (Kd.V_afterv (ok := (fun k_ => k_ ≠ gb264 ∧ k_ ≠ gb277 ∧ k_ ≠ gb287 ∧ k_ ≠ gb297)) (by (with_reducible repeat (first | apply Kd.V_alloc | apply Kd.V_drewN | apply Kd.V_drew)); exact Kd.V_mono HO286.out (fun _ hk => ⟨⟨hk.1.1.1, ⟨hk.1.1.2.1, ⟨hk.1.1.2.2, hk.1.2⟩⟩⟩, hk.2⟩)) hg hat); have n8_ := Aside0.mk (blk_grown (g := gb287) (o := .cells #[.slice Ao47 t278.length co47, .slice Ao51 t281.length co51] 24 (0, 0)) (zb BK287) hg (Kd.R_ne HO300.out BK287.out (by decide))); have n9_ := Aside0.mk (Kd.V_afterv (ok := (fun k_ => k_ ≠ gb264 ∧ k_ ≠ gb277 ∧ k_ ≠ gb287 ∧ k_ ≠ gb297)) (by (with_reducible repeat (first | apply Kd.V_alloc | apply Kd.V_drewN | apply Kd.V_drew)); exact Kd.V_mono HO290.out (fun _ hk => ⟨⟨hk.1.1.1, ⟨hk.1.1.2.1, ⟨hk.1.1.2.2, hk.1.2⟩⟩⟩, hk.2⟩)) hg hat); have n10_ := Aside0.mk (Kd.V_afterv (ok := (fun k_ => k_ ≠ gb264 ∧ k_ ≠ gb277 ∧ k_ ≠ gb287 ∧ k_ ≠ gb297)) (by (with_reducible repeat (first | apply Kd.V_alloc | apply Kd.V_drewN | apply Kd.V_drew)); exact Kd.V_mono HO293.out (fun _ hk => ⟨⟨hk.1.1.1, ⟨hk.1.1.2.1, ⟨hk.1.1.2.2, hk.1.2⟩⟩⟩, hk.2⟩)) hg hat); have n11_ := Aside0.mk (Kd.V_afterv (ok := (fun k_ => k_ ≠ gb264 ∧ k_ ≠ gb277 ∧ k_ ≠ gb287 ∧ k_ ≠ gb297)) (by (with_reducible repeat (first | apply Kd.V_alloc | apply Kd.V_drewN | apply Kd.V_drew)); exact Kd.V_mono HO296.out (fun _ hk => ⟨⟨hk.1.1.1, ⟨hk.1.1.2.1, ⟨hk.1.1.2.2, hk.1.2⟩⟩⟩, hk.2⟩)) hg hat); have n12_ := Aside0.mk (blk_grown (g := gb297) (o := .cells #[.slice Ao56 t288.length co56, .slice Ao61 t291.length co61] 24 (0, 0)) (zb BK297) hg (Kd.R_ne HO300.out BK297.out (by decide))); have n13_ := Aside0.mk (hb); have n14_ := Aside0.mk (ho); clear BK264; clear HO270; clear HO273; clear HO276; clear BK277; clear HO280; clear HO283; clear HO286; clear BK287; clear HO290; clear HO293; clear HO296; clear BK297; clear HB; clear HO300; have BK264 := n0_; have HO270 := n1_; have HO273 := n2_; have HO276 := n3_; have BK277 := n4_; have HO280 := n5_; have HO283 := n6_; have HO286 := n7_; have BK287 := n8_; have HO290 := n9_; have HO293 := n10_; have HO296 := n11_; have BK297 := n12_; have HB := n13_; have HO303 := n14_; clear n0_ n1_ n2_ n3_ n4_ n5_ n6_ n7_ n8_ n9_ n10_ n11_ n12_ n13_ n14_; clear ho hb hg hat; obtain ⟨Ao67, co67, eo67⟩ := Kd.V_slice HO296.out; subst eo67) | ((with_reducible refine gate_builtin (b := .append) (xs := #[.tmp 54, .tmp 55]) rfl ?_); (try (refine gate_guard (by rfl) ?_; dsimp only)); at_builtin; refine Kd.R_append_rows (Kd.int .i64) (w0 := w) w.heap.size rfl (.tmp 54) (.tmp 55) 22 3 (.int .i64 0) 8 rfl Try.underlying22 info3 rfl (by decide) (by omega) v302 y301 t294 _ _ _ (fun _ => True) (fun _ => False) rfl rfl ?aO ?aR (fun _ _ h => h) (fun _ h => h.elim) ?aF ?aB ?aS ?aL ?_; (case aR => repeat (first | exact (Kd.V_reads' HO296.out).2.2 | (with_reducible refine Kd.C_alloc ?_ _) | (with_reducible refine Kd.C_drewN ?_ _) | (with_reducible refine Kd.C_drew ?_))); (case aB => exact (zc4 HB GE264 GE277 GE287 GE297)); (case aF => exact (fun _ _ => trivial)); (case aO => exact (zR HO303)); (case aS => exact (below_size (zc4 HB GE264 GE277 GE287 GE297))); (case aL => have := LMc22.out; omega); intro v305 w66 ho hb hg hat; rw [← Ny304.out] at ho; have n0_ := Aside0.mk (blk_grown (g := gb264) (o := .cells #[.slice A0_0 l0_0.length c0_0, .slice A0_1 l0_1.length c0_1] 24 (0, 0)) (zb BK264) hg (Kd.R_ne HO303.out BK264.out (by decide))); have n1_ := Aside0.mk (Kd.V_afterv (ok := (fun k_ => k_ ≠ gb264 ∧ k_ ≠ gb277 ∧ k_ ≠ gb287 ∧ k_ ≠ gb297)) (zV HO270) hg hat); have n2_ := Aside0.mk (Kd.V_afterv (ok := (fun k_ => k_ ≠ gb264 ∧ k_ ≠ gb277 ∧ k_ ≠ gb287 ∧ k_ ≠ gb297)) (zV HO273) hg hat); have n3_ := Aside0.mk (Kd.V_afterv (ok := (fun k_ => k_ ≠ gb264 ∧ k_ ≠ gb277 ∧ k_ ≠ gb287 ∧ k_ ≠ gb297)) (zV HO276) hg hat); have n4_ := Aside0.mk (blk_grown (g := gb277) (o := .cells #[.slice Ao39 t268.length co39, .slice Ao42 t271.length co42] 24 (0, 0)) (zb BK277) hg (Kd.R_ne HO303.out BK277.out (by decide))); have n5_ := Aside0.mk (Kd.V_afterv (ok := (fun k_ => k_ ≠ gb264 ∧ k_ ≠ gb277 ∧ k_ ≠ gb287 ∧ k_ ≠ gb297)) (zV HO280) hg hat); have n6_ := Aside0.mk (Kd.V_afterv (ok := (fun k_ => k_ ≠ gb264 ∧ k_ ≠ gb277 ∧ k_ ≠ gb287 ∧ k_ ≠ gb297)) (zV HO283) hg hat); have n7_ := Aside0.mk (Kd.V_afterv (ok := (fun k_ => k_ ≠ gb264 ∧ k_ ≠ gb277 ∧ k_ ≠ gb287 ∧ k_ ≠ gb297)) (zV HO286) hg hat); have n8_ := Aside0.mk (blk_grown (g := gb287) (o := .cells #[.slice Ao47 t278.length co47, .slice Ao51 t281.length co51] 24 (0, 0)) (zb BK287) hg (Kd.R_ne HO303.out BK287.out (by decide))); have n9_ := Aside0.mk (Kd.V_afterv (ok := (fun k_ => k_ ≠ gb264 ∧ k_ ≠ gb277 ∧ k_ ≠ gb287 ∧ k_ ≠ gb297)) (zV HO290) hg hat); have n10_ := Aside0.mk (Kd.V_afterv (ok := (fun k_ => k_ ≠ gb264 ∧ k_ ≠ gb277 ∧ k_ ≠ gb287 ∧ k_ ≠ gb297)) (zV HO293) hg hat); have n11_ := Aside0.mk (Kd.V_afterv (ok := (fun k_ => k_ ≠ gb264 ∧ k_ ≠ gb277 ∧ k_ ≠ gb287 ∧ k_ ≠ gb297)) (zV HO296) hg hat); have n12_ := Aside0.mk (blk_grown (g := gb297) (o := .cells #[.slice Ao56 t288.length co56, .slice Ao61 t291.length co61] 24 (0, 0)) (zb BK297) hg (Kd.R_ne HO303.out BK297.out (by decide))); have n13_ := Aside0.mk (hb); have n14_ := Aside0.mk (ho); clear BK264; clear HO270; clear HO273; clear HO276; clear BK277; clear HO280; clear HO283; clear HO286; clear BK287; clear HO290; clear HO293; clear HO296; clear BK297; clear HB; clear HO303; have BK264 := n0_; have HO270 := n1_; have HO273 := n2_; have HO276 := n3_; have BK277 := n4_; have HO280 := n5_; have HO283 := n6_; have HO286 := n7_; have BK287 := n8_; have HO290 := n9_; have HO293 := n10_; have HO296 := n11_; have BK297 := n12_; have HB := n13_; have HO306 := n14_; clear n0_ n1_ n2_ n3_ n4_ n5_ n6_ n7_ n8_ n9_ n10_ n11_ n12_ n13_ n14_; clear ho hb hg hat))
            have n0_ := Aside0.mk (Kd.V_drew HO270.out)
            have n1_ := Aside0.mk (Kd.V_drew HO273.out)
            have n2_ := Aside0.mk (Kd.V_drew HO276.out)
            have n3_ := Aside0.mk (Kd.V_drew HO280.out)
            have n4_ := Aside0.mk (Kd.V_drew HO283.out)
            have n5_ := Aside0.mk (Kd.V_drew HO286.out)
            have n6_ := Aside0.mk (Kd.V_drew HO290.out)
            have n7_ := Aside0.mk (Kd.V_drew HO293.out)
            have n8_ := Aside0.mk (Kd.V_drew HO296.out)
            have n9_ := Aside0.mk (Kd.R_drew HO306.out)
            have n10_ := Aside0.mk (blk_drew BK264.out)
            have n11_ := Aside0.mk (blk_drew BK277.out)
            have n12_ := Aside0.mk (blk_drew BK287.out)
            have n13_ := Aside0.mk (blk_drew BK297.out)
            have n14_ := Aside0.mk (below_drew1 HB.out)
            clear HO270
            clear HO273
            clear HO276
            clear HO280
            clear HO283
            clear HO286
            clear HO290
            clear HO293
            clear HO296
            clear HO306
            clear BK264
            clear BK277
            clear BK287
            clear BK297
            clear HB
            have HO270 := n0_
            have HO273 := n1_
            have HO276 := n2_
            have HO280 := n3_
            have HO283 := n4_
            have HO286 := n5_
            have HO290 := n6_
            have HO293 := n7_
            have HO296 := n8_
            have HO306 := n9_
            have BK264 := n10_
            have BK277 := n11_
            have BK287 := n12_
            have BK297 := n13_
            have HB := n14_
            clear n0_ n1_ n2_ n3_ n4_ n5_ n6_ n7_ n8_ n9_ n10_ n11_ n12_ n13_ n14_
            refine start_ (n := 40) (S := fun w' => w'.cell? ⟨gb287, 0, none⟩ = some (.slice Ao47 t278.length co47) ∧ w'.cell? ⟨gb287, 1, none⟩ = some (.slice Ao51 t281.length co51) ∧ w'.cell? ⟨gb297, 0, none⟩ = some (.slice Ao56 t288.length co56) ∧ w'.cell? ⟨gb297, 1, none⟩ = some (.slice Ao61 t291.length co61) ∧ w'.cell? ⟨gb264, 0, none⟩ = some (.slice A0_0 l0_0.length c0_0) ∧ w'.cell? ⟨gb264, 1, none⟩ = some (.slice A0_1 l0_1.length c0_1)) (ds := []) #[false, false, false, false, false, false, false, false, false, false, false, false, false, false, false, false, false, false, false, false, false, false, false, false, false, false, false, false, false, false, false, false, false, false, false, false, false, false, false, false] (by kernel_rfl) rfl rfl ⟨(blk_cell BK287.out 0).trans rfl, (blk_cell BK287.out 1).trans rfl, (blk_cell BK297.out 0).trans rfl, (blk_cell BK297.out 1).trans rfl, (blk_cell BK264.out 0).trans rfl, (blk_cell BK264.out 1).trans rfl⟩ (fun hHeld => ?_); refine with_tabW handshakerlaw20_CondParts.tab7 handshakerlaw20_CondParts.bits7 (fun HT_ HW_ => ?_)
            generalize w66.drew = w68 at HO270 HO273 HO276 HO280 HO283 HO286 HO290 HO293 HO296 HO306 BK264 BK277 BK287 BK297 HB hHeld ⊢
            refine take_ (i := 0) (N := some 57) (v := ?_) (a' := ?_) #[true, false, false, false, false, false, false, false, false, false, false, false, false, false, false, false, false, false, false, false, false, false, false, false, false, false, false, false, false, false, false, false, false, false, false, false, false, false, false, false] rfl rfl (take_ofW HT_.out HW_.out (by kernel_rfl)) (fun _ _ _ h => h) (Or.inl ⟨by rfl, ?_⟩) hHeld ?_ ?_
            rotate_left
            ·rintro w' ⟨s0, s1, s2, s3, s4, s5⟩
             go_simp
             with_reducible rfl
            rotate_left
            ·simp only [Act.put, List.setIfInBounds_toArray, List.set_cons_zero, List.set_cons_succ, i64_w, i32_w]
             rfl
            refine take_ (i := 2) (N := some 59) (v := ?_) (a' := ?_) #[true, false, true, false, false, false, false, false, false, false, false, false, false, false, false, false, false, false, false, false, false, false, false, false, false, false, false, false, false, false, false, false, false, false, false, false, false, false, false, false] rfl rfl (take_ofW HT_.out HW_.out (by kernel_rfl)) (fun _ _ _ h => h) (Or.inl ⟨by rfl, ?_⟩) hHeld ?_ ?_
            rotate_left
            ·rintro w' ⟨s0, s1, s2, s3, s4, s5⟩
             go_simp
             with_reducible rfl
            rotate_left
            ·simp only [Act.put, List.setIfInBounds_toArray, List.set_cons_zero, List.set_cons_succ, i64_w, i32_w]
             rfl
            refine one_ (i := 1) (N := some 58) #[true, true, true, false, false, false, false, false, false, false, false, false, false, false, false, false, false, false, false, false, false, false, false, false, false, false, false, false, false, false, false, false, false, false, false, false, false, false, false, false] rfl rfl (one_of HT_.out (by kernel_rfl)) (by decide) (fun K hK => ?_)
            refine goes_ Try.func12 (by kernel_rfl) rfl #[.agg #[.slice Ao47 t278.length co47, .slice Ao51 t281.length co51]] (by rfl) rfl rfl zm ?_
            with_reducible refine (handshakerlaw20_ref.calls (fun k_ => ((k_ ≠ gb264 ∧ (k_ ≠ gb277 ∧ (k_ ≠ gb287 ∧ k_ ≠ gb297))) ∧ some k_ ≠ (v305 : Value).ownBlock)) _ _ t278 (fun k_ => ((k_ ≠ gb264 ∧ (k_ ≠ gb277 ∧ (k_ ≠ gb287 ∧ k_ ≠ gb297))) ∧ some k_ ≠ (v305 : Value).ownBlock)) _ _ t281 t307 t310 _ ?side1 ?side2 A23.out).mono ?_
            (case side1 => exact HO280.out)
            (case side2 => exact HO283.out)
            rintro e w69 ⟨v308, v311, rfl, ho0, ho1, hb⟩
            refine ⟨_, rfl, ?_⟩
            have n0_ := Aside0.mk (Kd.V_below (zV HO270) hb)
            have n1_ := Aside0.mk (Kd.V_below (zV HO273) hb)
            have n2_ := Aside0.mk (Kd.V_below (zV HO276) hb)
            have n3_ := Aside0.mk (Kd.V_below (zV HO280) hb)
            have n4_ := Aside0.mk (Kd.V_below (zV HO283) hb)
            have n5_ := Aside0.mk (Kd.V_below (zV HO286) hb)
            have n6_ := Aside0.mk (Kd.V_below (zV HO290) hb)
            have n7_ := Aside0.mk (Kd.V_below (zV HO293) hb)
            have n8_ := Aside0.mk (Kd.V_below (zV HO296) hb)
            have n9_ := Aside0.mk (Kd.R_below (zR HO306) hb)
            have n10_ := Aside0.mk (Kd.V_lower (Kd.V_mono (ok' := fun k_ => some k_ ≠ (v305 : Value).ownBlock ∧ k_ ≠ gb264 ∧ k_ ≠ gb277 ∧ k_ ≠ gb287 ∧ k_ ≠ gb297) ho0 (fun k_ hk_ => ⟨Or.elim hk_ (fun hs_ => Or.elim hs_ (fun hs_ => hs_.2) (fun hs_ => hs_.2)) (fun hn_ => (Kd.fresh' (Kd.R_lt (zR HO306)) k_ hn_)), Or.elim hk_ (fun hs_ => Or.elim hs_ (fun hs_ => hs_.1.1) (fun hs_ => hs_.1.1)) (fun hn_ => (Kd.freshB (g := gb264) (o := .cells #[.slice A0_0 l0_0.length c0_0, .slice A0_1 l0_1.length c0_1] 24 (0, 0)) (zb BK264) k_ hn_)), Or.elim hk_ (fun hs_ => Or.elim hs_ (fun hs_ => hs_.1.2.1) (fun hs_ => hs_.1.2.1)) (fun hn_ => (Kd.freshB (g := gb277) (o := .cells #[.slice Ao39 t268.length co39, .slice Ao42 t271.length co42] 24 (0, 0)) (zb BK277) k_ hn_)), Or.elim hk_ (fun hs_ => Or.elim hs_ (fun hs_ => hs_.1.2.2.1) (fun hs_ => hs_.1.2.2.1)) (fun hn_ => (Kd.freshB (g := gb287) (o := .cells #[.slice Ao47 t278.length co47, .slice Ao51 t281.length co51] 24 (0, 0)) (zb BK287) k_ hn_)), Or.elim hk_ (fun hs_ => Or.elim hs_ (fun hs_ => hs_.1.2.2.2) (fun hs_ => hs_.1.2.2.2)) (fun hn_ => (Kd.freshB (g := gb297) (o := .cells #[.slice Ao56 t288.length co56, .slice Ao61 t291.length co61] 24 (0, 0)) (zb BK297) k_ hn_))⟩)) (below_size (zc4 HB GE264 GE277 GE287 GE297)))
            have n11_ := Aside0.mk (Kd.V_lower (Kd.V_mono (ok' := fun k_ => some k_ ≠ (v305 : Value).ownBlock ∧ k_ ≠ gb264 ∧ k_ ≠ gb277 ∧ k_ ≠ gb287 ∧ k_ ≠ gb297) ho1 (fun k_ hk_ => ⟨Or.elim hk_ (fun hs_ => Or.elim hs_ (fun hs_ => hs_.2) (fun hs_ => hs_.2)) (fun hn_ => (Kd.fresh' (Kd.R_lt (zR HO306)) k_ hn_)), Or.elim hk_ (fun hs_ => Or.elim hs_ (fun hs_ => hs_.1.1) (fun hs_ => hs_.1.1)) (fun hn_ => (Kd.freshB (g := gb264) (o := .cells #[.slice A0_0 l0_0.length c0_0, .slice A0_1 l0_1.length c0_1] 24 (0, 0)) (zb BK264) k_ hn_)), Or.elim hk_ (fun hs_ => Or.elim hs_ (fun hs_ => hs_.1.2.1) (fun hs_ => hs_.1.2.1)) (fun hn_ => (Kd.freshB (g := gb277) (o := .cells #[.slice Ao39 t268.length co39, .slice Ao42 t271.length co42] 24 (0, 0)) (zb BK277) k_ hn_)), Or.elim hk_ (fun hs_ => Or.elim hs_ (fun hs_ => hs_.1.2.2.1) (fun hs_ => hs_.1.2.2.1)) (fun hn_ => (Kd.freshB (g := gb287) (o := .cells #[.slice Ao47 t278.length co47, .slice Ao51 t281.length co51] 24 (0, 0)) (zb BK287) k_ hn_)), Or.elim hk_ (fun hs_ => Or.elim hs_ (fun hs_ => hs_.1.2.2.2) (fun hs_ => hs_.1.2.2.2)) (fun hn_ => (Kd.freshB (g := gb297) (o := .cells #[.slice Ao56 t288.length co56, .slice Ao61 t291.length co61] 24 (0, 0)) (zb BK297) k_ hn_))⟩)) (below_size (zc4 HB GE264 GE277 GE287 GE297)))
            have n12_ := Aside0.mk (blk_below (g := gb264) (o := .cells #[.slice A0_0 l0_0.length c0_0, .slice A0_1 l0_1.length c0_1] 24 (0, 0)) (zb BK264) hb)
            have n13_ := Aside0.mk (blk_below (g := gb277) (o := .cells #[.slice Ao39 t268.length co39, .slice Ao42 t271.length co42] 24 (0, 0)) (zb BK277) hb)
            have n14_ := Aside0.mk (blk_below (g := gb287) (o := .cells #[.slice Ao47 t278.length co47, .slice Ao51 t281.length co51] 24 (0, 0)) (zb BK287) hb)
            have n15_ := Aside0.mk (blk_below (g := gb297) (o := .cells #[.slice Ao56 t288.length co56, .slice Ao61 t291.length co61] 24 (0, 0)) (zb BK297) hb)
            have n16_ := Aside0.mk (below_step (zc4 HB GE264 GE277 GE287 GE297) hb)
            clear HO270
            clear HO273
            clear HO276
            clear HO280
            clear HO283
            clear HO286
            clear HO290
            clear HO293
            clear HO296
            clear HO306
            clear BK264
            clear BK277
            clear BK287
            clear BK297
            clear HB
            have HO270 := n0_
            have HO273 := n1_
            have HO276 := n2_
            have HO280 := n3_
            have HO283 := n4_
            have HO286 := n5_
            have HO290 := n6_
            have HO293 := n7_
            have HO296 := n8_
            have HO306 := n9_
            have HO309 := n10_
            have HO312 := n11_
            have BK264 := n12_
            have BK277 := n13_
            have BK287 := n14_
            have BK297 := n15_
            have HB := n16_
            clear n0_ n1_ n2_ n3_ n4_ n5_ n6_ n7_ n8_ n9_ n10_ n11_ n12_ n13_ n14_ n15_ n16_
            (try clear hb)
            (try clear hb2)
            (try clear hk)
            (try clear hi)
            (try clear ho0)
            (try clear ho1)
            refine hK.out _ _ ⟨(blk_cell BK287.out 0).trans rfl, (blk_cell BK287.out 1).trans rfl, (blk_cell BK297.out 0).trans rfl, (blk_cell BK297.out 1).trans rfl, (blk_cell BK264.out 0).trans rfl, (blk_cell BK264.out 1).trans rfl⟩ (fun hHeld => ?_)
            clear hK K
            refine norm_ (a' := ?_) ?_ ?_
            rotate_left
            ·show Act.put _ (some 58) _ = _
             simp only [Act.put, List.setIfInBounds_toArray, List.set_cons_zero, List.set_cons_succ, i64_w, i32_w]
             rfl
            refine one_ (i := 3) (N := some 60) #[true, true, true, true, false, false, false, false, false, false, false, false, false, false, false, false, false, false, false, false, false, false, false, false, false, false, false, false, false, false, false, false, false, false, false, false, false, false, false, false] rfl rfl (one_of HT_.out (by kernel_rfl)) (by decide) (fun K hK => ?_)
            refine goes_ Try.func12 (by kernel_rfl) rfl #[.agg #[.slice Ao56 t288.length co56, .slice Ao61 t291.length co61]] (by rfl) rfl rfl zm ?_
            with_reducible refine (handshakerlaw20_ref.calls (fun k_ => ((k_ ≠ gb264 ∧ (k_ ≠ gb277 ∧ (k_ ≠ gb287 ∧ k_ ≠ gb297))) ∧ some k_ ≠ (v305 : Value).ownBlock)) _ _ t288 (fun k_ => ((k_ ≠ gb264 ∧ (k_ ≠ gb277 ∧ (k_ ≠ gb287 ∧ k_ ≠ gb297))) ∧ some k_ ≠ (v305 : Value).ownBlock)) _ _ t291 t313 t316 _ ?side1 ?side2 A24.out).mono ?_
            (case side1 => exact HO290.out)
            (case side2 => exact HO293.out)
            rintro e w70 ⟨v314, v317, rfl, ho0, ho1, hb⟩
            refine ⟨_, rfl, ?_⟩
            have n0_ := Aside0.mk (Kd.V_below (zV HO270) hb)
            have n1_ := Aside0.mk (Kd.V_below (zV HO273) hb)
            have n2_ := Aside0.mk (Kd.V_below (zV HO276) hb)
            have n3_ := Aside0.mk (Kd.V_below (zV HO280) hb)
            have n4_ := Aside0.mk (Kd.V_below (zV HO283) hb)
            have n5_ := Aside0.mk (Kd.V_below (zV HO286) hb)
            have n6_ := Aside0.mk (Kd.V_below (zV HO290) hb)
            have n7_ := Aside0.mk (Kd.V_below (zV HO293) hb)
            have n8_ := Aside0.mk (Kd.V_below (zV HO296) hb)
            have n9_ := Aside0.mk (Kd.R_below (zR HO306) hb)
            have n10_ := Aside0.mk (Kd.V_below (zV HO309) hb)
            have n11_ := Aside0.mk (Kd.V_below (zV HO312) hb)
            have n12_ := Aside0.mk (Kd.V_lower (Kd.V_mono (ok' := fun k_ => some k_ ≠ (v305 : Value).ownBlock ∧ k_ ≠ gb264 ∧ k_ ≠ gb277 ∧ k_ ≠ gb287 ∧ k_ ≠ gb297) ho0 (fun k_ hk_ => ⟨Or.elim hk_ (fun hs_ => Or.elim hs_ (fun hs_ => hs_.2) (fun hs_ => hs_.2)) (fun hn_ => (Kd.fresh' (Kd.R_lt (zR HO306)) k_ hn_)), Or.elim hk_ (fun hs_ => Or.elim hs_ (fun hs_ => hs_.1.1) (fun hs_ => hs_.1.1)) (fun hn_ => (Kd.freshB (g := gb264) (o := .cells #[.slice A0_0 l0_0.length c0_0, .slice A0_1 l0_1.length c0_1] 24 (0, 0)) (zb BK264) k_ hn_)), Or.elim hk_ (fun hs_ => Or.elim hs_ (fun hs_ => hs_.1.2.1) (fun hs_ => hs_.1.2.1)) (fun hn_ => (Kd.freshB (g := gb277) (o := .cells #[.slice Ao39 t268.length co39, .slice Ao42 t271.length co42] 24 (0, 0)) (zb BK277) k_ hn_)), Or.elim hk_ (fun hs_ => Or.elim hs_ (fun hs_ => hs_.1.2.2.1) (fun hs_ => hs_.1.2.2.1)) (fun hn_ => (Kd.freshB (g := gb287) (o := .cells #[.slice Ao47 t278.length co47, .slice Ao51 t281.length co51] 24 (0, 0)) (zb BK287) k_ hn_)), Or.elim hk_ (fun hs_ => Or.elim hs_ (fun hs_ => hs_.1.2.2.2) (fun hs_ => hs_.1.2.2.2)) (fun hn_ => (Kd.freshB (g := gb297) (o := .cells #[.slice Ao56 t288.length co56, .slice Ao61 t291.length co61] 24 (0, 0)) (zb BK297) k_ hn_))⟩)) (below_size (zc4 HB GE264 GE277 GE287 GE297)))
            have n13_ := Aside0.mk (Kd.V_lower (Kd.V_mono (ok' := fun k_ => some k_ ≠ (v305 : Value).ownBlock ∧ k_ ≠ gb264 ∧ k_ ≠ gb277 ∧ k_ ≠ gb287 ∧ k_ ≠ gb297) ho1 (fun k_ hk_ => ⟨Or.elim hk_ (fun hs_ => Or.elim hs_ (fun hs_ => hs_.2) (fun hs_ => hs_.2)) (fun hn_ => (Kd.fresh' (Kd.R_lt (zR HO306)) k_ hn_)), Or.elim hk_ (fun hs_ => Or.elim hs_ (fun hs_ => hs_.1.1) (fun hs_ => hs_.1.1)) (fun hn_ => (Kd.freshB (g := gb264) (o := .cells #[.slice A0_0 l0_0.length c0_0, .slice A0_1 l0_1.length c0_1] 24 (0, 0)) (zb BK264) k_ hn_)), Or.elim hk_ (fun hs_ => Or.elim hs_ (fun hs_ => hs_.1.2.1) (fun hs_ => hs_.1.2.1)) (fun hn_ => (Kd.freshB (g := gb277) (o := .cells #[.slice Ao39 t268.length co39, .slice Ao42 t271.length co42] 24 (0, 0)) (zb BK277) k_ hn_)), Or.elim hk_ (fun hs_ => Or.elim hs_ (fun hs_ => hs_.1.2.2.1) (fun hs_ => hs_.1.2.2.1)) (fun hn_ => (Kd.freshB (g := gb287) (o := .cells #[.slice Ao47 t278.length co47, .slice Ao51 t281.length co51] 24 (0, 0)) (zb BK287) k_ hn_)), Or.elim hk_ (fun hs_ => Or.elim hs_ (fun hs_ => hs_.1.2.2.2) (fun hs_ => hs_.1.2.2.2)) (fun hn_ => (Kd.freshB (g := gb297) (o := .cells #[.slice Ao56 t288.length co56, .slice Ao61 t291.length co61] 24 (0, 0)) (zb BK297) k_ hn_))⟩)) (below_size (zc4 HB GE264 GE277 GE287 GE297)))
            have n14_ := Aside0.mk (blk_below (g := gb264) (o := .cells #[.slice A0_0 l0_0.length c0_0, .slice A0_1 l0_1.length c0_1] 24 (0, 0)) (zb BK264) hb)
            have n15_ := Aside0.mk (blk_below (g := gb277) (o := .cells #[.slice Ao39 t268.length co39, .slice Ao42 t271.length co42] 24 (0, 0)) (zb BK277) hb)
            have n16_ := Aside0.mk (blk_below (g := gb287) (o := .cells #[.slice Ao47 t278.length co47, .slice Ao51 t281.length co51] 24 (0, 0)) (zb BK287) hb)
            have n17_ := Aside0.mk (blk_below (g := gb297) (o := .cells #[.slice Ao56 t288.length co56, .slice Ao61 t291.length co61] 24 (0, 0)) (zb BK297) hb)
            have n18_ := Aside0.mk (below_step (zc4 HB GE264 GE277 GE287 GE297) hb)
            clear HO270
            clear HO273
            clear HO276
            clear HO280
            clear HO283
            clear HO286
            clear HO290
            clear HO293
            clear HO296
            clear HO306
            clear HO309
            clear HO312
            clear BK264
            clear BK277
            clear BK287
            clear BK297
            clear HB
            have HO270 := n0_
            have HO273 := n1_
            have HO276 := n2_
            have HO280 := n3_
            have HO283 := n4_
            have HO286 := n5_
            have HO290 := n6_
            have HO293 := n7_
            have HO296 := n8_
            have HO306 := n9_
            have HO309 := n10_
            have HO312 := n11_
            have HO315 := n12_
            have HO318 := n13_
            have BK264 := n14_
            have BK277 := n15_
            have BK287 := n16_
            have BK297 := n17_
            have HB := n18_
            clear n0_ n1_ n2_ n3_ n4_ n5_ n6_ n7_ n8_ n9_ n10_ n11_ n12_ n13_ n14_ n15_ n16_ n17_ n18_
            (try clear hb)
            (try clear hb2)
            (try clear hk)
            (try clear hi)
            (try clear ho0)
            (try clear ho1)
            obtain ⟨Ao71, co71, eo71⟩ := Kd.V_slice HO309.out
            (first | subst eo71 | (injection eo71 with f1_ f2_ f3_; have f4_ := f1_.symm; have f5_ := f3_.symm; clear f1_ f2_ f3_; subst f4_; subst f5_))
            obtain ⟨Ao72, co72, eo72⟩ := Kd.V_slice HO312.out
            (first | subst eo72 | (injection eo72 with f1_ f2_ f3_; have f4_ := f1_.symm; have f5_ := f3_.symm; clear f1_ f2_ f3_; subst f4_; subst f5_))
            obtain ⟨Ao73, co73, eo73⟩ := Kd.V_slice HO315.out
            (first | subst eo73 | (injection eo73 with f1_ f2_ f3_; have f4_ := f1_.symm; have f5_ := f3_.symm; clear f1_ f2_ f3_; subst f4_; subst f5_))
            obtain ⟨Ao74, co74, eo74⟩ := Kd.V_slice HO318.out
            (first | subst eo74 | (injection eo74 with f1_ f2_ f3_; have f4_ := f1_.symm; have f5_ := f3_.symm; clear f1_ f2_ f3_; subst f4_; subst f5_))
            refine hK.out _ _ ⟨(blk_cell BK287.out 0).trans rfl, (blk_cell BK287.out 1).trans rfl, (blk_cell BK297.out 0).trans rfl, (blk_cell BK297.out 1).trans rfl, (blk_cell BK264.out 0).trans rfl, (blk_cell BK264.out 1).trans rfl⟩ (fun hHeld => ?_)
            clear hK K
            refine norm_ (a' := ?_) ?_ ?_
            rotate_left
            ·show Act.put _ (some 60) _ = _
             simp only [Act.put, List.setIfInBounds_toArray, List.set_cons_zero, List.set_cons_succ, i64_w, i32_w]
             rfl
            refine one_ (i := 4) (N := some 61) #[true, true, true, true, true, false, false, false, false, false, false, false, false, false, false, false, false, false, false, false, false, false, false, false, false, false, false, false, false, false, false, false, false, false, false, false, false, false, false, false] rfl rfl (one_of HT_.out (by kernel_rfl)) (by decide) (fun K hK => ?_)
            refine goes_ Try.func21 (by kernel_rfl) rfl #[.agg #[.slice Ao71 t307.length co71, .slice Ao72 t310.length co72], .agg #[.slice Ao73 t313.length co73, .slice Ao74 t316.length co74]] (by rfl) rfl rfl zm ?_
            with_reducible refine (handshakerref20_Same.calls kj3 _ _ t307 _ _ t310 _ _ t313 _ _ t316 true _ ?side1 ?side2 ?side3 ?side4 ?side5 ?side6 ?side7 ?side8 A25.out).mono ?_
            (case side1 => repeat (first | exact (Kd.V_reads' HO309.out).2.2 | (with_reducible refine Kd.C_alloc ?_ _) | (with_reducible refine Kd.C_drewN ?_ _) | (with_reducible refine Kd.C_drew ?_)))
            (case side2 => exact (Kd.V_reads' HO309.out).2.1)
            (case side3 => repeat (first | exact (Kd.V_reads' HO312.out).2.2 | (with_reducible refine Kd.C_alloc ?_ _) | (with_reducible refine Kd.C_drewN ?_ _) | (with_reducible refine Kd.C_drew ?_)))
            (case side4 => exact (Kd.V_reads' HO312.out).2.1)
            (case side5 => repeat (first | exact (Kd.V_reads' HO315.out).2.2 | (with_reducible refine Kd.C_alloc ?_ _) | (with_reducible refine Kd.C_drewN ?_ _) | (with_reducible refine Kd.C_drew ?_)))
            (case side6 => exact (Kd.V_reads' HO315.out).2.1)
            (case side7 => repeat (first | exact (Kd.V_reads' HO318.out).2.2 | (with_reducible refine Kd.C_alloc ?_ _) | (with_reducible refine Kd.C_drewN ?_ _) | (with_reducible refine Kd.C_drew ?_)))
            (case side8 => exact (Kd.V_reads' HO318.out).2.1)
            rintro e w75 ⟨rfl, hb⟩
            refine ⟨_, rfl, ?_⟩
            have n0_ := Aside0.mk (Kd.V_below (zV HO270) hb)
            have n1_ := Aside0.mk (Kd.V_below (zV HO273) hb)
            have n2_ := Aside0.mk (Kd.V_below (zV HO276) hb)
            have n3_ := Aside0.mk (Kd.V_below (zV HO280) hb)
            have n4_ := Aside0.mk (Kd.V_below (zV HO283) hb)
            have n5_ := Aside0.mk (Kd.V_below (zV HO286) hb)
            have n6_ := Aside0.mk (Kd.V_below (zV HO290) hb)
            have n7_ := Aside0.mk (Kd.V_below (zV HO293) hb)
            have n8_ := Aside0.mk (Kd.V_below (zV HO296) hb)
            have n9_ := Aside0.mk (Kd.R_below (zR HO306) hb)
            have n10_ := Aside0.mk (Kd.V_below (zV HO309) hb)
            have n11_ := Aside0.mk (Kd.V_below (zV HO312) hb)
            have n12_ := Aside0.mk (Kd.V_below (zV HO315) hb)
            have n13_ := Aside0.mk (Kd.V_below (zV HO318) hb)
            have n14_ := Aside0.mk (blk_below (g := gb264) (o := .cells #[.slice A0_0 l0_0.length c0_0, .slice A0_1 l0_1.length c0_1] 24 (0, 0)) (zb BK264) hb)
            have n15_ := Aside0.mk (blk_below (g := gb277) (o := .cells #[.slice Ao39 t268.length co39, .slice Ao42 t271.length co42] 24 (0, 0)) (zb BK277) hb)
            have n16_ := Aside0.mk (blk_below (g := gb287) (o := .cells #[.slice Ao47 t278.length co47, .slice Ao51 t281.length co51] 24 (0, 0)) (zb BK287) hb)
            have n17_ := Aside0.mk (blk_below (g := gb297) (o := .cells #[.slice Ao56 t288.length co56, .slice Ao61 t291.length co61] 24 (0, 0)) (zb BK297) hb)
            have n18_ := Aside0.mk (below_step (zc4 HB GE264 GE277 GE287 GE297) hb)
            clear HO270
            clear HO273
            clear HO276
            clear HO280
            clear HO283
            clear HO286
            clear HO290
            clear HO293
            clear HO296
            clear HO306
            clear HO309
            clear HO312
            clear HO315
            clear HO318
            clear BK264
            clear BK277
            clear BK287
            clear BK297
            clear HB
            have HO270 := n0_
            have HO273 := n1_
            have HO276 := n2_
            have HO280 := n3_
            have HO283 := n4_
            have HO286 := n5_
            have HO290 := n6_
            have HO293 := n7_
            have HO296 := n8_
            have HO306 := n9_
            have HO309 := n10_
            have HO312 := n11_
            have HO315 := n12_
            have HO318 := n13_
            have BK264 := n14_
            have BK277 := n15_
            have BK287 := n16_
            have BK297 := n17_
            have HB := n18_
            clear n0_ n1_ n2_ n3_ n4_ n5_ n6_ n7_ n8_ n9_ n10_ n11_ n12_ n13_ n14_ n15_ n16_ n17_ n18_
            (try clear hb)
            (try clear hb2)
            (try clear hk)
            (try clear hi)
            refine hK.out _ _ ⟨(blk_cell BK287.out 0).trans rfl, (blk_cell BK287.out 1).trans rfl, (blk_cell BK297.out 0).trans rfl, (blk_cell BK297.out 1).trans rfl, (blk_cell BK264.out 0).trans rfl, (blk_cell BK264.out 1).trans rfl⟩ (fun hHeld => ?_)
            clear hK K
            refine norm_ (a' := ?_) ?_ ?_
            rotate_left
            ·show Act.put _ (some 61) _ = _
             simp only [Act.put, List.setIfInBounds_toArray, List.set_cons_zero, List.set_cons_succ, i64_w, i32_w]
             rfl
            refine pure_ (i := 5) (N := some 62) (v := ?_) (a' := ?_) #[true, true, true, true, true, true, false, false, false, false, false, false, false, false, false, false, false, false, false, false, false, false, false, false, false, false, false, false, false, false, false, false, false, false, false, false, false, false, false, false] rfl rfl (any_of HT_.out (by kernel_rfl)) (fun _ _ _ h => h) (Or.inl ⟨by rfl, ?_⟩) ?_ ?_
            rotate_left
            ·intro w'
             go_simp
             with_reducible rfl
            rotate_left
            ·simp only [Act.put, List.setIfInBounds_toArray, List.set_cons_zero, List.set_cons_succ, i64_w, i32_w]
             rfl
            refine pure_ (i := 7) (N := some 64) (v := ?_) (a' := ?_) #[true, true, true, true, true, true, false, true, false, false, false, false, false, false, false, false, false, false, false, false, false, false, false, false, false, false, false, false, false, false, false, false, false, false, false, false, false, false, false, false] rfl rfl (any_of HT_.out (by kernel_rfl)) (fun _ _ _ h => h) (Or.inl ⟨by rfl, ?_⟩) ?_ ?_
            rotate_left
            ·intro w'
             go_simp
             with_reducible rfl
            rotate_left
            ·simp only [Act.put, List.setIfInBounds_toArray, List.set_cons_zero, List.set_cons_succ, i64_w, i32_w]
             rfl
            refine pure_ (i := 9) (N := some 66) (v := ?_) (a' := ?_) #[true, true, true, true, true, true, false, true, false, true, false, false, false, false, false, false, false, false, false, false, false, false, false, false, false, false, false, false, false, false, false, false, false, false, false, false, false, false, false, false] rfl rfl (any_of HT_.out (by kernel_rfl)) (fun _ _ _ h => h) (Or.inl ⟨by rfl, ?_⟩) ?_ ?_
            rotate_left
            ·intro w'
             go_simp
             with_reducible rfl
            rotate_left
            ·simp only [Act.put, List.setIfInBounds_toArray, List.set_cons_zero, List.set_cons_succ, i64_w, i32_w]
             rfl
            refine pure_ (i := 11) (N := some 68) (v := ?_) (a' := ?_) #[true, true, true, true, true, true, false, true, false, true, false, true, false, false, false, false, false, false, false, false, false, false, false, false, false, false, false, false, false, false, false, false, false, false, false, false, false, false, false, false] rfl rfl (any_of HT_.out (by kernel_rfl)) (fun _ _ _ h => h) (Or.inl ⟨by rfl, ?_⟩) ?_ ?_
            rotate_left
            ·intro w'
             go_simp
             with_reducible rfl
            rotate_left
            ·simp only [Act.put, List.setIfInBounds_toArray, List.set_cons_zero, List.set_cons_succ, i64_w, i32_w]
             rfl
            refine one_ (i := 6) (N := some 63) #[true, true, true, true, true, true, true, true, false, true, false, true, false, false, false, false, false, false, false, false, false, false, false, false, false, false, false, false, false, false, false, false, false, false, false, false, false, false, false, false] rfl rfl (one_of HT_.out (by kernel_rfl)) (by decide) (fun K hK => ?_)
            refine Kd.R_lit_step (Kd.int .i64) _ 3 ?hg (N := 63) ?hd (xs := ([] : List Int)) (inner := []) (ok := fun _ => True) (okp := fun _ => True) ?hr ?hp (fun _ hk => hk) trivial (Below.refl _ _) (Nat.le_refl _) (by simp) ?_; (case hd => rfl); (case hg => rfl); (case hr => first | (go_simp; done) | (go_simp; rfl)); (case hp => exact (Reps.none _ _))
            intro v321 w76 ho77 hb hg_ hnew_
            clear hg_ hnew_
            (first | rw [← Ny320.out] at ho77 | (simp only [Int.reduceToNat] at ho77; rw [← Ny320.out] at ho77))
            have n0_ := Aside0.mk (Kd.V_elder' (zV HO270) (Kd.R_base ho77) hb)
            have n1_ := Aside0.mk (Kd.V_elder' (zV HO273) (Kd.R_base ho77) hb)
            have n2_ := Aside0.mk (Kd.V_elder' (zV HO276) (Kd.R_base ho77) hb)
            have n3_ := Aside0.mk (Kd.V_elder' (zV HO280) (Kd.R_base ho77) hb)
            have n4_ := Aside0.mk (Kd.V_elder' (zV HO283) (Kd.R_base ho77) hb)
            have n5_ := Aside0.mk (Kd.V_elder' (zV HO286) (Kd.R_base ho77) hb)
            have n6_ := Aside0.mk (Kd.V_elder' (zV HO290) (Kd.R_base ho77) hb)
            have n7_ := Aside0.mk (Kd.V_elder' (zV HO293) (Kd.R_base ho77) hb)
            have n8_ := Aside0.mk (Kd.V_elder' (zV HO296) (Kd.R_base ho77) hb)
            have n9_ := Aside0.mk (Kd.R_elder' (zR HO306) (Kd.R_base ho77) hb)
            have n10_ := Aside0.mk (Kd.V_elder' (zV HO309) (Kd.R_base ho77) hb)
            have n11_ := Aside0.mk (Kd.V_elder' (zV HO312) (Kd.R_base ho77) hb)
            have n12_ := Aside0.mk (Kd.V_elder' (zV HO315) (Kd.R_base ho77) hb)
            have n13_ := Aside0.mk (Kd.V_elder' (zV HO318) (Kd.R_base ho77) hb)
            have n14_ := Aside0.mk (Kd.R_lower (Kd.R_new' ho77 (Kd.R_lt (zR HO306))) (below_size (zc4 HB GE264 GE277 GE287 GE297)))
            have n15_ := Aside0.mk (blk_below (g := gb264) (o := .cells #[.slice A0_0 l0_0.length c0_0, .slice A0_1 l0_1.length c0_1] 24 (0, 0)) (zb BK264) hb)
            have n16_ := Aside0.mk (blk_below (g := gb277) (o := .cells #[.slice Ao39 t268.length co39, .slice Ao42 t271.length co42] 24 (0, 0)) (zb BK277) hb)
            have n17_ := Aside0.mk (blk_below (g := gb287) (o := .cells #[.slice Ao47 t278.length co47, .slice Ao51 t281.length co51] 24 (0, 0)) (zb BK287) hb)
            have n18_ := Aside0.mk (blk_below (g := gb297) (o := .cells #[.slice Ao56 t288.length co56, .slice Ao61 t291.length co61] 24 (0, 0)) (zb BK297) hb)
            have n19_ := Aside0.mk (below_step (zc4 HB GE264 GE277 GE287 GE297) hb)
            clear HO270
            clear HO273
            clear HO276
            clear HO280
            clear HO283
            clear HO286
            clear HO290
            clear HO293
            clear HO296
            clear HO306
            clear HO309
            clear HO312
            clear HO315
            clear HO318
            clear BK264
            clear BK277
            clear BK287
            clear BK297
            clear HB
            have HO270 := n0_
            have HO273 := n1_
            have HO276 := n2_
            have HO280 := n3_
            have HO283 := n4_
            have HO286 := n5_
            have HO290 := n6_
            have HO293 := n7_
            have HO296 := n8_
            have HO306 := n9_
            have HO309 := n10_
            have HO312 := n11_
            have HO315 := n12_
            have HO318 := n13_
            have HO322 := n14_
            have BK264 := n15_
            have BK277 := n16_
            have BK287 := n17_
            have BK297 := n18_
            have HB := n19_
            clear n0_ n1_ n2_ n3_ n4_ n5_ n6_ n7_ n8_ n9_ n10_ n11_ n12_ n13_ n14_ n15_ n16_ n17_ n18_ n19_
            clear hb ho77
            obtain ⟨Ao79, co79, eo79⟩ := Kd.V_slice HO276.out
            (first | subst eo79 | (injection eo79 with f1_ f2_ f3_; have f4_ := f1_.symm; have f5_ := f3_.symm; clear f1_ f2_ f3_; subst f4_; subst f5_))
            refine hK.out _ _ ⟨(blk_cell BK287.out 0).trans rfl, (blk_cell BK287.out 1).trans rfl, (blk_cell BK297.out 0).trans rfl, (blk_cell BK297.out 1).trans rfl, (blk_cell BK264.out 0).trans rfl, (blk_cell BK264.out 1).trans rfl⟩ (fun hHeld => ?_)
            clear hK K
            refine norm_ (a' := ?_) ?_ ?_
            rotate_left
            ·show Act.put _ (some 63) _ = _
             simp only [Act.put, List.setIfInBounds_toArray, List.set_cons_zero, List.set_cons_succ, i64_w, i32_w]
             rfl
            refine one_ (i := 8) (N := some 65) #[true, true, true, true, true, true, true, true, true, true, false, true, false, false, false, false, false, false, false, false, false, false, false, false, false, false, false, false, false, false, false, false, false, false, false, false, false, false, false, false] rfl rfl (one_of HT_.out (by kernel_rfl)) (by decide) (fun K hK => ?_)
            refine Kd.R_append_rows_step (Kd.int .i64) (w0 := w) w.heap.size (by rfl) (.tmp 63) (.tmp 64) 22 3 (.int .i64 0) 8 rfl Try.underlying22 info3 rfl (by decide) (by omega) v321 y320 t274 _ _ _ (fun k_ => some k_ ≠ (v305 : Value).ownBlock) (fun _ => False) rfl rfl ?aO ?aR (fun _ _ h => h) (fun _ h => h.elim) ?aF ?aB ?aS ?aL ?_
            (case aR => repeat (first | exact (Kd.V_reads' HO276.out).2.2 | (with_reducible refine Kd.C_alloc ?_ _) | (with_reducible refine Kd.C_drewN ?_ _) | (with_reducible refine Kd.C_drew ?_)))
            (case aB => exact (zc4 HB GE264 GE277 GE287 GE297))
            (case aF => exact (fun k_ hk => Kd.fresh' (Kd.R_lt (zR HO306)) k_ hk))
            (case aO => exact (by (with_reducible repeat (first | apply Kd.R_alloc | apply Kd.R_drewN | apply Kd.R_drew)); exact Kd.R_mono HO322.out (fun _ hk => hk.2)))
            (case aS => exact (below_size (zc4 HB GE264 GE277 GE287 GE297)))
            (case aL => have := LMc27.out; omega)
            intro v324 w78 ho hb hg hat
            rw [← Ny323.out] at ho
            have n0_ := Aside0.mk (blk_grown (g := gb264) (o := .cells #[.slice A0_0 l0_0.length c0_0, .slice A0_1 l0_1.length c0_1] 24 (0, 0)) (zb BK264) hg (Kd.R_ne HO322.out BK264.out (by decide)))
            have n1_ := Aside0.mk (Kd.V_afterv (ok := (fun k_ => some k_ ≠ (v305 : Value).ownBlock ∧ k_ ≠ gb264 ∧ k_ ≠ gb277 ∧ k_ ≠ gb287 ∧ k_ ≠ gb297)) (by (with_reducible repeat (first | apply Kd.V_alloc | apply Kd.V_drewN | apply Kd.V_drew)); exact Kd.V_mono HO270.out (fun _ hk => ⟨⟨hk.1.2, ⟨hk.1.1.1, ⟨hk.1.1.2.1, ⟨hk.1.1.2.2.1, hk.1.1.2.2.2⟩⟩⟩⟩, hk.2⟩)) hg hat)
            have n2_ := Aside0.mk (Kd.V_afterv (ok := (fun k_ => some k_ ≠ (v305 : Value).ownBlock ∧ k_ ≠ gb264 ∧ k_ ≠ gb277 ∧ k_ ≠ gb287 ∧ k_ ≠ gb297)) (by (with_reducible repeat (first | apply Kd.V_alloc | apply Kd.V_drewN | apply Kd.V_drew)); exact Kd.V_mono HO273.out (fun _ hk => ⟨⟨hk.1.2, ⟨hk.1.1.1, ⟨hk.1.1.2.1, ⟨hk.1.1.2.2.1, hk.1.1.2.2.2⟩⟩⟩⟩, hk.2⟩)) hg hat)
            have n3_ := Aside0.mk (Kd.V_afterv (ok := (fun k_ => some k_ ≠ (v305 : Value).ownBlock ∧ k_ ≠ gb264 ∧ k_ ≠ gb277 ∧ k_ ≠ gb287 ∧ k_ ≠ gb297)) (by (with_reducible repeat (first | apply Kd.V_alloc | apply Kd.V_drewN | apply Kd.V_drew)); exact Kd.V_mono HO276.out (fun _ hk => ⟨⟨hk.1.2, ⟨hk.1.1.1, ⟨hk.1.1.2.1, ⟨hk.1.1.2.2.1, hk.1.1.2.2.2⟩⟩⟩⟩, hk.2⟩)) hg hat)
            have n4_ := Aside0.mk (blk_grown (g := gb277) (o := .cells #[.slice Ao39 t268.length co39, .slice Ao42 t271.length co42] 24 (0, 0)) (zb BK277) hg (Kd.R_ne HO322.out BK277.out (by decide)))
            have n5_ := Aside0.mk (Kd.V_afterv (ok := (fun k_ => some k_ ≠ (v305 : Value).ownBlock ∧ k_ ≠ gb264 ∧ k_ ≠ gb277 ∧ k_ ≠ gb287 ∧ k_ ≠ gb297)) (by (with_reducible repeat (first | apply Kd.V_alloc | apply Kd.V_drewN | apply Kd.V_drew)); exact Kd.V_mono HO280.out (fun _ hk => ⟨⟨hk.1.2, ⟨hk.1.1.1, ⟨hk.1.1.2.1, ⟨hk.1.1.2.2.1, hk.1.1.2.2.2⟩⟩⟩⟩, hk.2⟩)) hg hat)
            have n6_ := Aside0.mk (Kd.V_afterv (ok := (fun k_ => some k_ ≠ (v305 : Value).ownBlock ∧ k_ ≠ gb264 ∧ k_ ≠ gb277 ∧ k_ ≠ gb287 ∧ k_ ≠ gb297)) (by (with_reducible repeat (first | apply Kd.V_alloc | apply Kd.V_drewN | apply Kd.V_drew)); exact Kd.V_mono HO283.out (fun _ hk => ⟨⟨hk.1.2, ⟨hk.1.1.1, ⟨hk.1.1.2.1, ⟨hk.1.1.2.2.1, hk.1.1.2.2.2⟩⟩⟩⟩, hk.2⟩)) hg hat)
            have n7_ := Aside0.mk (Kd.V_afterv (ok := (fun k_ => some k_ ≠ (v305 : Value).ownBlock ∧ k_ ≠ gb264 ∧ k_ ≠ gb277 ∧ k_ ≠ gb287 ∧ k_ ≠ gb297)) (by (with_reducible repeat (first | apply Kd.V_alloc | apply Kd.V_drewN | apply Kd.V_drew)); exact Kd.V_mono HO286.out (fun _ hk => ⟨⟨hk.1.2, ⟨hk.1.1.1, ⟨hk.1.1.2.1, ⟨hk.1.1.2.2.1, hk.1.1.2.2.2⟩⟩⟩⟩, hk.2⟩)) hg hat)
            have n8_ := Aside0.mk (blk_grown (g := gb287) (o := .cells #[.slice Ao47 t278.length co47, .slice Ao51 t281.length co51] 24 (0, 0)) (zb BK287) hg (Kd.R_ne HO322.out BK287.out (by decide)))
            have n9_ := Aside0.mk (Kd.V_afterv (ok := (fun k_ => some k_ ≠ (v305 : Value).ownBlock ∧ k_ ≠ gb264 ∧ k_ ≠ gb277 ∧ k_ ≠ gb287 ∧ k_ ≠ gb297)) (by (with_reducible repeat (first | apply Kd.V_alloc | apply Kd.V_drewN | apply Kd.V_drew)); exact Kd.V_mono HO290.out (fun _ hk => ⟨⟨hk.1.2, ⟨hk.1.1.1, ⟨hk.1.1.2.1, ⟨hk.1.1.2.2.1, hk.1.1.2.2.2⟩⟩⟩⟩, hk.2⟩)) hg hat)
            have n10_ := Aside0.mk (Kd.V_afterv (ok := (fun k_ => some k_ ≠ (v305 : Value).ownBlock ∧ k_ ≠ gb264 ∧ k_ ≠ gb277 ∧ k_ ≠ gb287 ∧ k_ ≠ gb297)) (by (with_reducible repeat (first | apply Kd.V_alloc | apply Kd.V_drewN | apply Kd.V_drew)); exact Kd.V_mono HO293.out (fun _ hk => ⟨⟨hk.1.2, ⟨hk.1.1.1, ⟨hk.1.1.2.1, ⟨hk.1.1.2.2.1, hk.1.1.2.2.2⟩⟩⟩⟩, hk.2⟩)) hg hat)
            have n11_ := Aside0.mk (Kd.V_afterv (ok := (fun k_ => some k_ ≠ (v305 : Value).ownBlock ∧ k_ ≠ gb264 ∧ k_ ≠ gb277 ∧ k_ ≠ gb287 ∧ k_ ≠ gb297)) (by (with_reducible repeat (first | apply Kd.V_alloc | apply Kd.V_drewN | apply Kd.V_drew)); exact Kd.V_mono HO296.out (fun _ hk => ⟨⟨hk.1.2, ⟨hk.1.1.1, ⟨hk.1.1.2.1, ⟨hk.1.1.2.2.1, hk.1.1.2.2.2⟩⟩⟩⟩, hk.2⟩)) hg hat)
            have n12_ := Aside0.mk (blk_grown (g := gb297) (o := .cells #[.slice Ao56 t288.length co56, .slice Ao61 t291.length co61] 24 (0, 0)) (zb BK297) hg (Kd.R_ne HO322.out BK297.out (by decide)))
            have n13_ := Aside0.mk (Kd.R_after (ok := (fun _ => True)) (zR HO306) hg hat)
            have n14_ := Aside0.mk (Kd.V_afterv (ok := (fun k_ => some k_ ≠ (v305 : Value).ownBlock ∧ k_ ≠ gb264 ∧ k_ ≠ gb277 ∧ k_ ≠ gb287 ∧ k_ ≠ gb297)) (zV HO309) hg hat)
            have n15_ := Aside0.mk (Kd.V_afterv (ok := (fun k_ => some k_ ≠ (v305 : Value).ownBlock ∧ k_ ≠ gb264 ∧ k_ ≠ gb277 ∧ k_ ≠ gb287 ∧ k_ ≠ gb297)) (zV HO312) hg hat)
            have n16_ := Aside0.mk (Kd.V_afterv (ok := (fun k_ => some k_ ≠ (v305 : Value).ownBlock ∧ k_ ≠ gb264 ∧ k_ ≠ gb277 ∧ k_ ≠ gb287 ∧ k_ ≠ gb297)) (zV HO315) hg hat)
            have n17_ := Aside0.mk (Kd.V_afterv (ok := (fun k_ => some k_ ≠ (v305 : Value).ownBlock ∧ k_ ≠ gb264 ∧ k_ ≠ gb277 ∧ k_ ≠ gb287 ∧ k_ ≠ gb297)) (zV HO318) hg hat)
            have n18_ := Aside0.mk (hb)
            have n19_ := Aside0.mk (ho)
            clear BK264
            clear HO270
            clear HO273
            clear HO276
            clear BK277
            clear HO280
            clear HO283
            clear HO286
            clear BK287
            clear HO290
            clear HO293
            clear HO296
            clear BK297
            clear HO306
            clear HO309
            clear HO312
            clear HO315
            clear HO318
            clear HB
            clear HO322
            have BK264 := n0_
            have HO270 := n1_
            have HO273 := n2_
            have HO276 := n3_
            have BK277 := n4_
            have HO280 := n5_
            have HO283 := n6_
            have HO286 := n7_
            have BK287 := n8_
            have HO290 := n9_
            have HO293 := n10_
            have HO296 := n11_
            have BK297 := n12_
            have HO306 := n13_
            have HO309 := n14_
            have HO312 := n15_
            have HO315 := n16_
            have HO318 := n17_
            have HB := n18_
            have HO325 := n19_
            clear n0_ n1_ n2_ n3_ n4_ n5_ n6_ n7_ n8_ n9_ n10_ n11_ n12_ n13_ n14_ n15_ n16_ n17_ n18_ n19_
            clear ho hb hg hat
            obtain ⟨Ao81, co81, eo81⟩ := Kd.V_slice HO286.out
            (first | subst eo81 | (injection eo81 with f1_ f2_ f3_; have f4_ := f1_.symm; have f5_ := f3_.symm; clear f1_ f2_ f3_; subst f4_; subst f5_))
            refine hK.out _ _ ⟨(blk_cell BK287.out 0).trans rfl, (blk_cell BK287.out 1).trans rfl, (blk_cell BK297.out 0).trans rfl, (blk_cell BK297.out 1).trans rfl, (blk_cell BK264.out 0).trans rfl, (blk_cell BK264.out 1).trans rfl⟩ (fun hHeld => ?_)
            clear hK K
            refine norm_ (a' := ?_) ?_ ?_
            rotate_left
            ·show Act.put _ (some 65) _ = _
             simp only [Act.put, List.setIfInBounds_toArray, List.set_cons_zero, List.set_cons_succ, i64_w, i32_w]
             rfl
            refine one_ (i := 10) (N := some 67) #[true, true, true, true, true, true, true, true, true, true, true, true, false, false, false, false, false, false, false, false, false, false, false, false, false, false, false, false, false, false, false, false, false, false, false, false, false, false, false, false] rfl rfl (one_of HT_.out (by kernel_rfl)) (by decide) (fun K hK => ?_)
            refine Kd.R_append_rows_step (Kd.int .i64) (w0 := w) w.heap.size (by rfl) (.tmp 65) (.tmp 66) 22 3 (.int .i64 0) 8 rfl Try.underlying22 info3 rfl (by decide) (by omega) v324 y323 t284 _ _ _ (fun k_ => some k_ ≠ (v305 : Value).ownBlock) (fun _ => False) rfl rfl ?aO ?aR (fun _ _ h => h) (fun _ h => h.elim) ?aF ?aB ?aS ?aL ?_
            (case aR => repeat (first | exact (Kd.V_reads' HO286.out).2.2 | (with_reducible refine Kd.C_alloc ?_ _) | (with_reducible refine Kd.C_drewN ?_ _) | (with_reducible refine Kd.C_drew ?_)))
            (case aB => exact (zc4 HB GE264 GE277 GE287 GE297))
            (case aF => exact (fun k_ hk => Kd.fresh' (Kd.R_lt (zR HO306)) k_ hk))
            (case aO => exact (zR HO325))
            (case aS => exact (below_size (zc4 HB GE264 GE277 GE287 GE297)))
            (case aL => have := LMc28.out; omega)
            intro v327 w80 ho hb hg hat
            rw [← Ny326.out] at ho
            have n0_ := Aside0.mk (blk_grown (g := gb264) (o := .cells #[.slice A0_0 l0_0.length c0_0, .slice A0_1 l0_1.length c0_1] 24 (0, 0)) (zb BK264) hg (Kd.R_ne HO325.out BK264.out (by decide)))
            have n1_ := Aside0.mk (Kd.V_afterv (ok := (fun k_ => some k_ ≠ (v305 : Value).ownBlock ∧ k_ ≠ gb264 ∧ k_ ≠ gb277 ∧ k_ ≠ gb287 ∧ k_ ≠ gb297)) (zV HO270) hg hat)
            have n2_ := Aside0.mk (Kd.V_afterv (ok := (fun k_ => some k_ ≠ (v305 : Value).ownBlock ∧ k_ ≠ gb264 ∧ k_ ≠ gb277 ∧ k_ ≠ gb287 ∧ k_ ≠ gb297)) (zV HO273) hg hat)
            have n3_ := Aside0.mk (Kd.V_afterv (ok := (fun k_ => some k_ ≠ (v305 : Value).ownBlock ∧ k_ ≠ gb264 ∧ k_ ≠ gb277 ∧ k_ ≠ gb287 ∧ k_ ≠ gb297)) (zV HO276) hg hat)
            have n4_ := Aside0.mk (blk_grown (g := gb277) (o := .cells #[.slice Ao39 t268.length co39, .slice Ao42 t271.length co42] 24 (0, 0)) (zb BK277) hg (Kd.R_ne HO325.out BK277.out (by decide)))
            have n5_ := Aside0.mk (Kd.V_afterv (ok := (fun k_ => some k_ ≠ (v305 : Value).ownBlock ∧ k_ ≠ gb264 ∧ k_ ≠ gb277 ∧ k_ ≠ gb287 ∧ k_ ≠ gb297)) (zV HO280) hg hat)
            have n6_ := Aside0.mk (Kd.V_afterv (ok := (fun k_ => some k_ ≠ (v305 : Value).ownBlock ∧ k_ ≠ gb264 ∧ k_ ≠ gb277 ∧ k_ ≠ gb287 ∧ k_ ≠ gb297)) (zV HO283) hg hat)
            have n7_ := Aside0.mk (Kd.V_afterv (ok := (fun k_ => some k_ ≠ (v305 : Value).ownBlock ∧ k_ ≠ gb264 ∧ k_ ≠ gb277 ∧ k_ ≠ gb287 ∧ k_ ≠ gb297)) (zV HO286) hg hat)
            have n8_ := Aside0.mk (blk_grown (g := gb287) (o := .cells #[.slice Ao47 t278.length co47, .slice Ao51 t281.length co51] 24 (0, 0)) (zb BK287) hg (Kd.R_ne HO325.out BK287.out (by decide)))
            have n9_ := Aside0.mk (Kd.V_afterv (ok := (fun k_ => some k_ ≠ (v305 : Value).ownBlock ∧ k_ ≠ gb264 ∧ k_ ≠ gb277 ∧ k_ ≠ gb287 ∧ k_ ≠ gb297)) (zV HO290) hg hat)
            have n10_ := Aside0.mk (Kd.V_afterv (ok := (fun k_ => some k_ ≠ (v305 : Value).ownBlock ∧ k_ ≠ gb264 ∧ k_ ≠ gb277 ∧ k_ ≠ gb287 ∧ k_ ≠ gb297)) (zV HO293) hg hat)
            have n11_ := Aside0.mk (Kd.V_afterv (ok := (fun k_ => some k_ ≠ (v305 : Value).ownBlock ∧ k_ ≠ gb264 ∧ k_ ≠ gb277 ∧ k_ ≠ gb287 ∧ k_ ≠ gb297)) (zV HO296) hg hat)
            have n12_ := Aside0.mk (blk_grown (g := gb297) (o := .cells #[.slice Ao56 t288.length co56, .slice Ao61 t291.length co61] 24 (0, 0)) (zb BK297) hg (Kd.R_ne HO325.out BK297.out (by decide)))
            have n13_ := Aside0.mk (Kd.R_after (ok := (fun _ => True)) (zR HO306) hg hat)
            have n14_ := Aside0.mk (Kd.V_afterv (ok := (fun k_ => some k_ ≠ (v305 : Value).ownBlock ∧ k_ ≠ gb264 ∧ k_ ≠ gb277 ∧ k_ ≠ gb287 ∧ k_ ≠ gb297)) (zV HO309) hg hat)
            have n15_ := Aside0.mk (Kd.V_afterv (ok := (fun k_ => some k_ ≠ (v305 : Value).ownBlock ∧ k_ ≠ gb264 ∧ k_ ≠ gb277 ∧ k_ ≠ gb287 ∧ k_ ≠ gb297)) (zV HO312) hg hat)
            have n16_ := Aside0.mk (Kd.V_afterv (ok := (fun k_ => some k_ ≠ (v305 : Value).ownBlock ∧ k_ ≠ gb264 ∧ k_ ≠ gb277 ∧ k_ ≠ gb287 ∧ k_ ≠ gb297)) (zV HO315) hg hat)
            have n17_ := Aside0.mk (Kd.V_afterv (ok := (fun k_ => some k_ ≠ (v305 : Value).ownBlock ∧ k_ ≠ gb264 ∧ k_ ≠ gb277 ∧ k_ ≠ gb287 ∧ k_ ≠ gb297)) (zV HO318) hg hat)
            have n18_ := Aside0.mk (hb)
            have n19_ := Aside0.mk (ho)
            clear BK264
            clear HO270
            clear HO273
            clear HO276
            clear BK277
            clear HO280
            clear HO283
            clear HO286
            clear BK287
            clear HO290
            clear HO293
            clear HO296
            clear BK297
            clear HO306
            clear HO309
            clear HO312
            clear HO315
            clear HO318
            clear HB
            clear HO325
            have BK264 := n0_
            have HO270 := n1_
            have HO273 := n2_
            have HO276 := n3_
            have BK277 := n4_
            have HO280 := n5_
            have HO283 := n6_
            have HO286 := n7_
            have BK287 := n8_
            have HO290 := n9_
            have HO293 := n10_
            have HO296 := n11_
            have BK297 := n12_
            have HO306 := n13_
            have HO309 := n14_
            have HO312 := n15_
            have HO315 := n16_
            have HO318 := n17_
            have HB := n18_
            have HO328 := n19_
            clear n0_ n1_ n2_ n3_ n4_ n5_ n6_ n7_ n8_ n9_ n10_ n11_ n12_ n13_ n14_ n15_ n16_ n17_ n18_ n19_
            clear ho hb hg hat
            obtain ⟨Ao82, co82, eo82⟩ := Kd.R_slice HO328.out
            (first | subst eo82 | (injection eo82 with f1_ f2_ f3_; have f4_ := f1_.symm; have f5_ := f3_.symm; clear f1_ f2_ f3_; subst f4_; subst f5_))
            refine hK.out _ _ ⟨(blk_cell BK287.out 0).trans rfl, (blk_cell BK287.out 1).trans rfl, (blk_cell BK297.out 0).trans rfl, (blk_cell BK297.out 1).trans rfl, (blk_cell BK264.out 0).trans rfl, (blk_cell BK264.out 1).trans rfl⟩ (fun hHeld => ?_)
            clear hK K
            refine norm_ (a' := ?_) ?_ ?_
            rotate_left
            ·show Act.put _ (some 67) _ = _
             simp only [Act.put, List.setIfInBounds_toArray, List.set_cons_zero, List.set_cons_succ, i64_w, i32_w]
             rfl
            refine one_ (i := 12) (N := some 69) #[true, true, true, true, true, true, true, true, true, true, true, true, true, false, false, false, false, false, false, false, false, false, false, false, false, false, false, false, false, false, false, false, false, false, false, false, false, false, false, false] rfl rfl (one_of HT_.out (by kernel_rfl)) (by decide) (fun K hK => ?_)
            refine goes_ Try.func22 (by kernel_rfl) rfl #[.slice Ao82 y326.length co82, .slice Ao67 t294.length co67] (by rfl) rfl rfl zm ?_
            with_reducible refine (handshakerref03_Numbers.calls kj3 _ _ y326 _ _ t294 true _ ?side1 ?side2 ?side3 ?side4 A29.out).mono ?_
            (case side1 => repeat (first | exact (Kd.R_reads' HO328.out).2.2 | (with_reducible refine Kd.C_alloc ?_ _) | (with_reducible refine Kd.C_drewN ?_ _) | (with_reducible refine Kd.C_drew ?_)))
            (case side2 => exact (Kd.R_reads' HO328.out).2.1)
            (case side3 => repeat (first | exact (Kd.V_reads' HO296.out).2.2 | (with_reducible refine Kd.C_alloc ?_ _) | (with_reducible refine Kd.C_drewN ?_ _) | (with_reducible refine Kd.C_drew ?_)))
            (case side4 => exact (Kd.V_reads' HO296.out).2.1)
            rintro e w' ⟨rfl, ⟨nd, rfl⟩⟩
            refine ⟨_, rfl, ?_⟩
            obtain ⟨Ao83, co83, eo83⟩ := Kd.R_slice HO306.out
            (first | subst eo83 | (injection eo83 with f1_ f2_ f3_; have f4_ := f1_.symm; have f5_ := f3_.symm; clear f1_ f2_ f3_; subst f4_; subst f5_))
            refine hK.out _ _ ⟨(blk_cell BK287.out 0).trans rfl, (blk_cell BK287.out 1).trans rfl, (blk_cell BK297.out 0).trans rfl, (blk_cell BK297.out 1).trans rfl, (blk_cell BK264.out 0).trans rfl, (blk_cell BK264.out 1).trans rfl⟩ (fun hHeld => ?_)
            clear hK K
            refine norm_ (a' := ?_) ?_ ?_
            rotate_left
            ·show Act.put _ (some 69) _ = _
             simp only [Act.put, List.setIfInBounds_toArray, List.set_cons_zero, List.set_cons_succ, i64_w, i32_w]
             rfl
            refine pure_ (i := 13) (N := some 70) (v := ?_) (a' := ?_) #[true, true, true, true, true, true, true, true, true, true, true, true, true, true, false, false, false, false, false, false, false, false, false, false, false, false, false, false, false, false, false, false, false, false, false, false, false, false, false, false] rfl rfl (any_of HT_.out (by kernel_rfl)) (fun _ _ _ h => h) (Or.inl ⟨by rfl, ?_⟩) ?_ ?_
            rotate_left
            ·intro w'
             go_simp
             with_reducible rfl
            rotate_left
            ·simp only [Act.put, List.setIfInBounds_toArray, List.set_cons_zero, List.set_cons_succ, i64_w, i32_w]
             rfl
            refine pure_ (i := 14) (N := some 71) (v := ?_) (a' := ?_) #[true, true, true, true, true, true, true, true, true, true, true, true, true, true, true, false, false, false, false, false, false, false, false, false, false, false, false, false, false, false, false, false, false, false, false, false, false, false, false, false] rfl rfl (any_of HT_.out (by kernel_rfl)) (fun _ _ _ h => h) (Or.inl ⟨by rfl, ?_⟩) ?_ ?_
            rotate_left
            ·intro w'
             go_simp
             with_reducible rfl
            rotate_left
            ·simp only [Act.put, List.setIfInBounds_toArray, List.set_cons_zero, List.set_cons_succ, i64_w, i32_w]
             rfl
            refine pure_ (i := 15) (N := some 72) (v := ?_) (a' := ?_) #[true, true, true, true, true, true, true, true, true, true, true, true, true, true, true, true, false, false, false, false, false, false, false, false, false, false, false, false, false, false, false, false, false, false, false, false, false, false, false, false] rfl rfl (any_of HT_.out (by kernel_rfl)) (fun _ _ _ h => h) (Or.inl ⟨by rfl, ?_⟩) ?_ ?_
            rotate_left
            ·intro w'
             go_simp
             with_reducible rfl
            rotate_left
            ·simp only [Act.put, List.setIfInBounds_toArray, List.set_cons_zero, List.set_cons_succ, i64_w, i32_w]
             rfl
            refine pure_ (i := 17) (N := some 74) (v := ?_) (a' := ?_) #[true, true, true, true, true, true, true, true, true, true, true, true, true, true, true, true, false, true, false, false, false, false, false, false, false, false, false, false, false, false, false, false, false, false, false, false, false, false, false, false] rfl rfl (any_of HT_.out (by kernel_rfl)) (fun _ _ _ h => h) (Or.inl ⟨by rfl, ?_⟩) ?_ ?_
            rotate_left
            ·intro w'
             go_simp
             with_reducible rfl
            rotate_left
            ·simp only [Act.put, List.setIfInBounds_toArray, List.set_cons_zero, List.set_cons_succ, i64_w, i32_w]
             rfl
            refine take_ (i := 16) (N := some 73) (v := ?_) (a' := ?_) #[true, true, true, true, true, true, true, true, true, true, true, true, true, true, true, true, true, true, false, false, false, false, false, false, false, false, false, false, false, false, false, false, false, false, false, false, false, false, false, false] rfl rfl (take_ofW HT_.out HW_.out (by kernel_rfl)) (fun _ _ _ h => h) (Or.inl ⟨by rfl, ?_⟩) hHeld ?_ ?_
            rotate_left
            ·rintro w' ⟨s0, s1, s2, s3, s4, s5⟩
             go_simp
             with_reducible rfl
            rotate_left
            ·simp only [Act.put, List.setIfInBounds_toArray, List.set_cons_zero, List.set_cons_succ, i64_w, i32_w]
             rfl
            refine one_ (i := 18) (N := some 75) #[true, true, true, true, true, true, true, true, true, true, true, true, true, true, true, true, true, true, true, false, false, false, false, false, false, false, false, false, false, false, false, false, false, false, false, false, false, false, false, false] rfl rfl (one_of HT_.out (by kernel_rfl)) (by decide) (fun K hK => ?_)
            refine goes_ Try.func22 (by kernel_rfl) rfl #[.slice Ao61 t291.length co61, .slice Ao83 y304.length co83] (by rfl) rfl rfl zm ?_
            with_reducible refine (handshakerref03_Numbers.calls kj3 _ _ t291 _ _ y304 true _ ?side1 ?side2 ?side3 ?side4 A31.out).mono ?_
            (case side1 => repeat (first | exact (Kd.V_reads' HO293.out).2.2 | (with_reducible refine Kd.C_alloc ?_ _) | (with_reducible refine Kd.C_drewN ?_ _) | (with_reducible refine Kd.C_drew ?_)))
            (case side2 => exact (Kd.V_reads' HO293.out).2.1)
            (case side3 => repeat (first | exact (Kd.R_reads' HO306.out).2.2 | (with_reducible refine Kd.C_alloc ?_ _) | (with_reducible refine Kd.C_drewN ?_ _) | (with_reducible refine Kd.C_drew ?_)))
            (case side4 => exact (Kd.R_reads' HO306.out).2.1)
            rintro e w' ⟨rfl, ⟨nd, rfl⟩⟩
            refine ⟨_, rfl, ?_⟩
            refine hK.out _ _ ⟨(blk_cell BK287.out 0).trans rfl, (blk_cell BK287.out 1).trans rfl, (blk_cell BK297.out 0).trans rfl, (blk_cell BK297.out 1).trans rfl, (blk_cell BK264.out 0).trans rfl, (blk_cell BK264.out 1).trans rfl⟩ (fun hHeld => ?_)
            clear hK K
            refine norm_ (a' := ?_) ?_ ?_
            rotate_left
            ·show Act.put _ (some 75) _ = _
             simp only [Act.put, List.setIfInBounds_toArray, List.set_cons_zero, List.set_cons_succ, i64_w, i32_w]
             rfl
            refine pure_ (i := 19) (N := some 76) (v := ?_) (a' := ?_) #[true, true, true, true, true, true, true, true, true, true, true, true, true, true, true, true, true, true, true, true, false, false, false, false, false, false, false, false, false, false, false, false, false, false, false, false, false, false, false, false] rfl rfl (any_of HT_.out (by kernel_rfl)) (fun _ _ _ h => h) (Or.inl ⟨by rfl, ?_⟩) ?_ ?_
            rotate_left
            ·intro w'
             go_simp
             with_reducible rfl
            rotate_left
            ·simp only [Act.put, List.setIfInBounds_toArray, List.set_cons_zero, List.set_cons_succ, i64_w, i32_w]
             rfl
            refine pure_ (i := 20) (N := some 77) (v := ?_) (a' := ?_) #[true, true, true, true, true, true, true, true, true, true, true, true, true, true, true, true, true, true, true, true, true, false, false, false, false, false, false, false, false, false, false, false, false, false, false, false, false, false, false, false] rfl rfl (any_of HT_.out (by kernel_rfl)) (fun _ _ _ h => h) (Or.inl ⟨by rfl, ?_⟩) ?_ ?_
            rotate_left
            ·intro w'
             go_simp
             with_reducible rfl
            rotate_left
            ·simp only [Act.put, List.setIfInBounds_toArray, List.set_cons_zero, List.set_cons_succ, i64_w, i32_w]
             rfl
            refine pure_ (i := 21) (N := some 78) (v := ?_) (a' := ?_) #[true, true, true, true, true, true, true, true, true, true, true, true, true, true, true, true, true, true, true, true, true, true, false, false, false, false, false, false, false, false, false, false, false, false, false, false, false, false, false, false] rfl rfl (any_of HT_.out (by kernel_rfl)) (fun _ _ _ h => h) (Or.inl ⟨by rfl, ?_⟩) ?_ ?_
            rotate_left
            ·intro w'
             go_simp
             with_reducible rfl
            rotate_left
            ·simp only [Act.put, List.setIfInBounds_toArray, List.set_cons_zero, List.set_cons_succ, i64_w, i32_w]
             rfl
            refine pure_ (i := 22) (N := some 79) (v := ?_) (a' := ?_) #[true, true, true, true, true, true, true, true, true, true, true, true, true, true, true, true, true, true, true, true, true, true, true, false, false, false, false, false, false, false, false, false, false, false, false, false, false, false, false, false] rfl rfl (any_of HT_.out (by kernel_rfl)) (fun _ _ _ h => h) (Or.inl ⟨by rfl, ?_⟩) ?_ ?_
            rotate_left
            ·intro w'
             go_simp
             with_reducible rfl
            rotate_left
            ·simp only [Act.put, List.setIfInBounds_toArray, List.set_cons_zero, List.set_cons_succ, i64_w, i32_w]
             rfl
            refine pure_ (i := 23) (N := some 80) (v := ?_) (a' := ?_) #[true, true, true, true, true, true, true, true, true, true, true, true, true, true, true, true, true, true, true, true, true, true, true, true, false, false, false, false, false, false, false, false, false, false, false, false, false, false, false, false] rfl rfl (any_of HT_.out (by kernel_rfl)) (fun _ _ _ h => h) (Or.inl ⟨by rfl, ?_⟩) ?_ ?_
            rotate_left
            ·intro w'
             go_simp
             with_reducible rfl
            rotate_left
            ·simp only [Act.put, List.setIfInBounds_toArray, List.set_cons_zero, List.set_cons_succ, i64_w, i32_w]
             rfl
            refine pure_ (i := 24) (N := some 81) (v := ?_) (a' := ?_) #[true, true, true, true, true, true, true, true, true, true, true, true, true, true, true, true, true, true, true, true, true, true, true, true, true, false, false, false, false, false, false, false, false, false, false, false, false, false, false, false] rfl rfl (any_of HT_.out (by kernel_rfl)) (fun _ _ _ h => h) (Or.inl ⟨by rfl, ?_⟩) ?_ ?_
            rotate_left
            ·intro w'
             go_simp
             with_reducible rfl
            rotate_left
            ·simp only [Act.put, List.setIfInBounds_toArray, List.set_cons_zero, List.set_cons_succ, i64_w, i32_w]
             rfl
            refine pure_ (i := 25) (N := some 82) (v := ?_) (a' := ?_) #[true, true, true, true, true, true, true, true, true, true, true, true, true, true, true, true, true, true, true, true, true, true, true, true, true, true, false, false, false, false, false, false, false, false, false, false, false, false, false, false] rfl rfl (any_of HT_.out (by kernel_rfl)) (fun _ _ _ h => h) (Or.inl ⟨by rfl, ?_⟩) ?_ ?_
            rotate_left
            ·intro w'
             go_simp
             with_reducible rfl
            rotate_left
            ·simp only [Act.put, List.setIfInBounds_toArray, List.set_cons_zero, List.set_cons_succ, i64_w, i32_w]
             rfl
            refine pure_ (i := 26) (N := some 83) (v := ?_) (a' := ?_) #[true, true, true, true, true, true, true, true, true, true, true, true, true, true, true, true, true, true, true, true, true, true, true, true, true, true, true, false, false, false, false, false, false, false, false, false, false, false, false, false] rfl rfl (any_of HT_.out (by kernel_rfl)) (fun _ _ _ h => h) (Or.inl ⟨by rfl, ?_⟩) ?_ ?_
            rotate_left
            ·intro w'
             go_simp
             with_reducible rfl
            rotate_left
            ·simp only [Act.put, List.setIfInBounds_toArray, List.set_cons_zero, List.set_cons_succ, i64_w, i32_w]
             rfl
            refine pure_ (i := 27) (N := some 84) (v := ?_) (a' := ?_) #[true, true, true, true, true, true, true, true, true, true, true, true, true, true, true, true, true, true, true, true, true, true, true, true, true, true, true, true, false, false, false, false, false, false, false, false, false, false, false, false] rfl rfl (any_of HT_.out (by kernel_rfl)) (fun _ _ _ h => h) (Or.inl ⟨by rfl, ?_⟩) ?_ ?_
            rotate_left
            ·intro w'
             go_simp
             with_reducible rfl
            rotate_left
            ·simp only [Act.put, List.setIfInBounds_toArray, List.set_cons_zero, List.set_cons_succ, i64_w, i32_w]
             rfl
            refine pure_ (i := 28) (N := some 85) (v := ?_) (a' := ?_) #[true, true, true, true, true, true, true, true, true, true, true, true, true, true, true, true, true, true, true, true, true, true, true, true, true, true, true, true, true, false, false, false, false, false, false, false, false, false, false, false] rfl rfl (any_of HT_.out (by kernel_rfl)) (fun _ _ _ h => h) (Or.inl ⟨by rfl, ?_⟩) ?_ ?_
            rotate_left
            ·intro w'
             go_simp
             with_reducible rfl
            rotate_left
            ·simp only [Act.put, List.setIfInBounds_toArray, List.set_cons_zero, List.set_cons_succ, i64_w, i32_w]
             rfl
            refine pure_ (i := 29) (N := some 86) (v := ?_) (a' := ?_) #[true, true, true, true, true, true, true, true, true, true, true, true, true, true, true, true, true, true, true, true, true, true, true, true, true, true, true, true, true, true, false, false, false, false, false, false, false, false, false, false] rfl rfl (any_of HT_.out (by kernel_rfl)) (fun _ _ _ h => h) (Or.inl ⟨by rfl, ?_⟩) ?_ ?_
            rotate_left
            ·intro w'
             go_simp
             with_reducible rfl
            rotate_left
            ·simp only [Act.put, List.setIfInBounds_toArray, List.set_cons_zero, List.set_cons_succ, i64_w, i32_w]
             rfl
            refine pure_ (i := 30) (N := some 87) (v := ?_) (a' := ?_) #[true, true, true, true, true, true, true, true, true, true, true, true, true, true, true, true, true, true, true, true, true, true, true, true, true, true, true, true, true, true, true, false, false, false, false, false, false, false, false, false] rfl rfl (any_of HT_.out (by kernel_rfl)) (fun _ _ _ h => h) (Or.inl ⟨by rfl, ?_⟩) ?_ ?_
            rotate_left
            ·intro w'
             go_simp
             with_reducible rfl
            rotate_left
            ·simp only [Act.put, List.setIfInBounds_toArray, List.set_cons_zero, List.set_cons_succ, i64_w, i32_w]
             rfl
            refine take_ (i := 31) (N := some 88) (v := ?_) (a' := ?_) #[true, true, true, true, true, true, true, true, true, true, true, true, true, true, true, true, true, true, true, true, true, true, true, true, true, true, true, true, true, true, true, true, false, false, false, false, false, false, false, false] rfl rfl (take_ofW HT_.out HW_.out (by kernel_rfl)) (fun _ _ _ h => h) (Or.inl ⟨by rfl, ?_⟩) hHeld ?_ ?_
            rotate_left
            ·rintro w' ⟨s0, s1, s2, s3, s4, s5⟩
             go_simp
             with_reducible rfl
            rotate_left
            ·simp only [Act.put, List.setIfInBounds_toArray, List.set_cons_zero, List.set_cons_succ, i64_w, i32_w]
             rfl
            refine pure_ (i := 32) (N := some 89) (v := ?_) (a' := ?_) #[true, true, true, true, true, true, true, true, true, true, true, true, true, true, true, true, true, true, true, true, true, true, true, true, true, true, true, true, true, true, true, true, true, false, false, false, false, false, false, false] rfl rfl (any_of HT_.out (by kernel_rfl)) (fun _ _ _ h => h) (Or.inl ⟨by rfl, ?_⟩) ?_ ?_
            rotate_left
            ·intro w'
             go_simp
             with_reducible rfl
            rotate_left
            ·simp only [Act.put, List.setIfInBounds_toArray, List.set_cons_zero, List.set_cons_succ, i64_w, i32_w]
             rfl
            refine pure_ (i := 33) (N := some 90) (v := ?_) (a' := ?_) #[true, true, true, true, true, true, true, true, true, true, true, true, true, true, true, true, true, true, true, true, true, true, true, true, true, true, true, true, true, true, true, true, true, true, false, false, false, false, false, false] rfl rfl (any_of HT_.out (by kernel_rfl)) (fun _ _ _ h => h) (Or.inl ⟨by rfl, ?_⟩) ?_ ?_
            rotate_left
            ·intro w'
             go_simp
             with_reducible rfl
            rotate_left
            ·simp only [Act.put, List.setIfInBounds_toArray, List.set_cons_zero, List.set_cons_succ, i64_w, i32_w]
             rfl
            refine pure_ (i := 34) (N := some 91) (v := ?_) (a' := ?_) #[true, true, true, true, true, true, true, true, true, true, true, true, true, true, true, true, true, true, true, true, true, true, true, true, true, true, true, true, true, true, true, true, true, true, true, false, false, false, false, false] rfl rfl (any_of HT_.out (by kernel_rfl)) (fun _ _ _ h => h) (Or.inl ⟨by rfl, ?_⟩) ?_ ?_
            rotate_left
            ·intro w'
             go_simp
             with_reducible rfl
            rotate_left
            ·simp only [Act.put, List.setIfInBounds_toArray, List.set_cons_zero, List.set_cons_succ, i64_w, i32_w]
             rfl
            refine pure_ (i := 35) (N := some 92) (v := ?_) (a' := ?_) #[true, true, true, true, true, true, true, true, true, true, true, true, true, true, true, true, true, true, true, true, true, true, true, true, true, true, true, true, true, true, true, true, true, true, true, true, false, false, false, false] rfl rfl (any_of HT_.out (by kernel_rfl)) (fun _ _ _ h => h) (Or.inl ⟨by rfl, ?_⟩) ?_ ?_
            rotate_left
            ·intro w'
             go_simp
             with_reducible rfl
            rotate_left
            ·simp only [Act.put, List.setIfInBounds_toArray, List.set_cons_zero, List.set_cons_succ, i64_w, i32_w]
             rfl
            refine pure_ (i := 36) (N := some 93) (v := ?_) (a' := ?_) #[true, true, true, true, true, true, true, true, true, true, true, true, true, true, true, true, true, true, true, true, true, true, true, true, true, true, true, true, true, true, true, true, true, true, true, true, true, false, false, false] rfl rfl (any_of HT_.out (by kernel_rfl)) (fun _ _ _ h => h) (Or.inl ⟨by rfl, ?_⟩) ?_ ?_
            rotate_left
            ·intro w'
             go_simp
             with_reducible rfl
            rotate_left
            ·simp only [Act.put, List.setIfInBounds_toArray, List.set_cons_zero, List.set_cons_succ, i64_w, i32_w]
             rfl
            refine one_ (i := 37) (N := some 94) #[true, true, true, true, true, true, true, true, true, true, true, true, true, true, true, true, true, true, true, true, true, true, true, true, true, true, true, true, true, true, true, true, true, true, true, true, true, true, false, false] rfl rfl (one_of HT_.out (by kernel_rfl)) (by decide) (fun K hK => ?_)
            refine goes_ Try.func9 (by kernel_rfl) rfl #[] (by rfl) rfl rfl zm ?_
            with_reducible refine (handshakerlaw20_awake.calls kj3  t331 _ A35.out).mono ?_
            rintro e w84 ⟨rfl, hb⟩
            refine ⟨_, rfl, ?_⟩
            have n0_ := Aside0.mk (Kd.V_below (zV HO270) hb)
            have n1_ := Aside0.mk (Kd.V_below (zV HO273) hb)
            have n2_ := Aside0.mk (Kd.V_below (zV HO276) hb)
            have n3_ := Aside0.mk (Kd.V_below (zV HO280) hb)
            have n4_ := Aside0.mk (Kd.V_below (zV HO283) hb)
            have n5_ := Aside0.mk (Kd.V_below (zV HO286) hb)
            have n6_ := Aside0.mk (Kd.V_below (zV HO290) hb)
            have n7_ := Aside0.mk (Kd.V_below (zV HO293) hb)
            have n8_ := Aside0.mk (Kd.V_below (zV HO296) hb)
            have n9_ := Aside0.mk (Kd.R_below (zR HO306) hb)
            have n10_ := Aside0.mk (Kd.V_below (zV HO309) hb)
            have n11_ := Aside0.mk (Kd.V_below (zV HO312) hb)
            have n12_ := Aside0.mk (Kd.V_below (zV HO315) hb)
            have n13_ := Aside0.mk (Kd.V_below (zV HO318) hb)
            have n14_ := Aside0.mk (Kd.R_below (zR HO328) hb)
            have n15_ := Aside0.mk (blk_below (g := gb264) (o := .cells #[.slice A0_0 l0_0.length c0_0, .slice A0_1 l0_1.length c0_1] 24 (0, 0)) (zb BK264) hb)
            have n16_ := Aside0.mk (blk_below (g := gb277) (o := .cells #[.slice Ao39 t268.length co39, .slice Ao42 t271.length co42] 24 (0, 0)) (zb BK277) hb)
            have n17_ := Aside0.mk (blk_below (g := gb287) (o := .cells #[.slice Ao47 t278.length co47, .slice Ao51 t281.length co51] 24 (0, 0)) (zb BK287) hb)
            have n18_ := Aside0.mk (blk_below (g := gb297) (o := .cells #[.slice Ao56 t288.length co56, .slice Ao61 t291.length co61] 24 (0, 0)) (zb BK297) hb)
            have n19_ := Aside0.mk (below_step (zc4 HB GE264 GE277 GE287 GE297) hb)
            clear HO270
            clear HO273
            clear HO276
            clear HO280
            clear HO283
            clear HO286
            clear HO290
            clear HO293
            clear HO296
            clear HO306
            clear HO309
            clear HO312
            clear HO315
            clear HO318
            clear HO328
            clear BK264
            clear BK277
            clear BK287
            clear BK297
            clear HB
            have HO270 := n0_
            have HO273 := n1_
            have HO276 := n2_
            have HO280 := n3_
            have HO283 := n4_
            have HO286 := n5_
            have HO290 := n6_
            have HO293 := n7_
            have HO296 := n8_
            have HO306 := n9_
            have HO309 := n10_
            have HO312 := n11_
            have HO315 := n12_
            have HO318 := n13_
            have HO328 := n14_
            have BK264 := n15_
            have BK277 := n16_
            have BK287 := n17_
            have BK297 := n18_
            have HB := n19_
            clear n0_ n1_ n2_ n3_ n4_ n5_ n6_ n7_ n8_ n9_ n10_ n11_ n12_ n13_ n14_ n15_ n16_ n17_ n18_ n19_
            (try clear hb)
            (try clear hb2)
            (try clear hk)
            (try clear hi)
            refine hK.out _ _ ⟨(blk_cell BK287.out 0).trans rfl, (blk_cell BK287.out 1).trans rfl, (blk_cell BK297.out 0).trans rfl, (blk_cell BK297.out 1).trans rfl, (blk_cell BK264.out 0).trans rfl, (blk_cell BK264.out 1).trans rfl⟩ (fun hHeld => ?_)
            clear hK K
            refine norm_ (a' := ?_) ?_ ?_
            rotate_left
            ·show Act.put _ (some 94) _ = _
             simp only [Act.put, List.setIfInBounds_toArray, List.set_cons_zero, List.set_cons_succ, i64_w, i32_w]
             rfl
            refine pure_ (i := 38) (N := some 95) (v := ?_) (a' := ?_) #[true, true, true, true, true, true, true, true, true, true, true, true, true, true, true, true, true, true, true, true, true, true, true, true, true, true, true, true, true, true, true, true, true, true, true, true, true, true, true, false] rfl rfl (any_of HT_.out (by kernel_rfl)) (fun _ _ _ h => h) (Or.inl ⟨by rfl, ?_⟩) ?_ ?_
            rotate_left
            ·intro w'
             go_simp
             with_reducible rfl
            rotate_left
            ·simp only [Act.put, List.setIfInBounds_toArray, List.set_cons_zero, List.set_cons_succ, i64_w, i32_w]
             rfl
            refine pure_ (i := 39) (N := some 6) (v := ?_) (a' := ?_) #[true, true, true, true, true, true, true, true, true, true, true, true, true, true, true, true, true, true, true, true, true, true, true, true, true, true, true, true, true, true, true, true, true, true, true, true, true, true, true, true] rfl rfl (any_of HT_.out (by kernel_rfl)) (fun _ _ _ h => h) (Or.inl ⟨by rfl, ?_⟩) ?_ ?_
            rotate_left
            ·intro w'
             go_simp
             with_reducible rfl
            rotate_left
            ·simp only [Act.put, List.setIfInBounds_toArray, List.set_cons_zero, List.set_cons_succ, i64_w, i32_w]
             rfl
            refine done_ (done_of HT_.out (by kernel_rfl)) ?_
            try go_wp2
            go_ret
            exact ⟨by first | rfl | (simp [errW_none, errW_some] <;> rfl) | (simp only [← hji33]; first | rfl | (simp [errW_none, errW_some] <;> rfl)) | (simp [*, errW_none, errW_some] <;> rfl), by repeat (first | (with_reducible first | exact HB.out | apply below_alloc | apply pw_below_drewN | apply below_drew1 | refine below_set ?_ GE264.out | refine below_set ?_ GE277.out | refine below_set ?_ GE287.out | refine below_set ?_ GE297.out) | exact HB.out)⟩
           ·rw [if_neg c34] at H
            exact absurd H (by simp)
          ·replace c32 := Bool.eq_false_iff.mpr c32
           subst c32
           have H1 : (none) = some r := by rw [if_neg (show ¬ (false = true) by decide)] at H; exact H
           clear H
           have H := H1
           clear H1
           exact absurd H (by simp)
         ·replace c30 := Bool.eq_false_iff.mpr c30
          subst c30
          have H1 : (none) = some r := by rw [if_neg (show ¬ (false = true) by decide)] at H; exact H
          clear H
          have H := H1
          clear H1
          exact absurd H (by simp)
        ·rw [if_neg c28] at H
         exact absurd H (by simp)
       ·rw [if_neg c27] at H
        exact absurd H (by simp)
      ·replace c26 := Bool.eq_false_iff.mpr c26
       subst c26
       have H1 : (none) = some r := by rw [if_neg (show ¬ (false = true) by decide)] at H; exact H
       clear H
       have H := H1
       clear H1
       exact absurd H (by simp)
     ·rw [if_neg c22] at H
      exact absurd H (by simp)
    ·rw [if_neg c21] at H
     exact absurd H (by simp)

end Go.Proofs.Ytllmfahkiabkcaa.PCondParts
