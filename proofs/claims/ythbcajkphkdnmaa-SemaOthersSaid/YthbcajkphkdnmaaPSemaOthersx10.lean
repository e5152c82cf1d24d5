/- Lean functions that say what functions of the given program compute, and proofs by walking the code that each call does just that; no condition but those that each statement names. -/
import Derived.Test.YthbcajkphkdnmaaPSemaOthersx0
import Derived.Test.YthbcajkphkdnmaaPSemaOthersx4
import Derived.Test.YthbcajkphkdnmaaPSemaOthersx8
import Derived.Test.YthbcajkphkdnmaaPSemaOthersx9
namespace Go.Proofs.Ythbcajkphkdnmaa.PSemaOthers
open Go.RowKit Go.Proofs.YthbcajkphkdnmaaW.PrintWords Go.Proofs.YthbcajkphkdnmaaW.PrintLast Go.Proofs.YthbcajkphkdnmaaW.PrintMore
attribute [local go_sem] max2_int min2_int max_two min_two max_three min_three max_four min_four   -- for this text's walks alone
set_option linter.unusedVariables false
set_option linter.unusedSimpArgs false

/-! ### handshakerlaw18_SemaOthers: function 8 -/
mutual
def handshakerlaw18_SemaOthers.j0 : Nat → Int → Int → Int → Bool → Int → Int → List (S50) → Option (Bool)
 | 0, _, _, _, _, _, _, _ => none
 | k + 1, x1, x2, x3, x34, x267000, x267001, x267002 => if x34 = true then ((handshakerlaw18_awake.f k).bind fun t268 => (some t268)) else ((sema_Leave.f k x267000 x267001 x267002 x1).bind fun bt269 => (handshakerlaw18_SemaOthers.l0 k x1 x2 x3 bt269.2.2.2.1 bt269.2.2.2.2 ([] : List (S50)) x267002 (x267002.length : Int) 0 x267000 x267001 x267002 bt269.1 bt269.2.1 bt269.2.2.1))
def handshakerlaw18_SemaOthers.l0 : Nat → Int → Int → Int → List (S50) → Int → List (S50) → List (S50) → Int → Int → Int → Int → List (S50) → Int → Int → List (S50) → Option (Bool)
 | 0, _, _, _, _, _, _, _, _, _, _, _, _, _, _, _ => none
 | k + 1, x1, x2, x3, x10, x11, x12, x44, x45, x46, x267000, x267001, x267002, x279000, x279001, x279002 => if x46 < x45 then (if 0 ≤ x46 then (if x46 < (x44.length : Int) then (if ((rd_T50 x44 x46).f0) = x1 then (handshakerlaw18_SemaOthers.l0 k x1 x2 x3 x10 x11 x12 x44 x45 (wrap64 (x46 + 1)) x267000 x267001 x267002 x279000 x279001 x279002) else (if x12.length < 8796093022208 then (handshakerlaw18_SemaOthers.l0 k x1 x2 x3 x10 x11 (x12 ++ [(⟨(rd_T50 x44 x46).f0, (rd_T50 x44 x46).f1⟩ : S50)]) x44 x45 (wrap64 (x46 + 1)) x267000 x267001 x267002 x279000 x279001 x279002) else (none))) else (none)) else (none)) else (if x11 = 0 then ((some (([] : List (S50)) : List (S50))).bind fun y284 => (if y284.length + x10.length < 8796093022208 then ((some (y284 ++ x10 : List (S50))).bind fun y287 => (if y287.length + x279002.length < 8796093022208 then ((handshakerlaw18_Refs.f k (y287 ++ x279002)).bind fun t293 => ((handshakerlaw18_Refs.f k x12).bind fun t296 => ((handshakerref18_List.f k t293 t296).bind fun t299 => (handshakerlaw18_SemaOthers.j2 k x2 x3 (!t299) x267000 x267001 x267002)))) else (none))) else (none))) else (handshakerlaw18_SemaOthers.j2 k x2 x3 false x267000 x267001 x267002))
def handshakerlaw18_SemaOthers.j2 : Nat → Int → Int → Bool → Int → Int → List (S50) → Option (Bool)
 | 0, _, _, _, _, _, _ => none
 | k + 1, x2, x3, x73, x267000, x267001, x267002 => if x73 = true then (none) else ((sema_Give.f k x267000 x267001 x267002 (wrap64 ((wrap64 (1 + (wrap64 (Int.tmod x2 50)))) + (wrap64 (1 + (wrap64 (Int.tmod x3 50))))))).bind fun bt300 => ((sema_Give.f k x267000 x267001 x267002 (wrap64 (1 + (wrap64 (Int.tmod x2 50))))).bind fun bt310 => ((sema_Give.f k bt310.1 bt310.2.1 bt310.2.2.1 (wrap64 (1 + (wrap64 (Int.tmod x3 50))))).bind fun bt320 => (if bt300.2.2.2.2 = 0 then (if bt310.2.2.2.2 = 0 then (if bt320.2.2.2.2 = 0 then ((handshakerlaw18_Ref.f k bt300.1 bt300.2.1 bt300.2.2.1).bind fun bt331 => ((handshakerlaw18_Ref.f k bt320.1 bt320.2.1 bt320.2.2.1).bind fun bt336 => ((handshakerref18_Same.f k bt331.1 bt331.2.1 bt331.2.2 bt336.1 bt336.2.1 bt336.2.2).bind fun t341 => (if t341 = true then ((handshakerlaw18_Refs.f k bt300.2.2.2.1).bind fun t342 => ((some (([] : List (S50)) : List (S50))).bind fun y345 => (if y345.length + bt310.2.2.2.1.length < 8796093022208 then ((some (y345 ++ bt310.2.2.2.1 : List (S50))).bind fun y348 => (if y348.length + bt320.2.2.2.1.length < 8796093022208 then ((handshakerlaw18_Refs.f k (y348 ++ bt320.2.2.2.1)).bind fun t354 => ((handshakerref18_List.f k t342 t354).bind fun t357 => (if t357 = true then ((handshakerlaw18_awake.f k).bind fun t358 => (some t358)) else (none)))) else (none))) else (none)))) else (none))))) else (none)) else (none)) else ((handshakerlaw18_awake.f k).bind fun t330 => (some t330))))))
end
def handshakerlaw18_SemaOthers.f (k : Nat) (a0_0 : Int) (a0_1 : Int) (l0_2 : List (S50)) (a1 : Int) (a2 : Int) (a3 : Int) : Option (Bool) := if (l0_2.length : Int) > 30 then (handshakerlaw18_SemaOthers.j0 k a1 a2 a3 true a0_0 a0_1 l0_2) else ((sema_Right.f k a0_0 a0_1 l0_2).bind fun t267 => (handshakerlaw18_SemaOthers.j0 k a1 a2 a3 (!t267) a0_0 a0_1 l0_2))
theorem handshakerlaw18_SemaOthers.mono_l : ∀ k, (∀ y0 y1 y2 y3 y4 y5 y6, LeO (handshakerlaw18_SemaOthers.j0 k y0 y1 y2 y3 y4 y5 y6) (handshakerlaw18_SemaOthers.j0 (k + 1) y0 y1 y2 y3 y4 y5 y6)) ∧ (∀ y0 y1 y2 y3 y4 y5 y6 y7 y8 y9 y10 y11 y12 y13 y14, LeO (handshakerlaw18_SemaOthers.l0 k y0 y1 y2 y3 y4 y5 y6 y7 y8 y9 y10 y11 y12 y13 y14) (handshakerlaw18_SemaOthers.l0 (k + 1) y0 y1 y2 y3 y4 y5 y6 y7 y8 y9 y10 y11 y12 y13 y14)) ∧ (∀ y0 y1 y2 y3 y4 y5, LeO (handshakerlaw18_SemaOthers.j2 k y0 y1 y2 y3 y4 y5) (handshakerlaw18_SemaOthers.j2 (k + 1) y0 y1 y2 y3 y4 y5))
 | 0 => ⟨fun _ _ _ _ _ _ _ r h => by simp [handshakerlaw18_SemaOthers.j0] at h, fun _ _ _ _ _ _ _ _ _ _ _ _ _ _ _ r h => by simp [handshakerlaw18_SemaOthers.l0] at h, fun _ _ _ _ _ _ r h => by simp [handshakerlaw18_SemaOthers.j2] at h⟩
 | k + 1 => by
  obtain ⟨ih0, ih1, ih2⟩ := handshakerlaw18_SemaOthers.mono_l k
  refine ⟨?_, ?_, ?_⟩
  ·intro y0 y1 y2 y3 y4 y5 y6
   unfold handshakerlaw18_SemaOthers.j0
   repeat' first
   | (with_reducible exact ih0 _ _ _ _ _ _ _)
   | (with_reducible exact ih1 _ _ _ _ _ _ _ _ _ _ _ _ _ _ _)
   | (with_reducible exact ih2 _ _ _ _ _ _)
   | (with_reducible exact handshakerlaw18_Ref.mono _ _ _ _)
   | (with_reducible exact handshakerlaw18_Refs.mono _ _)
   | (with_reducible exact handshakerlaw18_awake.mono _)
   | (with_reducible exact handshakerref18_List.mono _ _ _)
   | (with_reducible exact handshakerref18_Same.mono _ _ _ _ _ _ _)
   | (with_reducible exact sema_Give.mono _ _ _ _ _)
   | (with_reducible exact sema_Leave.mono _ _ _ _ _)
   | (with_reducible exact sema_Right.mono _ _ _ _)
   | (with_reducible exact LeO.refl _)
   | (with_reducible exact LeO.none _)
   | (with_reducible refine LeO.ite ?_ ?_)
   | (with_reducible refine LeO.bind ?_ (fun _ => ?_))
   | exact ih0 _ _ _ _ _ _ _
   | exact ih1 _ _ _ _ _ _ _ _ _ _ _ _ _ _ _
   | exact ih2 _ _ _ _ _ _
   | exact handshakerlaw18_Ref.mono _ _ _ _
   | exact handshakerlaw18_Refs.mono _ _
   | exact handshakerlaw18_awake.mono _
   | exact handshakerref18_List.mono _ _ _
   | exact handshakerref18_Same.mono _ _ _ _ _ _ _
   | exact sema_Give.mono _ _ _ _ _
   | exact sema_Leave.mono _ _ _ _ _
   | exact sema_Right.mono _ _ _ _
   | exact LeO.none _
   | refine LeO.ite ?_ ?_
   | refine LeO.bind ?_ (fun _ => ?_)
  ·intro y0 y1 y2 y3 y4 y5 y6 y7 y8 y9 y10 y11 y12 y13 y14
   unfold handshakerlaw18_SemaOthers.l0
   repeat' first
   | (with_reducible exact ih0 _ _ _ _ _ _ _)
   | (with_reducible exact ih1 _ _ _ _ _ _ _ _ _ _ _ _ _ _ _)
   | (with_reducible exact ih2 _ _ _ _ _ _)
   | (with_reducible exact handshakerlaw18_Ref.mono _ _ _ _)
   | (with_reducible exact handshakerlaw18_Refs.mono _ _)
   | (with_reducible exact handshakerlaw18_awake.mono _)
   | (with_reducible exact handshakerref18_List.mono _ _ _)
   | (with_reducible exact handshakerref18_Same.mono _ _ _ _ _ _ _)
   | (with_reducible exact sema_Give.mono _ _ _ _ _)
   | (with_reducible exact sema_Leave.mono _ _ _ _ _)
   | (with_reducible exact sema_Right.mono _ _ _ _)
   | (with_reducible exact LeO.refl _)
   | (with_reducible exact LeO.none _)
   | (with_reducible refine LeO.ite ?_ ?_)
   | (with_reducible refine LeO.bind ?_ (fun _ => ?_))
   | exact ih0 _ _ _ _ _ _ _
   | exact ih1 _ _ _ _ _ _ _ _ _ _ _ _ _ _ _
   | exact ih2 _ _ _ _ _ _
   | exact handshakerlaw18_Ref.mono _ _ _ _
   | exact handshakerlaw18_Refs.mono _ _
   | exact handshakerlaw18_awake.mono _
   | exact handshakerref18_List.mono _ _ _
   | exact handshakerref18_Same.mono _ _ _ _ _ _ _
   | exact sema_Give.mono _ _ _ _ _
   | exact sema_Leave.mono _ _ _ _ _
   | exact sema_Right.mono _ _ _ _
   | exact LeO.none _
   | refine LeO.ite ?_ ?_
   | refine LeO.bind ?_ (fun _ => ?_)
  ·intro y0 y1 y2 y3 y4 y5
   unfold handshakerlaw18_SemaOthers.j2
   repeat' first
   | (with_reducible exact ih0 _ _ _ _ _ _ _)
   | (with_reducible exact ih1 _ _ _ _ _ _ _ _ _ _ _ _ _ _ _)
   | (with_reducible exact ih2 _ _ _ _ _ _)
   | (with_reducible exact handshakerlaw18_Ref.mono _ _ _ _)
   | (with_reducible exact handshakerlaw18_Refs.mono _ _)
   | (with_reducible exact handshakerlaw18_awake.mono _)
   | (with_reducible exact handshakerref18_List.mono _ _ _)
   | (with_reducible exact handshakerref18_Same.mono _ _ _ _ _ _ _)
   | (with_reducible exact sema_Give.mono _ _ _ _ _)
   | (with_reducible exact sema_Leave.mono _ _ _ _ _)
   | (with_reducible exact sema_Right.mono _ _ _ _)
   | (with_reducible exact LeO.refl _)
   | (with_reducible exact LeO.none _)
   | (with_reducible refine LeO.ite ?_ ?_)
   | (with_reducible refine LeO.bind ?_ (fun _ => ?_))
   | exact ih0 _ _ _ _ _ _ _
   | exact ih1 _ _ _ _ _ _ _ _ _ _ _ _ _ _ _
   | exact ih2 _ _ _ _ _ _
   | exact handshakerlaw18_Ref.mono _ _ _ _
   | exact handshakerlaw18_Refs.mono _ _
   | exact handshakerlaw18_awake.mono _
   | exact handshakerref18_List.mono _ _ _
   | exact handshakerref18_Same.mono _ _ _ _ _ _ _
   | exact sema_Give.mono _ _ _ _ _
   | exact sema_Leave.mono _ _ _ _ _
   | exact sema_Right.mono _ _ _ _
   | exact LeO.none _
   | refine LeO.ite ?_ ?_
   | refine LeO.bind ?_ (fun _ => ?_)
theorem handshakerlaw18_SemaOthers.mono : ∀ a0 a1 a2 a3 a4 a5 k, LeO (handshakerlaw18_SemaOthers.f k a0 a1 a2 a3 a4 a5) (handshakerlaw18_SemaOthers.f (k + 1) a0 a1 a2 a3 a4 a5) := by
 intro a0 a1 a2 a3 a4 a5 k
 obtain ⟨ih0, ih1, ih2⟩ := handshakerlaw18_SemaOthers.mono_l k
 unfold handshakerlaw18_SemaOthers.f
 repeat' first
   | (with_reducible exact ih0 _ _ _ _ _ _ _)
   | (with_reducible exact ih1 _ _ _ _ _ _ _ _ _ _ _ _ _ _ _)
   | (with_reducible exact ih2 _ _ _ _ _ _)
   | (with_reducible exact handshakerlaw18_Ref.mono _ _ _ _)
   | (with_reducible exact handshakerlaw18_Refs.mono _ _)
   | (with_reducible exact handshakerlaw18_awake.mono _)
   | (with_reducible exact handshakerref18_List.mono _ _ _)
   | (with_reducible exact handshakerref18_Same.mono _ _ _ _ _ _ _)
   | (with_reducible exact sema_Give.mono _ _ _ _ _)
   | (with_reducible exact sema_Leave.mono _ _ _ _ _)
   | (with_reducible exact sema_Right.mono _ _ _ _)
   | (with_reducible exact LeO.refl _)
   | (with_reducible exact LeO.none _)
   | (with_reducible refine LeO.ite ?_ ?_)
   | (with_reducible refine LeO.bind ?_ (fun _ => ?_))
   | exact ih0 _ _ _ _ _ _ _
   | exact ih1 _ _ _ _ _ _ _ _ _ _ _ _ _ _ _
   | exact ih2 _ _ _ _ _ _
   | exact handshakerlaw18_Ref.mono _ _ _ _
   | exact handshakerlaw18_Refs.mono _ _
   | exact handshakerlaw18_awake.mono _
   | exact handshakerref18_List.mono _ _ _
   | exact handshakerref18_Same.mono _ _ _ _ _ _ _
   | exact sema_Give.mono _ _ _ _ _
   | exact sema_Leave.mono _ _ _ _ _
   | exact sema_Right.mono _ _ _ _
   | exact LeO.none _
   | refine LeO.ite ?_ ?_
   | refine LeO.bind ?_ (fun _ => ?_)
def handshakerlaw18_SemaOthers.T11 : Bool × List (List Nat × List Nat) := (true, [([], []), ([0], [0]), ([1], [1]), ([2], [2]), ([2], [2]), ([3, 4, 2, 2], [2, 3, 4]), ([2], [2]), ([6, 2], [2, 6]), ([5, 7, 5, 2], [2, 5, 7]), ([8, 8, 2], [2, 8]), ([2], [2]), ([10, 9, 2], [2, 10]), ([9, 11, 11, 2], [2, 9, 11]), ([12, 2], [2, 12]), ([2, 13], [2, 13])])
def handshakerlaw18_SemaOthers.B11 : List Nat := [0, 1, 3, 7, 7, 31, 7, 71, 255, 511, 7, 2047, 4095, 8191, 16383]
theorem handshakerlaw18_SemaOthers.tab11 : rtab .any (opsOf Try.f8 11) = handshakerlaw18_SemaOthers.T11 := by kernel_rfl
theorem handshakerlaw18_SemaOthers.bits11 : waitsOk handshakerlaw18_SemaOthers.T11.2 handshakerlaw18_SemaOthers.B11 = true := by kernel_rfl
def handshakerlaw18_SemaOthers.T19 : Bool × List (List Nat × List Nat) := (true, [([], []), ([0], [0]), ([1], [1]), ([2], [2]), ([3, 2], [2, 3]), ([2, 4], [2, 4]), ([5, 2], [5]), ([6], [6]), ([7, 6, 6], [6, 7]), ([6], [6]), ([9, 8, 6], [6, 9]), ([8, 10, 10, 6], [6, 8, 10]), ([6, 11], [6, 11]), ([12, 11], [12]), ([13], [13]), ([14, 13, 13], [13, 14]), ([13], [13]), ([13], [13]), ([16, 17, 15, 13], [13, 16, 17]), ([13], [13]), ([18, 19, 18, 13], [13, 18, 19]), ([20, 20, 13], [13, 20]), ([15, 21, 21, 13], [13, 15, 21]), ([13, 22], [13, 22]), ([23, 22], [23]), ([24, 24], [24]), ([24, 25], [24, 25]), ([26, 25, 0, 1, 2, 3, 4, 5, 6, 7, 8, 9, 10, 11, 12, 13, 14, 15, 16, 17, 18, 19, 20, 21, 22, 23, 24, 25, 26], [26])])
def handshakerlaw18_SemaOthers.B19 : List Nat := [0, 1, 3, 7, 15, 31, 63, 127, 255, 127, 1023, 2047, 4095, 8191, 16383, 32767, 16383, 16383, 262143, 16383, 1048575, 2097151, 4194303, 8388607, 16777215, 33554431, 67108863, 134217727]
theorem handshakerlaw18_SemaOthers.tab19 : rtab .any (opsOf Try.f8 19) = handshakerlaw18_SemaOthers.T19 := by kernel_rfl
theorem handshakerlaw18_SemaOthers.bits19 : waitsOk handshakerlaw18_SemaOthers.T19.2 handshakerlaw18_SemaOthers.B19 = true := by kernel_rfl
set_option maxHeartbeats 8000000 in
set_option maxRecDepth 100000 in
theorem handshakerlaw18_SemaOthers.calls (k : Nat) (a0_0 : Int) (a0_1 : Int) (A0_2 : Option Addr) (c0_2 : Nat) (l0_2 : List (S50)) (a1 : Int) (a2 : Int) (a3 : Int) (r : Bool) (w : World) (hr0_2 : Kd.C k50 w A0_2 l0_2.length l0_2) (hc0_2 : l0_2.length ≤ c0_2) (h : handshakerlaw18_SemaOthers.f k a0_0 a0_1 l0_2 a1 a2 a3 = some r) :
  Calls Try.prog 8 #[.agg #[.int .i64 a0_0, .int .i64 a0_1, .slice A0_2 l0_2.length c0_2], .int .i64 a1, .int .u8 a2, .int .u8 a3] w fun e w' => e = .returned (.bool r) ∧ Below w.heap.size w w' := by
 have hu24 := Try.underlying24
 have hu50 := Try.underlying50
 have HR0_2 := Aside0.mk hr0_2
 have HC0_2 := Aside0.mk hc0_2
 clear hr0_2 hc0_2
 have HB := Aside0.mk (Below.refl w.heap.size w)
 have H : (if (l0_2.length : Int) > 30 then (handshakerlaw18_SemaOthers.j0 k a1 a2 a3 true a0_0 a0_1 l0_2) else ((sema_Right.f k a0_0 a0_1 l0_2).bind fun t267 => (handshakerlaw18_SemaOthers.j0 k a1 a2 a3 (!t267) a0_0 a0_1 l0_2))) = some r := h
 clear h
 have HC5 := Aside0.mk H
 clear H
 go_enter Try.func8, Try.ntmps8
 go_upto_region 1 with (first | ((with_reducible refine gate_dst (N := 4) rfl ?_); (try (refine gate_guard (by rfl) ?_; dsimp only)); refine box_event ?hg (N := 4) ?hd (cs := #[.int .i64 a0_0, .int .i64 a0_1, .slice A0_2 l0_2.length c0_2]) (t := 24) ?hr ?_; (case hd => rfl); (case hg => rfl); (case hr => first | (go_simp; done) | (go_simp; rfl)); intro gb266 hg w6 hbox hb; have n0_ := Aside0.mk (below_step (zc0 HB) hb); have n1_ := Aside0.mk (hbox); have n2_ := Aside0.mk ((by rw [hg]; exact (below_size (zc0 HB)) : w.heap.size ≤ gb266)); have n3_ := Aside0.mk ((by rw [hg]; exact (below_size (zc0 HB)) : w.heap.size ≤ gb266)); clear HB; have HB := n0_; have BK266 := n1_; have GW266 := n2_; have GE266 := n3_; clear n0_ n1_ n2_ n3_; clear hb hbox hg))
 (try simp only [Act.put, List.setIfInBounds_toArray, List.set_cons_zero, List.set_cons_succ])
 go_cut [34] (fun v34 wc => ∃ (kq : Nat) (x34_4 : Bool), v34 = .bool x34_4 ∧ Aside0 (handshakerlaw18_SemaOthers.j0 kq a1 a2 a3 x34_4 a0_0 a0_1 l0_2 = some r) ∧ Aside0 (kq ≤ k) ∧ Aside0 (wc.heap[gb266]? = some (.cells #[.int .i64 a0_0, .int .i64 a0_1, (.slice A0_2 l0_2.length c0_2)] 24 (0, 0))) ∧ Aside0 (Below w.heap.size w wc))
 case first =>
  have H := HC5.out
  clear HC5
  by_cases c7 : (l0_2.length : Int) > 30
  ·rw [if_pos c7] at H
   have c7b0 : decide (30 < (l0_2.length : Int)) = true := decide_eq_true c7
   have c7b1 : decide (30 < l0_2.length) = true := decide_eq_true (by omega)
   clear c7
   (first | rw [c7b0] | (simp only [i64_w, i32_w]; rw [c7b0]) | skip)
   have H' := Aside0.mk H
   clear H
   have hcz8_0 : w6.cell? ⟨gb266, 0, none⟩ = some (.int .i64 a0_0) := (blk_cell BK266.out 0).trans rfl
   have hcz8_1 : w6.cell? ⟨gb266, 1, none⟩ = some (.int .i64 a0_1) := (blk_cell BK266.out 1).trans rfl
   have hcz8_2 : w6.cell? ⟨gb266, 2, none⟩ = some (.slice A0_2 l0_2.length c0_2) := (blk_cell BK266.out 2).trans rfl
   have hfz8_0 := blk_frozen BK266.out 0
   have hfz8_1 := blk_frozen BK266.out 1
   have hfz8_2 := blk_frozen BK266.out 2
   go_wp2
   go_meet
   case rel => exact ⟨_, (true), (by first | rfl | (simp; done) | (simp [*]; done)), H', ⟨by first | omega | exact Nat.le_refl _⟩, ⟨by (with_reducible repeat (first | refine blk_drewN ?_ _ | refine blk_drew ?_ | refine blk_alloc ?_ _)); exact BK266.out⟩, ⟨by repeat (first | (with_reducible first | exact HB.out | apply below_alloc | apply pw_below_drewN | apply below_drew1 | refine below_set ?_ GE266.out) | exact HB.out)⟩⟩
  ·rw [if_neg c7] at H
   have c7b0 : decide (30 < (l0_2.length : Int)) = false := decide_eq_false c7
   have c7b1 : decide (30 < l0_2.length) = false := decide_eq_false (by omega)
   clear c7
   (first | rw [c7b0] | (simp only [i64_w, i32_w]; rw [c7b0]) | skip)
   replace H := Option.bind_eq_some_iff.mp H
   obtain ⟨t267, A90, H⟩ := H
   replace H : (handshakerlaw18_SemaOthers.j0 k a1 a2 a3 (!t267) a0_0 a0_1 l0_2) = some r := H
   have A9 := Aside0.mk A90
   clear A90
   have H' := Aside0.mk H
   clear H
   have hcz10_0 : w6.cell? ⟨gb266, 0, none⟩ = some (.int .i64 a0_0) := (blk_cell BK266.out 0).trans rfl
   have hcz10_1 : w6.cell? ⟨gb266, 1, none⟩ = some (.int .i64 a0_1) := (blk_cell BK266.out 1).trans rfl
   have hcz10_2 : w6.cell? ⟨gb266, 2, none⟩ = some (.slice A0_2 l0_2.length c0_2) := (blk_cell BK266.out 2).trans rfl
   have hfz10_0 := blk_frozen BK266.out 0
   have hfz10_1 := blk_frozen BK266.out 1
   have hfz10_2 := blk_frozen BK266.out 2
   go_wp2_with (first | (go_at_call 19; (with_reducible refine (sema_Right.calls k a0_0 a0_1 _ _ l0_2 t267 _ ?side1 ?side2 A9.out).mono ?_); (case side1 => repeat (first | exact (Kd.C_below HR0_2.out HB.out) | (with_reducible refine Kd.C_alloc ?_ _) | (with_reducible refine Kd.C_drewN ?_ _) | (with_reducible refine Kd.C_drew ?_))); (case side2 => exact HC0_2.out); rintro e w11 ⟨rfl, hb⟩; have n0_ := Aside0.mk (blk_below (g := gb266) (o := .cells #[.int .i64 a0_0, .int .i64 a0_1, .slice A0_2 l0_2.length c0_2] 24 (0, 0)) (zb BK266) hb); have n1_ := Aside0.mk (below_step (zc1 HB GE266) hb); clear BK266; clear HB; have BK266 := n0_; have HB := n1_; clear n0_ n1_; (try clear hb); (try clear hb2); (try clear hk); (try clear hi)))
   go_meet
   case rel => exact ⟨_, (!t267), (by first | rfl | (simp; done) | (simp [*]; done)), H', ⟨by first | omega | exact Nat.le_refl _⟩, ⟨by (with_reducible repeat (first | refine blk_drewN ?_ _ | refine blk_drew ?_ | refine blk_alloc ?_ _)); exact BK266.out⟩, ⟨by repeat (first | (with_reducible first | exact HB.out | apply below_alloc | apply pw_below_drewN | apply below_drew1 | refine below_set ?_ GE266.out) | exact HB.out)⟩⟩
 case rest =>
  clear HC5
  try clear p2
  try clear c7
  try clear c7b0
  try clear c7b1
  try clear c8
  try clear hcz10_0
  try clear hcz10_1
  try clear hcz10_2
  try clear hcz8_0
  try clear hcz8_1
  try clear hcz8_2
  try clear hfz10_0
  try clear hfz10_1
  try clear hfz10_2
  try clear hfz8_0
  try clear hfz8_1
  try clear hfz8_2
  obtain ⟨kq, x34_4, rfl, HA, HJ4, BK266, HB⟩ := hcut
  cases kq with
  | zero => exact absurd HA.out (by simp [handshakerlaw18_SemaOthers.j0])
  | succ kj4 =>
   have H := HA.out
   clear HA
   simp only [handshakerlaw18_SemaOthers.j0] at H
   by_cases c12 : x34_4 = true
   ·subst c12
    have H1 : ((handshakerlaw18_awake.f kj4).bind fun t268 => (some t268)) = some r := by rw [if_pos rfl] at H; exact H
    clear H
    have H := H1
    clear H1
    replace H := Option.bind_eq_some_iff.mp H
    obtain ⟨t268, A130, H⟩ := H
    replace H : (some t268) = some r := H
    have A13 := Aside0.mk A130
    clear A130
    obtain rfl := Option.some.inj H
    go_wp2_with (first | ((with_reducible refine gate_callee (f := 9) rfl ?_); refine goesL_ (some 35) rfl rfl Try.func9 (by kernel_rfl) rfl #[] rfl zm ?_; (with_reducible refine (handshakerlaw18_awake.calls kj4  t268 _ A13.out).mono ?_); rintro e w14 ⟨rfl, hb⟩; refine ⟨_, rfl, ?_⟩; have n0_ := Aside0.mk (blk_below (g := gb266) (o := .cells #[.int .i64 a0_0, .int .i64 a0_1, .slice A0_2 l0_2.length c0_2] 24 (0, 0)) (zb BK266) hb); have n1_ := Aside0.mk (below_step (zc1 HB GE266) hb); clear BK266; clear HB; have BK266 := n0_; have HB := n1_; clear n0_ n1_; (try clear hb); (try clear hb2); (try clear hk); (try clear hi)))
    go_ret
    exact ⟨by first | rfl | (simp [errW_none, errW_some] <;> rfl) | (simp [*, errW_none, errW_some] <;> rfl), by repeat (first | (with_reducible first | exact HB.out | apply below_alloc | apply pw_below_drewN | apply below_drew1 | refine below_set ?_ GE266.out) | exact HB.out)⟩
   ·replace c12 := Bool.eq_false_iff.mpr c12
    subst c12
    have H1 : ((sema_Leave.f kj4 a0_0 a0_1 l0_2 a1).bind fun bt269 => (handshakerlaw18_SemaOthers.l0 kj4 a1 a2 a3 bt269.2.2.2.1 bt269.2.2.2.2 ([] : List (S50)) l0_2 (l0_2.length : Int) 0 a0_0 a0_1 l0_2 bt269.1 bt269.2.1 bt269.2.2.1)) = some r := by rw [if_neg (show ¬ (false = true) by decide)] at H; exact H
    clear H
    have H := H1
    clear H1
    replace H := Option.bind_eq_some_iff.mp H
    obtain ⟨⟨t269, t270, t271, t274, t277⟩, A150, H⟩ := H
    replace H : (handshakerlaw18_SemaOthers.l0 kj4 a1 a2 a3 t274 t277 ([] : List (S50)) l0_2 (l0_2.length : Int) 0 a0_0 a0_1 l0_2 t269 t270 t271) = some r := H
    have A15 := Aside0.mk A150
    clear A150
    have H' := Aside0.mk H
    clear H
    have hcz16_0 : wc.cell? ⟨gb266, 0, none⟩ = some (.int .i64 a0_0) := (blk_cell BK266.out 0).trans rfl
    have hcz16_1 : wc.cell? ⟨gb266, 1, none⟩ = some (.int .i64 a0_1) := (blk_cell BK266.out 1).trans rfl
    have hcz16_2 : wc.cell? ⟨gb266, 2, none⟩ = some (.slice A0_2 l0_2.length c0_2) := (blk_cell BK266.out 2).trans rfl
    have hfz16_0 := blk_frozen BK266.out 0
    have hfz16_1 := blk_frozen BK266.out 1
    have hfz16_2 := blk_frozen BK266.out 2
    go_wp2_with (first | ((with_reducible refine gate_callee (f := 15) rfl ?_); refine goesL_ (some 39) rfl rfl Try.func15 (by kernel_rfl) rfl #[.agg #[.int .i64 a0_0, .int .i64 a0_1, .slice A0_2 l0_2.length c0_2], .int .i64 a1] rfl zm ?_; (with_reducible refine (sema_Leave.calls kj4 a0_0 a0_1 (fun k_ => k_ < w.heap.size) _ _ l0_2 a1 t269 t270 t271 t274 t277 _ ?side1 A15.out).mono ?_); (case side1 => exact Kd.V_mk HC0_2.out (Kd.F_below (Kd.C_F k50_heap HR0_2.out) (zc1 HB GE266))); rintro e w17 ⟨v272, v275, rfl, ho0, ho1, hb⟩; refine ⟨_, rfl, ?_⟩; have n0_ := Aside0.mk (Kd.V_lower (Kd.V_mono (ok' := fun k_ => some k_ ≠ (v275 : Value).ownBlock ∧ k_ ≠ gb266) ho0 (fun k_ hk_ => ⟨hk_.2, Or.elim hk_.1 (fun hs_ => fun e_ => Nat.not_le.2 hs_ (by rw [e_]; exact GW266.out)) (fun hn_ => (Kd.freshB (g := gb266) (o := .cells #[.int .i64 a0_0, .int .i64 a0_1, .slice A0_2 l0_2.length c0_2] 24 (0, 0)) (zb BK266) k_ hn_))⟩)) (below_size (zc1 HB GE266))); have n1_ := Aside0.mk (Kd.R_lower (Kd.R_mono (ok' := fun k_ => True) ho1 (fun _ hk_ => trivial)) (below_size (zc1 HB GE266))); have n2_ := Aside0.mk (blk_below (g := gb266) (o := .cells #[.int .i64 a0_0, .int .i64 a0_1, .slice A0_2 l0_2.length c0_2] 24 (0, 0)) (zb BK266) hb); have n3_ := Aside0.mk (below_step (zc1 HB GE266) hb); clear BK266; clear HB; have HO273 := n0_; have HO276 := n1_; have BK266 := n2_; have HB := n3_; clear n0_ n1_ n2_ n3_; (try clear hb); (try clear hb2); (try clear hk); (try clear hi); (try clear ho0); (try clear ho1)) | ((with_reducible refine gate_dst (N := 9) rfl ?_); (try (refine gate_guard (by rfl) ?_; dsimp only)); refine box_event ?hg (N := 9) ?hd (cs := #[.int .i64 0, .int .i64 0, .slice none 0 0]) (t := 24) ?hr ?_; (case hd => rfl); (case hg => rfl); (case hr => first | (go_simp; done) | (go_simp; rfl)); intro gb278 hg w18 hbox hb; have n0_ := Aside0.mk (Kd.V_below (Kd.V_elderB (zV HO273) gb278 (Nat.le_of_eq hg.symm)) hb); have n1_ := Aside0.mk (Kd.R_below (zR HO276) hb); have n2_ := Aside0.mk (blk_below (g := gb266) (o := .cells #[.int .i64 a0_0, .int .i64 a0_1, .slice A0_2 l0_2.length c0_2] 24 (0, 0)) (zb BK266) hb); have n3_ := Aside0.mk (below_step (zc1 HB GE266) hb); have n4_ := Aside0.mk (hbox); have n5_ := Aside0.mk ((by rw [hg]; exact (below_size (zc1 HB GE266)) : w.heap.size ≤ gb278)); have n6_ := Aside0.mk ((by rw [hg]; exact (below_size (zc1 HB GE266)) : w.heap.size ≤ gb278)); have n7_ := Aside0.mk ((by rw [hg]; exact Nat.ne_of_lt (blk_lt (g := gb266) (o := .cells #[.int .i64 a0_0, .int .i64 a0_1, .slice A0_2 l0_2.length c0_2] 24 (0, 0)) (zb BK266)) : gb266 ≠ gb278)); have n8_ := Aside0.mk ((by rw [hg]; exact Nat.ne_of_gt (blk_lt (g := gb266) (o := .cells #[.int .i64 a0_0, .int .i64 a0_1, .slice A0_2 l0_2.length c0_2] 24 (0, 0)) (zb BK266)) : gb278 ≠ gb266)); clear HO273; clear HO276; clear BK266; clear HB; have HO273 := n0_; have HO276 := n1_; have BK266 := n2_; have HB := n3_; have BK278 := n4_; have GW278 := n5_; have GE278 := n6_; have NB266_278 := n7_; have NB278_266 := n8_; clear n0_ n1_ n2_ n3_ n4_ n5_ n6_ n7_ n8_; clear hb hbox hg; have hnb19 := NB278_266.out; have hnc19 := NB266_278.out; have hcz20_0 : w18.cell? ⟨gb278, 0, none⟩ = some (.int .i64 0) := (blk_cell BK278.out 0).trans rfl; have hcz20_1 : w18.cell? ⟨gb278, 1, none⟩ = some (.int .i64 0) := (blk_cell BK278.out 1).trans rfl; have hcz20_2 : w18.cell? ⟨gb278, 2, none⟩ = some (.slice none 0 0) := (blk_cell BK278.out 2).trans rfl; have hfz20_0 := blk_frozen BK278.out 0; have hfz20_1 := blk_frozen BK278.out 1; have hfz20_2 := blk_frozen BK278.out 2; obtain ⟨Ao21, co21, eo21⟩ := Kd.V_slice HO273.out; subst eo21; have hcz22_0 : w18.cell? ⟨gb266, 0, none⟩ = some (.int .i64 a0_0) := (blk_cell BK266.out 0).trans rfl; have hcz22_1 : w18.cell? ⟨gb266, 1, none⟩ = some (.int .i64 a0_1) := (blk_cell BK266.out 1).trans rfl; have hcz22_2 : w18.cell? ⟨gb266, 2, none⟩ = some (.slice A0_2 l0_2.length c0_2) := (blk_cell BK266.out 2).trans rfl; have hfz22_0 := blk_frozen BK266.out 0; have hfz22_1 := blk_frozen BK266.out 1; have hfz22_2 := blk_frozen BK266.out 2))
    go_loopg [12, 46] kj4 (fun kq v12 v46 w' => ∃ (x12_2 : List (S50)) (x46_2 : Int), v46 = .int .i64 x46_2 ∧ Aside0 (handshakerlaw18_SemaOthers.l0 kq a1 a2 a3 t274 t277 x12_2 l0_2 (l0_2.length : Int) x46_2 a0_0 a0_1 l0_2 t269 t270 t271 = some r) ∧ Aside0 (kq ≤ kj4) ∧ Aside0 (Kd.R k50 50 w' w.heap.size (fun k_ => some k_ ≠ (v12 : Value).ownBlock) v275 t274) ∧ Aside0 (Kd.R k50 50 w' w.heap.size (fun k_ => some k_ ≠ (v275 : Value).ownBlock) v12 x12_2) ∧ Aside0 (Kd.V k50 50 w' w.heap.size (fun k_ => some k_ ≠ (v275 : Value).ownBlock ∧ some k_ ≠ (v12 : Value).ownBlock ∧ k_ ≠ gb266 ∧ k_ ≠ gb278) (.slice Ao21 t271.length co21) t271) ∧ Aside0 (w'.heap[gb266]? = some (.cells #[.int .i64 a0_0, .int .i64 a0_1, (.slice A0_2 l0_2.length c0_2)] 24 (0, 0))) ∧ Aside0 (w'.heap[gb278]? = some (.cells #[.int .i64 t269, .int .i64 t270, (.slice Ao21 t271.length co21)] 24 (0, 0))) ∧ Aside0 (Below w.heap.size w w'))
    case atStart => exact ⟨(([] : List (S50))), (0), (by first | rfl | (simp; done) | (simp [*]; done)), H', ⟨Nat.le_refl _⟩, ⟨by (with_reducible repeat (first | apply Kd.R_alloc | apply Kd.R_drewN | apply Kd.R_drew)); exact Kd.R_mono (Kd.R_far (p := ⟨gb278, 2, none⟩) (Kd.R_far (p := ⟨gb278, 1, none⟩) (Kd.R_far (p := ⟨gb278, 0, none⟩) (Kd.R_types HO276.out BK278.out (by decide)) (fun _ hk => hk.2) (.int .i64 t269)) (fun _ hk => hk.2) (.int .i64 t270)) (fun _ hk => hk.2) (.slice Ao21 t271.length co21)) (fun _ hk => (by simp [Value.ownBlock]))⟩, ⟨by first | exact Kd.R_nil _ _ _ _ _ | exact Kd.N_nil _ _ _ _ _ | exact Kd.V_nil _ _ _ _ _ | exact Kd.Q_nil _ _ _ _ _ | exact Kd.S_nil _ _ _ _ _⟩, ⟨by (with_reducible repeat (first | apply Kd.V_alloc | apply Kd.V_drewN | apply Kd.V_drew)); exact Kd.V_mono (Kd.V_far (p := ⟨gb278, 2, none⟩) (Kd.V_far (p := ⟨gb278, 1, none⟩) (Kd.V_far (p := ⟨gb278, 0, none⟩) (Kd.V_mono HO273.out (fun k_ hk => (⟨hk, hk.2⟩ : _ ∧ k_ ≠ gb278))) (fun _ hk => hk.2) (.int .i64 t269)) (fun _ hk => hk.2) (.int .i64 t270)) (fun _ hk => hk.2) (.slice Ao21 t271.length co21)) (fun _ hk => ⟨hk.1.1.1, ⟨(by simp [Value.ownBlock]), ⟨hk.1.1.2, hk.1.2⟩⟩⟩)⟩, ⟨by (with_reducible repeat (first | refine blk_drewN ?_ _ | refine blk_drew ?_ | refine blk_alloc ?_ _)); refine blk_far ?_ NB266_278.out _; (with_reducible repeat (first | refine blk_drewN ?_ _ | refine blk_drew ?_ | refine blk_alloc ?_ _)); refine blk_far ?_ NB266_278.out _; (with_reducible repeat (first | refine blk_drewN ?_ _ | refine blk_drew ?_ | refine blk_alloc ?_ _)); refine blk_far ?_ NB266_278.out _; (with_reducible repeat (first | refine blk_drewN ?_ _ | refine blk_drew ?_ | refine blk_alloc ?_ _)); exact BK266.out⟩, ⟨by (with_reducible repeat (first | refine blk_drewN ?_ _ | refine blk_drew ?_ | refine blk_alloc ?_ _)); refine blk_put (cs := #[.int .i64 t269, .int .i64 t270, .slice none 0 0]) ?_ 2 _ rfl; (with_reducible repeat (first | refine blk_drewN ?_ _ | refine blk_drew ?_ | refine blk_alloc ?_ _)); refine blk_put (cs := #[.int .i64 t269, .int .i64 0, .slice none 0 0]) ?_ 1 _ rfl; (with_reducible repeat (first | refine blk_drewN ?_ _ | refine blk_drew ?_ | refine blk_alloc ?_ _)); refine blk_put (cs := #[.int .i64 0, .int .i64 0, .slice none 0 0]) ?_ 0 _ rfl; (with_reducible repeat (first | refine blk_drewN ?_ _ | refine blk_drew ?_ | refine blk_alloc ?_ _)); exact BK278.out⟩, ⟨by repeat (first | (with_reducible first | exact HB.out | apply below_alloc | apply pw_below_drewN | apply below_drew1 | refine below_set ?_ GE266.out | refine below_set ?_ GE278.out) | exact HB.out)⟩⟩
    case round =>
     clear H'
     try clear c1
     try clear p2
     try clear c7
     try clear c7b0
     try clear c7b1
     try clear c8
     try clear c9
     try clear c12
     try clear c15
     try clear c19
     try clear hcz10_0
     try clear hcz10_1
     try clear hcz10_2
     try clear hcz16_0
     try clear hcz16_1
     try clear hcz16_2
     try clear hcz20_0
     try clear hcz20_1
     try clear hcz20_2
     try clear hcz22_0
     try clear hcz22_1
     try clear hcz22_2
     try clear hcz8_0
     try clear hcz8_1
     try clear hcz8_2
     try clear hfz10_0
     try clear hfz10_1
     try clear hfz10_2
     try clear hfz16_0
     try clear hfz16_1
     try clear hfz16_2
     try clear hfz20_0
     try clear hfz20_1
     try clear hfz20_2
     try clear hfz22_0
     try clear hfz22_1
     try clear hfz22_2
     try clear hfz8_0
     try clear hfz8_1
     try clear hfz8_2
     try clear p2
     obtain ⟨x12_2, x46_2, rfl, HA, HK2, HO_10, HO_12, HO_279002, BK266, BK278, HB⟩ := hrel
     cases gk with
     | zero => exact absurd HA.out (by simp [handshakerlaw18_SemaOthers.l0])
     | succ k2 =>
      have H := HA.out
      clear HA
      simp only [handshakerlaw18_SemaOthers.l0] at H
      by_cases c23 : x46_2 < (l0_2.length : Int)
      ·rw [if_pos c23] at H
       have c23b0 : decide (x46_2 < (l0_2.length : Int)) = true := decide_eq_true c23
       clear c23
       by_cases c24 : 0 ≤ x46_2
       ·rw [if_pos c24] at H
        have c24b0 : decide (0 ≤ x46_2) = true := decide_eq_true c24
        clear c24
        by_cases c25 : x46_2 < (l0_2.length : Int)
        ·rw [if_pos c25] at H
         have c25b0 : decide (x46_2 < (l0_2.length : Int)) = true := decide_eq_true c25
         clear c25
         by_cases c26 : ((rd_T50 l0_2 x46_2).f0) = a1
         ·rw [if_pos c26] at H
          have c26b0 : (((rd_T50 l0_2 x46_2).f0) == a1) = true := beq_iff_eq.mpr c26
          have c26b1 : (((rd_T50 l0_2 x46_2).f0) != a1) = false := bne_eq_false_iff_eq.mpr c26
          clear c26
          have H' := Aside0.mk H
          clear H
          have p279 : 0 ≤ (x46_2 : Int) := of_decide_eq_true (by first | (with_reducible assumption) | assumption)
          have q279 : x46_2 < (l0_2.length : Int) := of_decide_eq_true (by first | (with_reducible assumption) | assumption)
          obtain ⟨ad279, e279, hx279_0, hx279_1⟩ := at_T50 HR0_2.out x46_2 p279 q279
          cases e279
          replace hx279_0 := (HB.out.cell (World.block_lt_of_cell? w _ hx279_0)).trans hx279_0
          replace hx279_1 := (HB.out.cell (World.block_lt_of_cell? w _ hx279_1)).trans hx279_1
          replace p279 := eq_true p279
          replace q279 := eq_true q279
          go_wp2_with (first | ((with_reducible refine gate_dst (N := 14) rfl ?_); (try (refine gate_guard (by rfl) ?_; dsimp only)); refine box_event ?hg (N := 14) ?hd (cs := #[.int .i64 0, .int .i64 0]) (t := 50) ?hr ?_; (case hd => rfl); (case hg => rfl); (case hr => first | (go_simp; done) | (go_simp; rfl)); intro gb280 hg w27 hbox hb; have n0_ := Aside0.mk (Kd.R_below (Kd.R_elderB (zR HO_10) gb280 (Nat.le_of_eq hg.symm)) hb); have n1_ := Aside0.mk (Kd.R_below (Kd.R_elderB (zR HO_12) gb280 (Nat.le_of_eq hg.symm)) hb); have n2_ := Aside0.mk (Kd.V_below (Kd.V_elderB (zV HO_279002) gb280 (Nat.le_of_eq hg.symm)) hb); have n3_ := Aside0.mk (blk_below (g := gb266) (o := .cells #[.int .i64 a0_0, .int .i64 a0_1, .slice (some ad279) l0_2.length c0_2] 24 (0, 0)) (zb BK266) hb); have n4_ := Aside0.mk (blk_below (g := gb278) (o := .cells #[.int .i64 t269, .int .i64 t270, .slice Ao21 t271.length co21] 24 (0, 0)) (zb BK278) hb); have n5_ := Aside0.mk (below_step (zc2 HB GE266 GE278) hb); have n6_ := Aside0.mk (hbox); have n7_ := Aside0.mk ((by rw [hg]; exact (below_size (zc2 HB GE266 GE278)) : w.heap.size ≤ gb280)); have n8_ := Aside0.mk ((by rw [hg]; exact (below_size (zc2 HB GE266 GE278)) : w.heap.size ≤ gb280)); have n9_ := Aside0.mk ((by rw [hg]; exact Nat.ne_of_lt (blk_lt (g := gb266) (o := .cells #[.int .i64 a0_0, .int .i64 a0_1, .slice (some ad279) l0_2.length c0_2] 24 (0, 0)) (zb BK266)) : gb266 ≠ gb280)); have n10_ := Aside0.mk ((by rw [hg]; exact Nat.ne_of_gt (blk_lt (g := gb266) (o := .cells #[.int .i64 a0_0, .int .i64 a0_1, .slice (some ad279) l0_2.length c0_2] 24 (0, 0)) (zb BK266)) : gb280 ≠ gb266)); have n11_ := Aside0.mk ((by rw [hg]; exact Nat.ne_of_lt (blk_lt (g := gb278) (o := .cells #[.int .i64 t269, .int .i64 t270, .slice Ao21 t271.length co21] 24 (0, 0)) (zb BK278)) : gb278 ≠ gb280)); have n12_ := Aside0.mk ((by rw [hg]; exact Nat.ne_of_gt (blk_lt (g := gb278) (o := .cells #[.int .i64 t269, .int .i64 t270, .slice Ao21 t271.length co21] 24 (0, 0)) (zb BK278)) : gb280 ≠ gb278)); clear HO_10; clear HO_12; clear HO_279002; clear BK266; clear BK278; clear HB; have HO_10 := n0_; have HO_12 := n1_; have HO_279002 := n2_; have BK266 := n3_; have BK278 := n4_; have HB := n5_; have BK280 := n6_; have GW280 := n7_; have GE280 := n8_; have NB266_280 := n9_; have NB280_266 := n10_; have NB278_280 := n11_; have NB280_278 := n12_; clear n0_ n1_ n2_ n3_ n4_ n5_ n6_ n7_ n8_ n9_ n10_ n11_ n12_; clear hb hbox hg; have hnb28 := NB280_266.out; have hnc28 := NB266_280.out; have hnb29 := NB280_278.out; have hnc29 := NB278_280.out; have hcz30_0 : w27.cell? ⟨gb280, 0, none⟩ = some (.int .i64 0) := (blk_cell BK280.out 0).trans rfl; have hcz30_1 : w27.cell? ⟨gb280, 1, none⟩ = some (.int .i64 0) := (blk_cell BK280.out 1).trans rfl; have hfz30_0 := blk_frozen BK280.out 0; have hfz30_1 := blk_frozen BK280.out 1))
          go_roundg k2
          case measure => have := HJ4.out; have := HK2.out; omega
          case rel => exact ⟨(x12_2), (wrap64 (x46_2 + 1)), (by first | rfl | (simp; done) | (simp [*]; done)), H', ⟨by have := HJ4.out; have := HK2.out; omega⟩, ⟨by (with_reducible repeat (first | apply Kd.R_alloc | apply Kd.R_drewN | apply Kd.R_drew)); exact Kd.R_mono (Kd.R_far (p := ⟨gb280, 1, none⟩) (Kd.R_far (p := ⟨gb280, 0, none⟩) (Kd.R_mono HO_10.out (fun k_ hk => (⟨hk, hk.2⟩ : _ ∧ k_ ≠ gb280))) (fun _ hk => hk.2) (.int .i64 ((rd_T50 l0_2 x46_2).f0))) (fun _ hk => hk.2) (.int .i64 ((rd_T50 l0_2 x46_2).f1))) (fun _ hk => hk.1.1)⟩, ⟨by (with_reducible repeat (first | apply Kd.R_alloc | apply Kd.R_drewN | apply Kd.R_drew)); exact Kd.R_mono (Kd.R_far (p := ⟨gb280, 1, none⟩) (Kd.R_far (p := ⟨gb280, 0, none⟩) (Kd.R_mono HO_12.out (fun k_ hk => (⟨hk, hk.2⟩ : _ ∧ k_ ≠ gb280))) (fun _ hk => hk.2) (.int .i64 ((rd_T50 l0_2 x46_2).f0))) (fun _ hk => hk.2) (.int .i64 ((rd_T50 l0_2 x46_2).f1))) (fun _ hk => hk.1.1)⟩, ⟨by (with_reducible repeat (first | apply Kd.V_alloc | apply Kd.V_drewN | apply Kd.V_drew)); exact Kd.V_mono (Kd.V_far (p := ⟨gb280, 1, none⟩) (Kd.V_far (p := ⟨gb280, 0, none⟩) (Kd.V_mono HO_279002.out (fun k_ hk => (⟨hk, hk.2⟩ : _ ∧ k_ ≠ gb280))) (fun _ hk => hk.2) (.int .i64 ((rd_T50 l0_2 x46_2).f0))) (fun _ hk => hk.2) (.int .i64 ((rd_T50 l0_2 x46_2).f1))) (fun _ hk => ⟨hk.1.1.1, ⟨hk.1.1.2.1, ⟨hk.1.1.2.2.1, hk.1.1.2.2.2⟩⟩⟩)⟩, ⟨by (with_reducible repeat (first | refine blk_drewN ?_ _ | refine blk_drew ?_ | refine blk_alloc ?_ _)); refine blk_far ?_ NB266_280.out _; (with_reducible repeat (first | refine blk_drewN ?_ _ | refine blk_drew ?_ | refine blk_alloc ?_ _)); refine blk_far ?_ NB266_280.out _; (with_reducible repeat (first | refine blk_drewN ?_ _ | refine blk_drew ?_ | refine blk_alloc ?_ _)); exact BK266.out⟩, ⟨by (with_reducible repeat (first | refine blk_drewN ?_ _ | refine blk_drew ?_ | refine blk_alloc ?_ _)); refine blk_far ?_ NB278_280.out _; (with_reducible repeat (first | refine blk_drewN ?_ _ | refine blk_drew ?_ | refine blk_alloc ?_ _)); refine blk_far ?_ NB278_280.out _; (with_reducible repeat (first | refine blk_drewN ?_ _ | refine blk_drew ?_ | refine blk_alloc ?_ _)); exact BK278.out⟩, ⟨by repeat (first | (with_reducible first | exact HB.out | apply below_alloc | apply pw_below_drewN | apply below_drew1 | refine below_set ?_ GE266.out | refine below_set ?_ GE278.out | refine below_set ?_ GE280.out) | exact HB.out)⟩⟩
         ·rw [if_neg c26] at H
          have c26b0 : (((rd_T50 l0_2 x46_2).f0) == a1) = false := beq_eq_false_iff_ne.mpr c26
          have c26b1 : (((rd_T50 l0_2 x46_2).f0) != a1) = true := bne_iff_ne.mpr c26
          by_cases c31 : x12_2.length < 8796093022208
          ·rw [if_pos c31] at H
           have LMc31 := Aside0.mk c31
           clear c31
           obtain ⟨y281, hy281⟩ : ∃ y_ : List (S50), y_ = (x12_2 ++ [(⟨(rd_T50 l0_2 x46_2).f0, (rd_T50 l0_2 x46_2).f1⟩ : S50)]) := ⟨_, rfl⟩
           replace H : (handshakerlaw18_SemaOthers.l0 k2 a1 a2 a3 t274 t277 y281 l0_2 (l0_2.length : Int) (wrap64 (x46_2 + 1)) a0_0 a0_1 l0_2 t269 t270 t271) = some r := by first | (rw [hy281]; with_reducible exact H) | (have H2_ := (Option.bind_some _ _).symm.trans H; rw [hy281]; with_reducible exact H2_) | (have H2_ := (Option.bind_some _ _).symm.trans H; with_reducible exact H2_) | with_reducible exact H | (rw [hy281]; exact H) | exact H
           have Ny281 := Aside0.mk hy281
           clear hy281
           have H' := Aside0.mk H
           clear H
           have p279 : 0 ≤ (x46_2 : Int) := of_decide_eq_true (by first | (with_reducible assumption) | assumption)
           have q279 : x46_2 < (l0_2.length : Int) := of_decide_eq_true (by first | (with_reducible assumption) | assumption)
           obtain ⟨ad279, e279, hx279_0, hx279_1⟩ := at_T50 HR0_2.out x46_2 p279 q279
           cases e279
           replace hx279_0 := (HB.out.cell (World.block_lt_of_cell? w _ hx279_0)).trans hx279_0
           replace hx279_1 := (HB.out.cell (World.block_lt_of_cell? w _ hx279_1)).trans hx279_1
           replace p279 := eq_true p279
           replace q279 := eq_true q279
           go_wp2_with (first | ((with_reducible refine gate_dst (N := 14) rfl ?_); (try (refine gate_guard (by rfl) ?_; dsimp only)); refine box_event ?hg (N := 14) ?hd (cs := #[.int .i64 0, .int .i64 0]) (t := 50) ?hr ?_; (case hd => rfl); (case hg => rfl); (case hr => first | (go_simp; done) | (go_simp; rfl)); intro gb280 hg w32 hbox hb; have n0_ := Aside0.mk (Kd.R_below (Kd.R_elderB (zR HO_10) gb280 (Nat.le_of_eq hg.symm)) hb); have n1_ := Aside0.mk (Kd.R_below (Kd.R_elderB (zR HO_12) gb280 (Nat.le_of_eq hg.symm)) hb); have n2_ := Aside0.mk (Kd.V_below (Kd.V_elderB (zV HO_279002) gb280 (Nat.le_of_eq hg.symm)) hb); have n3_ := Aside0.mk (blk_below (g := gb266) (o := .cells #[.int .i64 a0_0, .int .i64 a0_1, .slice (some ad279) l0_2.length c0_2] 24 (0, 0)) (zb BK266) hb); have n4_ := Aside0.mk (blk_below (g := gb278) (o := .cells #[.int .i64 t269, .int .i64 t270, .slice Ao21 t271.length co21] 24 (0, 0)) (zb BK278) hb); have n5_ := Aside0.mk (below_step (zc2 HB GE266 GE278) hb); have n6_ := Aside0.mk (hbox); have n7_ := Aside0.mk ((by rw [hg]; exact (below_size (zc2 HB GE266 GE278)) : w.heap.size ≤ gb280)); have n8_ := Aside0.mk ((by rw [hg]; exact (below_size (zc2 HB GE266 GE278)) : w.heap.size ≤ gb280)); have n9_ := Aside0.mk ((by rw [hg]; exact Nat.ne_of_lt (blk_lt (g := gb266) (o := .cells #[.int .i64 a0_0, .int .i64 a0_1, .slice (some ad279) l0_2.length c0_2] 24 (0, 0)) (zb BK266)) : gb266 ≠ gb280)); have n10_ := Aside0.mk ((by rw [hg]; exact Nat.ne_of_gt (blk_lt (g := gb266) (o := .cells #[.int .i64 a0_0, .int .i64 a0_1, .slice (some ad279) l0_2.length c0_2] 24 (0, 0)) (zb BK266)) : gb280 ≠ gb266)); have n11_ := Aside0.mk ((by rw [hg]; exact Nat.ne_of_lt (blk_lt (g := gb278) (o := .cells #[.int .i64 t269, .int .i64 t270, .slice Ao21 t271.length co21] 24 (0, 0)) (zb BK278)) : gb278 ≠ gb280)); have n12_ := Aside0.mk ((by rw [hg]; exact Nat.ne_of_gt (blk_lt (g := gb278) (o := .cells #[.int .i64 t269, .int .i64 t270, .slice Ao21 t271.length co21] 24 (0, 0)) (zb BK278)) : gb280 ≠ gb278)); clear HO_10; clear HO_12; clear HO_279002; clear BK266; clear BK278; clear HB; have HO_10 := n0_; have HO_12 := n1_; have HO_279002 := n2_; have BK266 := n3_; have BK278 := n4_; have HB := n5_; have BK280 := n6_; have GW280 := n7_; have GE280 := n8_; have NB266_280 := n9_; have NB280_266 := n10_; have NB278_280 := n11_; have NB280_278 := n12_; clear n0_ n1_ n2_ n3_ n4_ n5_ n6_ n7_ n8_ n9_ n10_ n11_ n12_; clear hb hbox hg; have hnb33 := NB280_266.out; have hnc33 := NB266_280.out; have hnb34 := NB280_278.out; have hnc34 := NB278_280.out; have hcz35_0 : w32.cell? ⟨gb280, 0, none⟩ = some (.int .i64 0) := (blk_cell BK280.out 0).trans rfl; have hcz35_1 : w32.cell? ⟨gb280, 1, none⟩ = some (.int .i64 0) := (blk_cell BK280.out 1).trans rfl; have hfz35_0 := blk_frozen BK280.out 0; have hfz35_1 := blk_frozen BK280.out 1) | ((with_reducible refine gate_builtin (b := .append) (xs := #[.tmp 54, .tmp 56]) rfl ?_); (try (refine gate_guard (by rfl) ?_; dsimp only)); at_builtin; refine Kd.R_append k50 (w0 := w) w.heap.size rfl (.tmp 54) (.tmp 56) 22 50 (.agg #[(.int .i64 0), (.int .i64 0)]) 16 rfl Try.underlying22 info50 rfl (by decide) (by omega) u12 x12_2 (⟨(rd_T50 l0_2 x46_2).f0, (rd_T50 l0_2 x46_2).f1⟩ : S50) [.int .i64 ((rd_T50 l0_2 x46_2).f0), .int .i64 ((rd_T50 l0_2 x46_2).f1)] (fun k_ => some k_ ≠ (v275 : Value).ownBlock ∧ k_ ≠ gb280) (fun _ => False) rfl (by first | (go_simp; done) | (go_simp; rfl)) ?aP (fun _ hk => hk.elim) ?aF ?aO ?aB ?aS ?aL ?_; (case aP => exact k50_mkM _ _ _ (⟨(rd_T50 l0_2 x46_2).f0, (rd_T50 l0_2 x46_2).f1⟩ : S50)); (case aB => exact (zc3 HB GE266 GE278 GE280)); (case aF => exact (fun k_ hk => ⟨Kd.fresh' (Kd.R_lt (by (with_reducible repeat (first | apply Kd.R_alloc | apply Kd.R_drewN | apply Kd.R_drew)); exact (Kd.R_mono (Kd.R_far (p := ⟨gb280, 1, none⟩) (Kd.R_far (p := ⟨gb280, 0, none⟩) (Kd.R_mono HO_10.out (fun k_ hk => (⟨hk, hk.2⟩ : _ ∧ k_ ≠ gb280))) (fun _ hk => hk.2) (.int .i64 ((rd_T50 l0_2 x46_2).f0))) (fun _ hk => hk.2) (.int .i64 ((rd_T50 l0_2 x46_2).f1))) (fun _ h_ => h_.1)))) k_ hk, Kd.freshB (g := gb280) (o := .cells #[.int .i64 ((rd_T50 l0_2 x46_2).f0), .int .i64 ((rd_T50 l0_2 x46_2).f1)] 50 (0, 0)) (by (with_reducible repeat (first | refine blk_drewN ?_ _ | refine blk_drew ?_ | refine blk_alloc ?_ _)); refine blk_put (cs := #[.int .i64 ((rd_T50 l0_2 x46_2).f0), .int .i64 0]) ?_ 1 _ rfl; (with_reducible repeat (first | refine blk_drewN ?_ _ | refine blk_drew ?_ | refine blk_alloc ?_ _)); refine blk_put (cs := #[.int .i64 0, .int .i64 0]) ?_ 0 _ rfl; (with_reducible repeat (first | refine blk_drewN ?_ _ | refine blk_drew ?_ | refine blk_alloc ?_ _)); exact BK280.out) k_ hk⟩)); (case aO => exact (by (with_reducible repeat (first | apply Kd.R_alloc | apply Kd.R_drewN | apply Kd.R_drew)); exact Kd.R_mono (Kd.R_far (p := ⟨gb280, 1, none⟩) (Kd.R_far (p := ⟨gb280, 0, none⟩) (Kd.R_mono HO_12.out (fun k_ hk => (⟨hk, hk.2⟩ : _ ∧ k_ ≠ gb280))) (fun _ hk => hk.2) (.int .i64 ((rd_T50 l0_2 x46_2).f0))) (fun _ hk => hk.2) (.int .i64 ((rd_T50 l0_2 x46_2).f1))) (fun _ hk => ⟨hk.1.1, hk.1.2⟩))); (case aS => exact (below_size (zc3 HB GE266 GE278 GE280))); (case aL => have := LMc31.out; omega); intro v282 w36 ho hb hg hat; rw [← Ny281.out] at ho; have n0_ := Aside0.mk (Kd.R_after (ok := (fun k_ => k_ ≠ gb280)) (by (with_reducible repeat (first | apply Kd.R_alloc | apply Kd.R_drewN | apply Kd.R_drew)); exact Kd.R_mono (Kd.R_far (p := ⟨gb280, 1, none⟩) (Kd.R_far (p := ⟨gb280, 0, none⟩) (Kd.R_mono HO_10.out (fun k_ hk => (⟨hk, hk.2⟩ : _ ∧ k_ ≠ gb280))) (fun _ hk => hk.2) (.int .i64 ((rd_T50 l0_2 x46_2).f0))) (fun _ hk => hk.2) (.int .i64 ((rd_T50 l0_2 x46_2).f1))) (fun _ hk => ⟨hk.1.2, hk.1.1⟩)) hg hat); have n1_ := Aside0.mk (Kd.V_afterv (ok := (fun k_ => some k_ ≠ (v275 : Value).ownBlock ∧ k_ ≠ gb266 ∧ k_ ≠ gb278 ∧ k_ ≠ gb280)) (by (with_reducible repeat (first | apply Kd.V_alloc | apply Kd.V_drewN | apply Kd.V_drew)); exact Kd.V_mono (Kd.V_far (p := ⟨gb280, 1, none⟩) (Kd.V_far (p := ⟨gb280, 0, none⟩) (Kd.V_mono HO_279002.out (fun k_ hk => (⟨hk, hk.2⟩ : _ ∧ k_ ≠ gb280))) (fun _ hk => hk.2) (.int .i64 ((rd_T50 l0_2 x46_2).f0))) (fun _ hk => hk.2) (.int .i64 ((rd_T50 l0_2 x46_2).f1))) (fun _ hk => ⟨⟨hk.1.1.1, ⟨hk.1.1.2.2.1, ⟨hk.1.1.2.2.2, hk.1.2⟩⟩⟩, hk.1.1.2.1⟩)) hg hat); have n2_ := Aside0.mk (blk_grown (g := gb266) (o := .cells #[.int .i64 a0_0, .int .i64 a0_1, .slice (some ad279) l0_2.length c0_2] 24 (0, 0)) (by (with_reducible repeat (first | refine blk_drewN ?_ _ | refine blk_drew ?_ | refine blk_alloc ?_ _)); refine blk_far ?_ NB266_280.out _; (with_reducible repeat (first | refine blk_drewN ?_ _ | refine blk_drew ?_ | refine blk_alloc ?_ _)); refine blk_far ?_ NB266_280.out _; (with_reducible repeat (first | refine blk_drewN ?_ _ | refine blk_drew ?_ | refine blk_alloc ?_ _)); exact BK266.out) hg (Kd.R_ne HO_12.out BK266.out (by decide))); have n3_ := Aside0.mk (blk_grown (g := gb278) (o := .cells #[.int .i64 t269, .int .i64 t270, .slice Ao21 t271.length co21] 24 (0, 0)) (by (with_reducible repeat (first | refine blk_drewN ?_ _ | refine blk_drew ?_ | refine blk_alloc ?_ _)); refine blk_far ?_ NB278_280.out _; (with_reducible repeat (first | refine blk_drewN ?_ _ | refine blk_drew ?_ | refine blk_alloc ?_ _)); refine blk_far ?_ NB278_280.out _; (with_reducible repeat (first | refine blk_drewN ?_ _ | refine blk_drew ?_ | refine blk_alloc ?_ _)); exact BK278.out) hg (Kd.R_ne HO_12.out BK278.out (by decide))); have n4_ := Aside0.mk (blk_grown (g := gb280) (o := .cells #[.int .i64 ((rd_T50 l0_2 x46_2).f0), .int .i64 ((rd_T50 l0_2 x46_2).f1)] 50 (0, 0)) (by (with_reducible repeat (first | refine blk_drewN ?_ _ | refine blk_drew ?_ | refine blk_alloc ?_ _)); refine blk_put (cs := #[.int .i64 ((rd_T50 l0_2 x46_2).f0), .int .i64 0]) ?_ 1 _ rfl; (with_reducible repeat (first | refine blk_drewN ?_ _ | refine blk_drew ?_ | refine blk_alloc ?_ _)); refine blk_put (cs := #[.int .i64 0, .int .i64 0]) ?_ 0 _ rfl; (with_reducible repeat (first | refine blk_drewN ?_ _ | refine blk_drew ?_ | refine blk_alloc ?_ _)); exact BK280.out) hg (Kd.R_away HO_12.out (fun _ hk => hk.2))); have n5_ := Aside0.mk (hb); have n6_ := Aside0.mk (ho); clear HO_10; clear HO_279002; clear BK266; clear BK278; clear BK280; clear HB; clear HO_12; have HO_10 := n0_; have HO_279002 := n1_; have BK266 := n2_; have BK278 := n3_; have BK280 := n4_; have HB := n5_; have HO283 := n6_; clear n0_ n1_ n2_ n3_ n4_ n5_ n6_; clear ho hb hg hat))
           go_roundg k2
           case measure => have := HJ4.out; have := HK2.out; omega
           case rel => exact ⟨(y281), (wrap64 (x46_2 + 1)), (by first | rfl | (simp; done) | (simp [*]; done)), H', ⟨by have := HJ4.out; have := HK2.out; omega⟩, ⟨by (with_reducible repeat (first | apply Kd.R_alloc | apply Kd.R_drewN | apply Kd.R_drew)); exact Kd.R_mono HO_10.out (fun _ hk => hk.2)⟩, ⟨by (with_reducible repeat (first | apply Kd.R_alloc | apply Kd.R_drewN | apply Kd.R_drew)); exact Kd.R_mono HO283.out (fun _ hk => hk.1)⟩, ⟨by (with_reducible repeat (first | apply Kd.V_alloc | apply Kd.V_drewN | apply Kd.V_drew)); exact Kd.V_mono HO_279002.out (fun _ hk => ⟨hk.1.1, ⟨hk.2, ⟨hk.1.2.1, hk.1.2.2.1⟩⟩⟩)⟩, ⟨by (with_reducible repeat (first | refine blk_drewN ?_ _ | refine blk_drew ?_ | refine blk_alloc ?_ _)); exact BK266.out⟩, ⟨by (with_reducible repeat (first | refine blk_drewN ?_ _ | refine blk_drew ?_ | refine blk_alloc ?_ _)); exact BK278.out⟩, ⟨by repeat (first | (with_reducible first | exact HB.out | apply below_alloc | apply pw_below_drewN | apply below_drew1 | refine below_set ?_ GE266.out | refine below_set ?_ GE278.out | refine below_set ?_ GE280.out) | exact HB.out)⟩⟩
          ·rw [if_neg c31] at H
           exact absurd H (by simp)
        ·rw [if_neg c25] at H
         exact absurd H (by simp)
       ·rw [if_neg c24] at H
        exact absurd H (by simp)
      ·rw [if_neg c23] at H
       have c23b0 : decide (x46_2 < (l0_2.length : Int)) = false := decide_eq_false c23
       clear c23
       have HC37 := Aside0.mk H
       clear H
       go_upto_region 11 with (fail)
       go_cut [73] (fun v73 wc => ∃ (kq : Nat) (x73_36 : Bool), v73 = .bool x73_36 ∧ Aside0 (handshakerlaw18_SemaOthers.j2 kq a2 a3 x73_36 a0_0 a0_1 l0_2 = some r) ∧ Aside0 (kq ≤ k2) ∧ Aside0 (Kd.V k50 50 wc w.heap.size (fun k_ => k_ ≠ gb266 ∧ k_ ≠ gb278) (.slice Ao21 t271.length co21) t271) ∧ Aside0 (wc.heap[gb266]? = some (.cells #[.int .i64 a0_0, .int .i64 a0_1, (.slice A0_2 l0_2.length c0_2)] 24 (0, 0))) ∧ Aside0 (wc.heap[gb278]? = some (.cells #[.int .i64 t269, .int .i64 t270, (.slice Ao21 t271.length co21)] 24 (0, 0))) ∧ Aside0 (Below w.heap.size w wc))
       case first =>
        have H := HC37.out
        clear HC37
        by_cases c38 : t277 = 0
        ·rw [if_pos c38] at H
         have c38b0 : (t277 == 0) = true := beq_iff_eq.mpr c38
         have c38b1 : (t277 != 0) = false := bne_eq_false_iff_eq.mpr c38
         clear c38
         (first | rw [c38b0] | (simp only [i64_w, i32_w]; rw [c38b0]) | skip)
         obtain ⟨y284, hy284⟩ : ∃ y_ : List (S50), y_ = (([] : List (S50))) := ⟨_, rfl⟩
         replace H : (if y284.length + t274.length < 8796093022208 then ((some (y284 ++ t274 : List (S50))).bind fun y287 => (if y287.length + t271.length < 8796093022208 then ((handshakerlaw18_Refs.f k2 (y287 ++ t271)).bind fun t293 => ((handshakerlaw18_Refs.f k2 x12_2).bind fun t296 => ((handshakerref18_List.f k2 t293 t296).bind fun t299 => (handshakerlaw18_SemaOthers.j2 k2 a2 a3 (!t299) a0_0 a0_1 l0_2)))) else (none))) else (none)) = some r := by first | (rw [hy284]; with_reducible exact H) | (have H2_ := (Option.bind_some _ _).symm.trans H; rw [hy284]; with_reducible exact H2_) | (have H2_ := (Option.bind_some _ _).symm.trans H; with_reducible exact H2_) | with_reducible exact H | (rw [hy284]; exact H) | exact H
         have Ny284 := Aside0.mk hy284
         clear hy284
         by_cases c39 : y284.length + t274.length < 8796093022208
         ·rw [if_pos c39] at H
          have LMc39 := Aside0.mk c39
          clear c39
          obtain ⟨y287, hy287⟩ : ∃ y_ : List (S50), y_ = (y284 ++ t274) := ⟨_, rfl⟩
          replace H : (if y287.length + t271.length < 8796093022208 then ((handshakerlaw18_Refs.f k2 (y287 ++ t271)).bind fun t293 => ((handshakerlaw18_Refs.f k2 x12_2).bind fun t296 => ((handshakerref18_List.f k2 t293 t296).bind fun t299 => (handshakerlaw18_SemaOthers.j2 k2 a2 a3 (!t299) a0_0 a0_1 l0_2)))) else (none)) = some r := by first | (rw [hy287]; with_reducible exact H) | (have H2_ := (Option.bind_some _ _).symm.trans H; rw [hy287]; with_reducible exact H2_) | (have H2_ := (Option.bind_some _ _).symm.trans H; with_reducible exact H2_) | with_reducible exact H | (rw [hy287]; exact H) | exact H
          have Ny287 := Aside0.mk hy287
          clear hy287
          by_cases c40 : y287.length + t271.length < 8796093022208
          ·rw [if_pos c40] at H
           have LMc40 := Aside0.mk c40
           clear c40
           obtain ⟨y290, hy290⟩ : ∃ y_ : List (S50), y_ = (y287 ++ t271) := ⟨_, rfl⟩
           replace H : ((handshakerlaw18_Refs.f k2 y290).bind fun t293 => ((handshakerlaw18_Refs.f k2 x12_2).bind fun t296 => ((handshakerref18_List.f k2 t293 t296).bind fun t299 => (handshakerlaw18_SemaOthers.j2 k2 a2 a3 (!t299) a0_0 a0_1 l0_2)))) = some r := by first | (rw [hy290]; with_reducible exact H) | (have H2_ := (Option.bind_some _ _).symm.trans H; rw [hy290]; with_reducible exact H2_) | (have H2_ := (Option.bind_some _ _).symm.trans H; with_reducible exact H2_) | with_reducible exact H | (rw [hy290]; exact H) | exact H
           have Ny290 := Aside0.mk hy290
           clear hy290
           replace H := Option.bind_eq_some_iff.mp H
           obtain ⟨t293, A410, H⟩ := H
           replace H : ((handshakerlaw18_Refs.f k2 x12_2).bind fun t296 => ((handshakerref18_List.f k2 t293 t296).bind fun t299 => (handshakerlaw18_SemaOthers.j2 k2 a2 a3 (!t299) a0_0 a0_1 l0_2))) = some r := H
           have A41 := Aside0.mk A410
           clear A410
           replace H := Option.bind_eq_some_iff.mp H
           obtain ⟨t296, A420, H⟩ := H
           replace H : ((handshakerref18_List.f k2 t293 t296).bind fun t299 => (handshakerlaw18_SemaOthers.j2 k2 a2 a3 (!t299) a0_0 a0_1 l0_2)) = some r := H
           have A42 := Aside0.mk A420
           clear A420
           replace H := Option.bind_eq_some_iff.mp H
           obtain ⟨t299, A430, H⟩ := H
           replace H : (handshakerlaw18_SemaOthers.j2 k2 a2 a3 (!t299) a0_0 a0_1 l0_2) = some r := H
           have A43 := Aside0.mk A430
           clear A430
           have H' := Aside0.mk H
           clear H
           try go_wp2
           have n0_ := Aside0.mk (Kd.R_drew HO_10.out)
           have n1_ := Aside0.mk (Kd.R_drew HO_12.out)
           have n2_ := Aside0.mk (Kd.V_drew HO_279002.out)
           have n3_ := Aside0.mk (blk_drew BK266.out)
           have n4_ := Aside0.mk (blk_drew BK278.out)
           have n5_ := Aside0.mk (below_drew1 HB.out)
           clear HO_10
           clear HO_12
           clear HO_279002
           clear BK266
           clear BK278
           clear HB
           have HO_10 := n0_
           have HO_12 := n1_
           have HO_279002 := n2_
           have BK266 := n3_
           have BK278 := n4_
           have HB := n5_
           clear n0_ n1_ n2_ n3_ n4_ n5_
           refine start_ (n := 15) (S := fun w' => w'.cell? ⟨gb278, 0, none⟩ = some (.int .i64 t269) ∧ w'.cell? ⟨gb278, 1, none⟩ = some (.int .i64 t270) ∧ w'.cell? ⟨gb278, 2, none⟩ = some (.slice Ao21 t271.length co21)) (ds := []) #[false, false, false, false, false, false, false, false, false, false, false, false, false, false, false] (by kernel_rfl) rfl rfl ⟨(blk_cell BK278.out 0).trans rfl, (blk_cell BK278.out 1).trans rfl, (blk_cell BK278.out 2).trans rfl⟩ (fun hHeld => ?_); refine with_tabW handshakerlaw18_SemaOthers.tab11 handshakerlaw18_SemaOthers.bits11 (fun HT_ HW_ => ?_)
           generalize wr.drew = w44 at HO_10 HO_12 HO_279002 BK266 BK278 HB hHeld ⊢
           refine pure_ (i := 0) (N := some 59) (v := ?_) (a' := ?_) #[true, false, false, false, false, false, false, false, false, false, false, false, false, false, false] rfl rfl (any_of HT_.out (by kernel_rfl)) (fun _ _ _ h => h) (Or.inl ⟨by rfl, ?_⟩) ?_ ?_
           rotate_left
           ·intro w'
            go_simp
            with_reducible rfl
           rotate_left
           ·simp only [Act.put, List.setIfInBounds_toArray, List.set_cons_zero, List.set_cons_succ, i64_w, i32_w]
            rfl
           refine pure_ (i := 1) (N := some 60) (v := ?_) (a' := ?_) #[true, true, false, false, false, false, false, false, false, false, false, false, false, false, false] rfl rfl (any_of HT_.out (by kernel_rfl)) (fun _ _ _ h => h) (Or.inl ⟨by rfl, ?_⟩) ?_ ?_
           rotate_left
           ·intro w'
            go_simp
            with_reducible rfl
           rotate_left
           ·simp only [Act.put, List.setIfInBounds_toArray, List.set_cons_zero, List.set_cons_succ, i64_w, i32_w]
            rfl
           refine pure_ (i := 2) (N := some 61) (v := ?_) (a' := ?_) #[true, true, true, false, false, false, false, false, false, false, false, false, false, false, false] rfl rfl (any_of HT_.out (by kernel_rfl)) (fun _ _ _ h => h) (Or.inl ⟨by rfl, ?_⟩) ?_ ?_
           rotate_left
           ·intro w'
            go_simp
            with_reducible rfl
           rotate_left
           ·simp only [Act.put, List.setIfInBounds_toArray, List.set_cons_zero, List.set_cons_succ, i64_w, i32_w]
            rfl
           refine pure_ (i := 4) (N := some 63) (v := ?_) (a' := ?_) #[true, true, true, false, true, false, false, false, false, false, false, false, false, false, false] rfl rfl (any_of HT_.out (by kernel_rfl)) (fun _ _ _ h => h) (Or.inl ⟨by rfl, ?_⟩) ?_ ?_
           rotate_left
           ·intro w'
            go_simp
            with_reducible rfl
           rotate_left
           ·simp only [Act.put, List.setIfInBounds_toArray, List.set_cons_zero, List.set_cons_succ, i64_w, i32_w]
            rfl
           refine pure_ (i := 6) (N := some 65) (v := ?_) (a' := ?_) #[true, true, true, false, true, false, true, false, false, false, false, false, false, false, false] rfl rfl (any_of HT_.out (by kernel_rfl)) (fun _ _ _ h => h) (Or.inl ⟨by rfl, ?_⟩) ?_ ?_
           rotate_left
           ·intro w'
            go_simp
            with_reducible rfl
           rotate_left
           ·simp only [Act.put, List.setIfInBounds_toArray, List.set_cons_zero, List.set_cons_succ, i64_w, i32_w]
            rfl
           refine pure_ (i := 10) (N := some 69) (v := ?_) (a' := ?_) #[true, true, true, false, true, false, true, false, false, false, true, false, false, false, false] rfl rfl (any_of HT_.out (by kernel_rfl)) (fun _ _ _ h => h) (Or.inl ⟨by rfl, ?_⟩) ?_ ?_
           rotate_left
           ·intro w'
            go_simp
            with_reducible rfl
           rotate_left
           ·simp only [Act.put, List.setIfInBounds_toArray, List.set_cons_zero, List.set_cons_succ, i64_w, i32_w]
            rfl
           refine take_ (i := 7) (N := some 66) (v := ?_) (a' := ?_) #[true, true, true, false, true, false, true, true, false, false, true, false, false, false, false] rfl rfl (take_ofW HT_.out HW_.out (by kernel_rfl)) (fun _ _ _ h => h) (Or.inl ⟨by rfl, ?_⟩) hHeld ?_ ?_
           rotate_left
           ·rintro w' ⟨s0, s1, s2⟩
            go_simp
            with_reducible rfl
           rotate_left
           ·simp only [Act.put, List.setIfInBounds_toArray, List.set_cons_zero, List.set_cons_succ, i64_w, i32_w]
            rfl
           refine one_ (i := 3) (N := some 62) #[true, true, true, true, true, false, true, true, false, false, true, false, false, false, false] rfl rfl (one_of HT_.out (by kernel_rfl)) (by decide) (fun K hK => ?_)
           refine Kd.R_lit_step k50 _ 50 ?hg (N := 62) ?hd (xs := ([] : List (S50))) (inner := []) (ok := fun _ => True) (okp := fun _ => True) ?hr ?hp (fun _ hk => hk) trivial (Below.refl _ _) (Nat.le_refl _) (by simp) ?_; (case hd => rfl); (case hg => rfl); (case hr => first | (go_simp; done) | (go_simp; rfl)); (case hp => exact (Reps.none _ _))
           intro v285 w45 ho46 hb hg_ hnew_
           clear hg_ hnew_
           (first | rw [← Ny284.out] at ho46 | (simp only [Int.reduceToNat] at ho46; rw [← Ny284.out] at ho46))
           have n0_ := Aside0.mk (Kd.R_elder' (zR HO_10) (Kd.R_base ho46) hb)
           have n1_ := Aside0.mk (Kd.R_elder' (zR HO_12) (Kd.R_base ho46) hb)
           have n2_ := Aside0.mk (Kd.V_elder' (zV HO_279002) (Kd.R_base ho46) hb)
           have n3_ := Aside0.mk (Kd.R_lower (Kd.R_new' (Kd.R_new' ho46 (Kd.R_lt (zR HO_10))) (Kd.R_lt (zR HO_12))) (below_size (zc2 HB GE266 GE278)))
           have n4_ := Aside0.mk (blk_below (g := gb266) (o := .cells #[.int .i64 a0_0, .int .i64 a0_1, .slice A0_2 l0_2.length c0_2] 24 (0, 0)) (zb BK266) hb)
           have n5_ := Aside0.mk (blk_below (g := gb278) (o := .cells #[.int .i64 t269, .int .i64 t270, .slice Ao21 t271.length co21] 24 (0, 0)) (zb BK278) hb)
           have n6_ := Aside0.mk (below_step (zc2 HB GE266 GE278) hb)
           clear HO_10
           clear HO_12
           clear HO_279002
           clear BK266
           clear BK278
           clear HB
           have HO_10 := n0_
           have HO_12 := n1_
           have HO_279002 := n2_
           have HO286 := n3_
           have BK266 := n4_
           have BK278 := n5_
           have HB := n6_
           clear n0_ n1_ n2_ n3_ n4_ n5_ n6_
           clear hb ho46
           obtain ⟨Ao48, co48, eo48⟩ := Kd.R_slice HO_10.out
           (first | subst eo48 | (injection eo48 with f1_ f2_ f3_; have f4_ := f1_.symm; have f5_ := f3_.symm; clear f1_ f2_ f3_; subst f4_; subst f5_))
           refine hK.out _ _ ⟨(blk_cell BK278.out 0).trans rfl, (blk_cell BK278.out 1).trans rfl, (blk_cell BK278.out 2).trans rfl⟩ (fun hHeld => ?_)
           clear hK K
           refine norm_ (a' := ?_) ?_ ?_
           rotate_left
           ·show Act.put _ (some 62) _ = _
            simp only [Act.put, List.setIfInBounds_toArray, List.set_cons_zero, List.set_cons_succ, i64_w, i32_w]
            rfl
           refine one_ (i := 5) (N := some 64) #[true, true, true, true, true, true, true, true, false, false, true, false, false, false, false] rfl rfl (one_of HT_.out (by kernel_rfl)) (by decide) (fun K hK => ?_)
           refine Kd.R_append_rows_step k50 (w0 := w) w.heap.size (by rfl) (.tmp 62) (.tmp 63) 22 50 (.agg #[(.int .i64 0), (.int .i64 0)]) 16 rfl Try.underlying22 info50 rfl (by decide) (by omega) v285 y284 t274 _ _ _ (fun k_ => some k_ ≠ (.slice Ao48 t274.length co48 : Value).ownBlock ∧ some k_ ≠ (u12 : Value).ownBlock) (fun _ => False) rfl rfl ?aO ?aR (fun _ _ h => h) (fun _ h => h.elim) ?aF ?aB ?aS ?aL ?_
           (case aR => repeat (first | exact (Kd.R_reads' HO_10.out).2.2 | (with_reducible refine Kd.C_alloc ?_ _) | (with_reducible refine Kd.C_drewN ?_ _) | (with_reducible refine Kd.C_drew ?_)))
           (case aB => exact (zc2 HB GE266 GE278))
           (case aF => exact (fun k_ hk => ⟨Kd.fresh' (Kd.R_lt (zR HO_10)) k_ hk, Kd.fresh' (Kd.R_lt (zR HO_12)) k_ hk⟩))
           (case aO => exact (by (with_reducible repeat (first | apply Kd.R_alloc | apply Kd.R_drewN | apply Kd.R_drew)); exact Kd.R_mono HO286.out (fun _ hk => ⟨hk.1.2, hk.2⟩)))
           (case aS => exact (below_size (zc2 HB GE266 GE278)))
           (case aL => have := LMc39.out; omega)
           intro v288 w47 ho hb hg hat
           rw [← Ny287.out] at ho
           have n0_ := Aside0.mk (Kd.R_after (ok := (fun k_ => some k_ ≠ (u12 : Value).ownBlock)) (zR HO_10) hg hat)
           have n1_ := Aside0.mk (Kd.R_after (ok := (fun k_ => some k_ ≠ (.slice Ao48 t274.length co48 : Value).ownBlock)) (zR HO_12) hg hat)
           have n2_ := Aside0.mk (Kd.V_afterv (ok := (fun k_ => some k_ ≠ (.slice Ao48 t274.length co48 : Value).ownBlock ∧ some k_ ≠ (u12 : Value).ownBlock ∧ k_ ≠ gb266 ∧ k_ ≠ gb278)) (zV HO_279002) hg hat)
           have n3_ := Aside0.mk (blk_grown (g := gb266) (o := .cells #[.int .i64 a0_0, .int .i64 a0_1, .slice A0_2 l0_2.length c0_2] 24 (0, 0)) (zb BK266) hg (Kd.R_ne HO286.out BK266.out (by decide)))
           have n4_ := Aside0.mk (blk_grown (g := gb278) (o := .cells #[.int .i64 t269, .int .i64 t270, .slice Ao21 t271.length co21] 24 (0, 0)) (zb BK278) hg (Kd.R_ne HO286.out BK278.out (by decide)))
           have n5_ := Aside0.mk (hb)
           have n6_ := Aside0.mk (ho)
           clear HO_10
           clear HO_12
           clear HO_279002
           clear BK266
           clear BK278
           clear HB
           clear HO286
           have HO_10 := n0_
           have HO_12 := n1_
           have HO_279002 := n2_
           have BK266 := n3_
           have BK278 := n4_
           have HB := n5_
           have HO289 := n6_
           clear n0_ n1_ n2_ n3_ n4_ n5_ n6_
           clear ho hb hg hat
           refine hK.out _ _ ⟨(blk_cell BK278.out 0).trans rfl, (blk_cell BK278.out 1).trans rfl, (blk_cell BK278.out 2).trans rfl⟩ (fun hHeld => ?_)
           clear hK K
           refine norm_ (a' := ?_) ?_ ?_
           rotate_left
           ·show Act.put _ (some 64) _ = _
            simp only [Act.put, List.setIfInBounds_toArray, List.set_cons_zero, List.set_cons_succ, i64_w, i32_w]
            rfl
           refine one_ (i := 8) (N := some 67) #[true, true, true, true, true, true, true, true, true, false, true, false, false, false, false] rfl rfl (one_of HT_.out (by kernel_rfl)) (by decide) (fun K hK => ?_)
           refine Kd.R_append_rows_step k50 (w0 := w) w.heap.size (by rfl) (.tmp 64) (.tmp 66) 22 50 (.agg #[(.int .i64 0), (.int .i64 0)]) 16 rfl Try.underlying22 info50 rfl (by decide) (by omega) v288 y287 t271 _ _ _ (fun k_ => some k_ ≠ (.slice Ao48 t274.length co48 : Value).ownBlock ∧ some k_ ≠ (u12 : Value).ownBlock) (fun _ => False) rfl rfl ?aO ?aR (fun _ _ h => h) (fun _ h => h.elim) ?aF ?aB ?aS ?aL ?_
           (case aR => repeat (first | exact (Kd.V_reads' HO_279002.out).2.2 | (with_reducible refine Kd.C_alloc ?_ _) | (with_reducible refine Kd.C_drewN ?_ _) | (with_reducible refine Kd.C_drew ?_)))
           (case aB => exact (zc2 HB GE266 GE278))
           (case aF => exact (fun k_ hk => ⟨Kd.fresh' (Kd.R_lt (zR HO_10)) k_ hk, Kd.fresh' (Kd.R_lt (zR HO_12)) k_ hk⟩))
           (case aO => exact (zR HO289))
           (case aS => exact (below_size (zc2 HB GE266 GE278)))
           (case aL => have := LMc40.out; omega)
           intro v291 w49 ho hb hg hat
           rw [← Ny290.out] at ho
           have n0_ := Aside0.mk (Kd.R_after (ok := (fun k_ => some k_ ≠ (u12 : Value).ownBlock)) (zR HO_10) hg hat)
           have n1_ := Aside0.mk (Kd.R_after (ok := (fun k_ => some k_ ≠ (.slice Ao48 t274.length co48 : Value).ownBlock)) (zR HO_12) hg hat)
           have n2_ := Aside0.mk (Kd.V_afterv (ok := (fun k_ => some k_ ≠ (.slice Ao48 t274.length co48 : Value).ownBlock ∧ some k_ ≠ (u12 : Value).ownBlock ∧ k_ ≠ gb266 ∧ k_ ≠ gb278)) (zV HO_279002) hg hat)
           have n3_ := Aside0.mk (blk_grown (g := gb266) (o := .cells #[.int .i64 a0_0, .int .i64 a0_1, .slice A0_2 l0_2.length c0_2] 24 (0, 0)) (zb BK266) hg (Kd.R_ne HO289.out BK266.out (by decide)))
           have n4_ := Aside0.mk (blk_grown (g := gb278) (o := .cells #[.int .i64 t269, .int .i64 t270, .slice Ao21 t271.length co21] 24 (0, 0)) (zb BK278) hg (Kd.R_ne HO289.out BK278.out (by decide)))
           have n5_ := Aside0.mk (hb)
           have n6_ := Aside0.mk (ho)
           clear HO_10
           clear HO_12
           clear HO_279002
           clear BK266
           clear BK278
           clear HB
           clear HO289
           have HO_10 := n0_
           have HO_12 := n1_
           have HO_279002 := n2_
           have BK266 := n3_
           have BK278 := n4_
           have HB := n5_
           have HO292 := n6_
           clear n0_ n1_ n2_ n3_ n4_ n5_ n6_
           clear ho hb hg hat
           obtain ⟨Ao50, co50, eo50⟩ := Kd.R_slice HO292.out
           (first | subst eo50 | (injection eo50 with f1_ f2_ f3_; have f4_ := f1_.symm; have f5_ := f3_.symm; clear f1_ f2_ f3_; subst f4_; subst f5_))
           refine hK.out _ _ ⟨(blk_cell BK278.out 0).trans rfl, (blk_cell BK278.out 1).trans rfl, (blk_cell BK278.out 2).trans rfl⟩ (fun hHeld => ?_)
           clear hK K
           refine norm_ (a' := ?_) ?_ ?_
           rotate_left
           ·show Act.put _ (some 67) _ = _
            simp only [Act.put, List.setIfInBounds_toArray, List.set_cons_zero, List.set_cons_succ, i64_w, i32_w]
            rfl
           refine one_ (i := 9) (N := some 68) #[true, true, true, true, true, true, true, true, true, true, true, false, false, false, false] rfl rfl (one_of HT_.out (by kernel_rfl)) (by decide) (fun K hK => ?_)
           refine goes_ Try.func22 (by kernel_rfl) rfl #[.slice Ao50 y290.length co50] (by rfl) rfl rfl zm ?_
           with_reducible refine (handshakerlaw18_Refs.calls k2 _ _ y290 t293 _ ?side1 ?side2 A41.out).mono ?_
           (case side1 => repeat (first | exact (Kd.R_reads' HO292.out).2.2 | (with_reducible refine Kd.C_alloc ?_ _) | (with_reducible refine Kd.C_drewN ?_ _) | (with_reducible refine Kd.C_drew ?_)))
           (case side2 => exact (Kd.R_reads' HO292.out).2.1)
           rintro e w51 ⟨v294, rfl, ho0, hb⟩
           refine ⟨_, rfl, ?_⟩
           have n0_ := Aside0.mk (Kd.R_below (zR HO_10) hb)
           have n1_ := Aside0.mk (Kd.R_below (zR HO_12) hb)
           have n2_ := Aside0.mk (Kd.V_elder' (zV HO_279002) (Kd.R_base ho0) hb)
           have n3_ := Aside0.mk (Kd.R_below (zR HO292) hb)
           have n4_ := Aside0.mk (Kd.R_lower ho0 (below_size (zc2 HB GE266 GE278)))
           have n5_ := Aside0.mk (blk_below (g := gb266) (o := .cells #[.int .i64 a0_0, .int .i64 a0_1, .slice A0_2 l0_2.length c0_2] 24 (0, 0)) (zb BK266) hb)
           have n6_ := Aside0.mk (blk_below (g := gb278) (o := .cells #[.int .i64 t269, .int .i64 t270, .slice Ao21 t271.length co21] 24 (0, 0)) (zb BK278) hb)
           have n7_ := Aside0.mk (below_step (zc2 HB GE266 GE278) hb)
           clear HO_10
           clear HO_12
           clear HO_279002
           clear HO292
           clear BK266
           clear BK278
           clear HB
           have HO_10 := n0_
           have HO_12 := n1_
           have HO_279002 := n2_
           have HO292 := n3_
           have HO295 := n4_
           have BK266 := n5_
           have BK278 := n6_
           have HB := n7_
           clear n0_ n1_ n2_ n3_ n4_ n5_ n6_ n7_
           (try clear hb)
           (try clear hb2)
           (try clear hk)
           (try clear hi)
           (try clear ho0)
           obtain ⟨Ao52, co52, eo52⟩ := Kd.R_slice HO_12.out
           (first | subst eo52 | (injection eo52 with f1_ f2_ f3_; have f4_ := f1_.symm; have f5_ := f3_.symm; clear f1_ f2_ f3_; subst f4_; subst f5_))
           refine hK.out _ _ ⟨(blk_cell BK278.out 0).trans rfl, (blk_cell BK278.out 1).trans rfl, (blk_cell BK278.out 2).trans rfl⟩ (fun hHeld => ?_)
           clear hK K
           refine norm_ (a' := ?_) ?_ ?_
           rotate_left
           ·show Act.put _ (some 68) _ = _
            simp only [Act.put, List.setIfInBounds_toArray, List.set_cons_zero, List.set_cons_succ, i64_w, i32_w]
            rfl
           refine one_ (i := 11) (N := some 70) #[true, true, true, true, true, true, true, true, true, true, true, true, false, false, false] rfl rfl (one_of HT_.out (by kernel_rfl)) (by decide) (fun K hK => ?_)
           refine goes_ Try.func22 (by kernel_rfl) rfl #[.slice Ao52 x12_2.length co52] (by rfl) rfl rfl zm ?_
           with_reducible refine (handshakerlaw18_Refs.calls k2 _ _ x12_2 t296 _ ?side1 ?side2 A42.out).mono ?_
           (case side1 => repeat (first | exact (Kd.R_reads' HO_12.out).2.2 | (with_reducible refine Kd.C_alloc ?_ _) | (with_reducible refine Kd.C_drewN ?_ _) | (with_reducible refine Kd.C_drew ?_)))
           (case side2 => exact (Kd.R_reads' HO_12.out).2.1)
           rintro e w53 ⟨v297, rfl, ho0, hb⟩
           refine ⟨_, rfl, ?_⟩
           have n0_ := Aside0.mk (Kd.R_below (zR HO_10) hb)
           have n1_ := Aside0.mk (Kd.R_below (zR HO_12) hb)
           have n2_ := Aside0.mk (Kd.V_elder' (zV HO_279002) (Kd.R_base ho0) hb)
           have n3_ := Aside0.mk (Kd.R_below (zR HO292) hb)
           have n4_ := Aside0.mk (Kd.R_elder' (zR HO295) (Kd.R_base ho0) hb)
           have n5_ := Aside0.mk (Kd.R_lower (Kd.R_new' ho0 (Kd.R_lt (zR HO295))) (below_size (zc2 HB GE266 GE278)))
           have n6_ := Aside0.mk (blk_below (g := gb266) (o := .cells #[.int .i64 a0_0, .int .i64 a0_1, .slice A0_2 l0_2.length c0_2] 24 (0, 0)) (zb BK266) hb)
           have n7_ := Aside0.mk (blk_below (g := gb278) (o := .cells #[.int .i64 t269, .int .i64 t270, .slice Ao21 t271.length co21] 24 (0, 0)) (zb BK278) hb)
           have n8_ := Aside0.mk (below_step (zc2 HB GE266 GE278) hb)
           clear HO_10
           clear HO_12
           clear HO_279002
           clear HO292
           clear HO295
           clear BK266
           clear BK278
           clear HB
           have HO_10 := n0_
           have HO_12 := n1_
           have HO_279002 := n2_
           have HO292 := n3_
           have HO295 := n4_
           have HO298 := n5_
           have BK266 := n6_
           have BK278 := n7_
           have HB := n8_
           clear n0_ n1_ n2_ n3_ n4_ n5_ n6_ n7_ n8_
           (try clear hb)
           (try clear hb2)
           (try clear hk)
           (try clear hi)
           (try clear ho0)
           obtain ⟨Ao54, co54, eo54⟩ := Kd.R_slice HO295.out
           (first | subst eo54 | (injection eo54 with f1_ f2_ f3_; have f4_ := f1_.symm; have f5_ := f3_.symm; clear f1_ f2_ f3_; subst f4_; subst f5_))
           obtain ⟨Ao55, co55, eo55⟩ := Kd.R_slice HO298.out
           (first | subst eo55 | (injection eo55 with f1_ f2_ f3_; have f4_ := f1_.symm; have f5_ := f3_.symm; clear f1_ f2_ f3_; subst f4_; subst f5_))
           refine hK.out _ _ ⟨(blk_cell BK278.out 0).trans rfl, (blk_cell BK278.out 1).trans rfl, (blk_cell BK278.out 2).trans rfl⟩ (fun hHeld => ?_)
           clear hK K
           refine norm_ (a' := ?_) ?_ ?_
           rotate_left
           ·show Act.put _ (some 70) _ = _
            simp only [Act.put, List.setIfInBounds_toArray, List.set_cons_zero, List.set_cons_succ, i64_w, i32_w]
            rfl
           refine one_ (i := 12) (N := some 71) #[true, true, true, true, true, true, true, true, true, true, true, true, true, false, false] rfl rfl (one_of HT_.out (by kernel_rfl)) (by decide) (fun K hK => ?_)
           refine goes_ Try.func21 (by kernel_rfl) rfl #[.slice Ao54 t293.length co54, .slice Ao55 t296.length co55] (by rfl) rfl rfl zm ?_
           with_reducible refine (handshakerref18_List.calls k2 _ _ t293 _ _ t296 t299 _ ?side1 ?side2 ?side3 ?side4 A43.out).mono ?_
           (case side1 => repeat (first | exact (Kd.R_reads' HO295.out).2.2 | (with_reducible refine Kd.C_alloc ?_ _) | (with_reducible refine Kd.C_drewN ?_ _) | (with_reducible refine Kd.C_drew ?_)))
           (case side2 => exact (Kd.R_reads' HO295.out).2.1)
           (case side3 => repeat (first | exact (Kd.R_reads' HO298.out).2.2 | (with_reducible refine Kd.C_alloc ?_ _) | (with_reducible refine Kd.C_drewN ?_ _) | (with_reducible refine Kd.C_drew ?_)))
           (case side4 => exact (Kd.R_reads' HO298.out).2.1)
           rintro e w' ⟨rfl, ⟨nd, rfl⟩⟩
           refine ⟨_, rfl, ?_⟩
           refine hK.out _ _ ⟨(blk_cell BK278.out 0).trans rfl, (blk_cell BK278.out 1).trans rfl, (blk_cell BK278.out 2).trans rfl⟩ (fun hHeld => ?_)
           clear hK K
           refine norm_ (a' := ?_) ?_ ?_
           rotate_left
           ·show Act.put _ (some 71) _ = _
            simp only [Act.put, List.setIfInBounds_toArray, List.set_cons_zero, List.set_cons_succ, i64_w, i32_w]
            rfl
           refine pure_ (i := 13) (N := some 72) (v := ?_) (a' := ?_) #[true, true, true, true, true, true, true, true, true, true, true, true, true, true, false] rfl rfl (any_of HT_.out (by kernel_rfl)) (fun _ _ _ h => h) (Or.inl ⟨by rfl, ?_⟩) ?_ ?_
           rotate_left
           ·intro w'
            go_simp
            with_reducible rfl
           rotate_left
           ·simp only [Act.put, List.setIfInBounds_toArray, List.set_cons_zero, List.set_cons_succ, i64_w, i32_w]
            rfl
           refine pure_ (i := 14) (N := some 73) (v := ?_) (a' := ?_) #[true, true, true, true, true, true, true, true, true, true, true, true, true, true, true] rfl rfl (any_of HT_.out (by kernel_rfl)) (fun _ _ _ h => h) (Or.inl ⟨by rfl, ?_⟩) ?_ ?_
           rotate_left
           ·intro w'
            go_simp
            with_reducible rfl
           rotate_left
           ·simp only [Act.put, List.setIfInBounds_toArray, List.set_cons_zero, List.set_cons_succ, i64_w, i32_w]
            rfl
           refine done_ (done_of HT_.out (by kernel_rfl)) ?_
           try go_wp2
           go_meet
           case rel => exact ⟨_, (!t299), (by first | rfl | (simp; done) | (simp [*]; done)), H', ⟨by have := HJ4.out; have := HK2.out; first | omega | exact Nat.le_refl _⟩, ⟨by (with_reducible repeat (first | apply Kd.V_alloc | apply Kd.V_drewN | apply Kd.V_drew)); exact Kd.V_mono HO_279002.out (fun _ hk => ⟨hk.1.1.1.2.2.1, hk.1.1.1.2.2.2⟩)⟩, ⟨by (with_reducible repeat (first | refine blk_drewN ?_ _ | refine blk_drew ?_ | refine blk_alloc ?_ _)); exact BK266.out⟩, ⟨by (with_reducible repeat (first | refine blk_drewN ?_ _ | refine blk_drew ?_ | refine blk_alloc ?_ _)); exact BK278.out⟩, ⟨by repeat (first | (with_reducible first | exact HB.out | apply below_alloc | apply pw_below_drewN | apply below_drew1 | refine below_set ?_ GE266.out | refine below_set ?_ GE278.out) | exact HB.out)⟩⟩
          ·rw [if_neg c40] at H
           exact absurd H (by simp)
         ·rw [if_neg c39] at H
          exact absurd H (by simp)
        ·rw [if_neg c38] at H
         have c38b0 : (t277 == 0) = false := beq_eq_false_iff_ne.mpr c38
         have c38b1 : (t277 != 0) = true := bne_iff_ne.mpr c38
         (first | rw [c38b0] | (simp only [i64_w, i32_w]; rw [c38b0]) | skip)
         have H' := Aside0.mk H
         clear H
         try go_wp2
         have n0_ := Aside0.mk (Kd.R_drew HO_10.out)
         have n1_ := Aside0.mk (Kd.R_drew HO_12.out)
         have n2_ := Aside0.mk (Kd.V_drew HO_279002.out)
         have n3_ := Aside0.mk (blk_drew BK266.out)
         have n4_ := Aside0.mk (blk_drew BK278.out)
         have n5_ := Aside0.mk (below_drew1 HB.out)
         clear HO_10
         clear HO_12
         clear HO_279002
         clear BK266
         clear BK278
         clear HB
         have HO_10 := n0_
         have HO_12 := n1_
         have HO_279002 := n2_
         have BK266 := n3_
         have BK278 := n4_
         have HB := n5_
         clear n0_ n1_ n2_ n3_ n4_ n5_
         refine start_ (n := 15) (S := fun w' => True) (ds := []) #[false, false, false, false, false, false, false, false, false, false, false, false, false, false, false] (by kernel_rfl) rfl rfl trivial (fun hHeld => ?_); refine with_tabW handshakerlaw18_SemaOthers.tab11 handshakerlaw18_SemaOthers.bits11 (fun HT_ HW_ => ?_)
         generalize wr.drew = w56 at HO_10 HO_12 HO_279002 BK266 BK278 HB hHeld ⊢
         refine pure_ (i := 0) (N := some 59) (v := ?_) (a' := ?_) #[true, false, false, false, false, false, false, false, false, false, false, false, false, false, false] rfl rfl (any_of HT_.out (by kernel_rfl)) (fun _ _ _ h => h) (Or.inl ⟨by rfl, ?_⟩) ?_ ?_
         rotate_left
         ·intro w'
          go_simp
          with_reducible rfl
         rotate_left
         ·simp only [Act.put, List.setIfInBounds_toArray, List.set_cons_zero, List.set_cons_succ, i64_w, i32_w]
          rfl
         refine pure_ (i := 1) (N := some 60) (v := ?_) (a' := ?_) #[true, true, false, false, false, false, false, false, false, false, false, false, false, false, false] rfl rfl (any_of HT_.out (by kernel_rfl)) (fun _ _ _ h => h) (Or.inl ⟨by rfl, ?_⟩) ?_ ?_
         rotate_left
         ·intro w'
          go_simp
          with_reducible rfl
         rotate_left
         ·simp only [Act.put, List.setIfInBounds_toArray, List.set_cons_zero, List.set_cons_succ, i64_w, i32_w]
          rfl
         refine pure_ (i := 2) (N := some 61) (v := ?_) (a' := ?_) #[true, true, true, false, false, false, false, false, false, false, false, false, false, false, false] rfl rfl (any_of HT_.out (by kernel_rfl)) (fun _ _ _ h => h) (Or.inl ⟨by rfl, ?_⟩) ?_ ?_
         rotate_left
         ·intro w'
          go_simp
          with_reducible rfl
         rotate_left
         ·simp only [Act.put, List.setIfInBounds_toArray, List.set_cons_zero, List.set_cons_succ, i64_w, i32_w]
          rfl
         refine pure_ (i := 3) (N := some 62) (v := undef) (a' := ?_) #[true, true, true, true, false, false, false, false, false, false, false, false, false, false, false] rfl rfl (any_of HT_.out (by kernel_rfl)) (fun _ _ _ h => h) (Or.inr ⟨by rfl, rfl⟩) ?_ ?_
         rotate_left
         ·simp only [Act.put, List.setIfInBounds_toArray, List.set_cons_zero, List.set_cons_succ, i64_w, i32_w]
          rfl
         refine pure_ (i := 4) (N := some 63) (v := undef) (a' := ?_) #[true, true, true, true, true, false, false, false, false, false, false, false, false, false, false] rfl rfl (any_of HT_.out (by kernel_rfl)) (fun _ _ _ h => h) (Or.inr ⟨by rfl, rfl⟩) ?_ ?_
         rotate_left
         ·simp only [Act.put, List.setIfInBounds_toArray, List.set_cons_zero, List.set_cons_succ, i64_w, i32_w]
          rfl
         refine pure_ (i := 5) (N := some 64) (v := undef) (a' := ?_) #[true, true, true, true, true, true, false, false, false, false, false, false, false, false, false] rfl rfl (any_of HT_.out (by kernel_rfl)) (fun _ _ _ h => h) (Or.inr ⟨by rfl, rfl⟩) ?_ ?_
         rotate_left
         ·simp only [Act.put, List.setIfInBounds_toArray, List.set_cons_zero, List.set_cons_succ, i64_w, i32_w]
          rfl
         refine pure_ (i := 6) (N := some 65) (v := undef) (a' := ?_) #[true, true, true, true, true, true, true, false, false, false, false, false, false, false, false] rfl rfl (any_of HT_.out (by kernel_rfl)) (fun _ _ _ h => h) (Or.inr ⟨by rfl, rfl⟩) ?_ ?_
         rotate_left
         ·simp only [Act.put, List.setIfInBounds_toArray, List.set_cons_zero, List.set_cons_succ, i64_w, i32_w]
          rfl
         refine pure_ (i := 7) (N := some 66) (v := undef) (a' := ?_) #[true, true, true, true, true, true, true, true, false, false, false, false, false, false, false] rfl rfl (any_of HT_.out (by kernel_rfl)) (fun _ _ _ h => h) (Or.inr ⟨by rfl, rfl⟩) ?_ ?_
         rotate_left
         ·simp only [Act.put, List.setIfInBounds_toArray, List.set_cons_zero, List.set_cons_succ, i64_w, i32_w]
          rfl
         refine pure_ (i := 8) (N := some 67) (v := undef) (a' := ?_) #[true, true, true, true, true, true, true, true, true, false, false, false, false, false, false] rfl rfl (any_of HT_.out (by kernel_rfl)) (fun _ _ _ h => h) (Or.inr ⟨by rfl, rfl⟩) ?_ ?_
         rotate_left
         ·simp only [Act.put, List.setIfInBounds_toArray, List.set_cons_zero, List.set_cons_succ, i64_w, i32_w]
          rfl
         refine pure_ (i := 9) (N := some 68) (v := undef) (a' := ?_) #[true, true, true, true, true, true, true, true, true, true, false, false, false, false, false] rfl rfl (any_of HT_.out (by kernel_rfl)) (fun _ _ _ h => h) (Or.inr ⟨by rfl, rfl⟩) ?_ ?_
         rotate_left
         ·simp only [Act.put, List.setIfInBounds_toArray, List.set_cons_zero, List.set_cons_succ, i64_w, i32_w]
          rfl
         refine pure_ (i := 10) (N := some 69) (v := undef) (a' := ?_) #[true, true, true, true, true, true, true, true, true, true, true, false, false, false, false] rfl rfl (any_of HT_.out (by kernel_rfl)) (fun _ _ _ h => h) (Or.inr ⟨by rfl, rfl⟩) ?_ ?_
         rotate_left
         ·simp only [Act.put, List.setIfInBounds_toArray, List.set_cons_zero, List.set_cons_succ, i64_w, i32_w]
          rfl
         refine pure_ (i := 11) (N := some 70) (v := undef) (a' := ?_) #[true, true, true, true, true, true, true, true, true, true, true, true, false, false, false] rfl rfl (any_of HT_.out (by kernel_rfl)) (fun _ _ _ h => h) (Or.inr ⟨by rfl, rfl⟩) ?_ ?_
         rotate_left
         ·simp only [Act.put, List.setIfInBounds_toArray, List.set_cons_zero, List.set_cons_succ, i64_w, i32_w]
          rfl
         refine pure_ (i := 12) (N := some 71) (v := undef) (a' := ?_) #[true, true, true, true, true, true, true, true, true, true, true, true, true, false, false] rfl rfl (any_of HT_.out (by kernel_rfl)) (fun _ _ _ h => h) (Or.inr ⟨by rfl, rfl⟩) ?_ ?_
         rotate_left
         ·simp only [Act.put, List.setIfInBounds_toArray, List.set_cons_zero, List.set_cons_succ, i64_w, i32_w]
          rfl
         refine pure_ (i := 13) (N := some 72) (v := undef) (a' := ?_) #[true, true, true, true, true, true, true, true, true, true, true, true, true, true, false] rfl rfl (any_of HT_.out (by kernel_rfl)) (fun _ _ _ h => h) (Or.inr ⟨by rfl, rfl⟩) ?_ ?_
         rotate_left
         ·simp only [Act.put, List.setIfInBounds_toArray, List.set_cons_zero, List.set_cons_succ, i64_w, i32_w]
          rfl
         refine pure_ (i := 14) (N := some 73) (v := ?_) (a' := ?_) #[true, true, true, true, true, true, true, true, true, true, true, true, true, true, true] rfl rfl (any_of HT_.out (by kernel_rfl)) (fun _ _ _ h => h) (Or.inl ⟨by rfl, ?_⟩) ?_ ?_
         rotate_left
         ·intro w'
          go_simp
          with_reducible rfl
         rotate_left
         ·simp only [Act.put, List.setIfInBounds_toArray, List.set_cons_zero, List.set_cons_succ, i64_w, i32_w]
          rfl
         refine done_ (done_of HT_.out (by kernel_rfl)) ?_
         try go_wp2
         go_meet
         case rel => exact ⟨_, (false), (by first | rfl | (simp; done) | (simp [*]; done)), H', ⟨by have := HJ4.out; have := HK2.out; first | omega | exact Nat.le_refl _⟩, ⟨by (with_reducible repeat (first | apply Kd.V_alloc | apply Kd.V_drewN | apply Kd.V_drew)); exact Kd.V_mono HO_279002.out (fun _ hk => ⟨hk.2.2.1, hk.2.2.2⟩)⟩, ⟨by (with_reducible repeat (first | refine blk_drewN ?_ _ | refine blk_drew ?_ | refine blk_alloc ?_ _)); exact BK266.out⟩, ⟨by (with_reducible repeat (first | refine blk_drewN ?_ _ | refine blk_drew ?_ | refine blk_alloc ?_ _)); exact BK278.out⟩, ⟨by repeat (first | (with_reducible first | exact HB.out | apply below_alloc | apply pw_below_drewN | apply below_drew1 | refine below_set ?_ GE266.out | refine below_set ?_ GE278.out) | exact HB.out)⟩⟩
       case rest =>
        clear HC37
        try clear c1
        try clear c2
        try clear p2
        try clear q2
        try clear hx2
        try clear c3
        try clear c4
        try clear p6
        try clear c7
        try clear c7b1
        try clear c8
        try clear c9
        try clear c12
        try clear c15
        try clear c19
        try clear c21
        try clear c22
        try clear c23
        try clear c23b0
        try clear c24
        try clear c24b0
        try clear c25
        try clear c25b0
        try clear c26
        try clear c26b0
        try clear c26b1
        try clear p27
        try clear q27
        try clear hx27
        try clear c28
        try clear c29
        try clear c31
        try clear c33
        try clear c34
        try clear c38
        try clear c38b0
        try clear c38b1
        try clear c39
        try clear c40
        try clear hcz10_0
        try clear hcz10_1
        try clear hcz10_2
        try clear hcz16_0
        try clear hcz16_1
        try clear hcz16_2
        try clear hcz20_0
        try clear hcz20_1
        try clear hcz20_2
        try clear hcz22_0
        try clear hcz22_1
        try clear hcz22_2
        try clear hcz30_0
        try clear hcz30_1
        try clear hcz35_0
        try clear hcz35_1
        try clear hcz8_0
        try clear hcz8_1
        try clear hcz8_2
        try clear hfz10_0
        try clear hfz10_1
        try clear hfz10_2
        try clear hfz16_0
        try clear hfz16_1
        try clear hfz16_2
        try clear hfz20_0
        try clear hfz20_1
        try clear hfz20_2
        try clear hfz22_0
        try clear hfz22_1
        try clear hfz22_2
        try clear hfz30_0
        try clear hfz30_1
        try clear hfz35_0
        try clear hfz35_1
        try clear hfz8_0
        try clear hfz8_1
        try clear hfz8_2
        try clear hx279_0
        try clear hx279_1
        try clear p2
        try clear p279
        try clear q279
        obtain ⟨kq, x73_36, rfl, HA, HJ36, HO_279002, BK266, BK278, HB⟩ := hcut
        cases kq with
        | zero => exact absurd HA.out (by simp [handshakerlaw18_SemaOthers.j2])
        | succ kj36 =>
         have H := HA.out
         clear HA
         simp only [handshakerlaw18_SemaOthers.j2] at H
         by_cases c57 : x73_36 = true
         ·subst c57
          have H1 : (none) = some r := by rw [if_pos rfl] at H; exact H
          clear H
          have H := H1
          clear H1
          exact absurd H (by simp)
         ·replace c57 := Bool.eq_false_iff.mpr c57
          subst c57
          have H1 : ((sema_Give.f kj36 a0_0 a0_1 l0_2 (wrap64 ((wrap64 (1 + (wrap64 (Int.tmod a2 50)))) + (wrap64 (1 + (wrap64 (Int.tmod a3 50))))))).bind fun bt300 => ((sema_Give.f kj36 a0_0 a0_1 l0_2 (wrap64 (1 + (wrap64 (Int.tmod a2 50))))).bind fun bt310 => ((sema_Give.f kj36 bt310.1 bt310.2.1 bt310.2.2.1 (wrap64 (1 + (wrap64 (Int.tmod a3 50))))).bind fun bt320 => (if bt300.2.2.2.2 = 0 then (if bt310.2.2.2.2 = 0 then (if bt320.2.2.2.2 = 0 then ((handshakerlaw18_Ref.f kj36 bt300.1 bt300.2.1 bt300.2.2.1).bind fun bt331 => ((handshakerlaw18_Ref.f kj36 bt320.1 bt320.2.1 bt320.2.2.1).bind fun bt336 => ((handshakerref18_Same.f kj36 bt331.1 bt331.2.1 bt331.2.2 bt336.1 bt336.2.1 bt336.2.2).bind fun t341 => (if t341 = true then ((handshakerlaw18_Refs.f kj36 bt300.2.2.2.1).bind fun t342 => ((some (([] : List (S50)) : List (S50))).bind fun y345 => (if y345.length + bt310.2.2.2.1.length < 8796093022208 then ((some (y345 ++ bt310.2.2.2.1 : List (S50))).bind fun y348 => (if y348.length + bt320.2.2.2.1.length < 8796093022208 then ((handshakerlaw18_Refs.f kj36 (y348 ++ bt320.2.2.2.1)).bind fun t354 => ((handshakerref18_List.f kj36 t342 t354).bind fun t357 => (if t357 = true then ((handshakerlaw18_awake.f kj36).bind fun t358 => (some t358)) else (none)))) else (none))) else (none)))) else (none))))) else (none)) else (none)) else ((handshakerlaw18_awake.f kj36).bind fun t330 => (some t330)))))) = some r := by rw [if_neg (show ¬ (false = true) by decide)] at H; exact H
          clear H
          have H := H1
          clear H1
          replace H := Option.bind_eq_some_iff.mp H
          obtain ⟨⟨t300, t301, t302, t305, t308⟩, A580, H⟩ := H
          replace H : ((sema_Give.f kj36 a0_0 a0_1 l0_2 (wrap64 (1 + (wrap64 (Int.tmod a2 50))))).bind fun bt310 => ((sema_Give.f kj36 bt310.1 bt310.2.1 bt310.2.2.1 (wrap64 (1 + (wrap64 (Int.tmod a3 50))))).bind fun bt320 => (if t308 = 0 then (if bt310.2.2.2.2 = 0 then (if bt320.2.2.2.2 = 0 then ((handshakerlaw18_Ref.f kj36 t300 t301 t302).bind fun bt331 => ((handshakerlaw18_Ref.f kj36 bt320.1 bt320.2.1 bt320.2.2.1).bind fun bt336 => ((handshakerref18_Same.f kj36 bt331.1 bt331.2.1 bt331.2.2 bt336.1 bt336.2.1 bt336.2.2).bind fun t341 => (if t341 = true then ((handshakerlaw18_Refs.f kj36 t305).bind fun t342 => ((some (([] : List (S50)) : List (S50))).bind fun y345 => (if y345.length + bt310.2.2.2.1.length < 8796093022208 then ((some (y345 ++ bt310.2.2.2.1 : List (S50))).bind fun y348 => (if y348.length + bt320.2.2.2.1.length < 8796093022208 then ((handshakerlaw18_Refs.f kj36 (y348 ++ bt320.2.2.2.1)).bind fun t354 => ((handshakerref18_List.f kj36 t342 t354).bind fun t357 => (if t357 = true then ((handshakerlaw18_awake.f kj36).bind fun t358 => (some t358)) else (none)))) else (none))) else (none)))) else (none))))) else (none)) else (none)) else ((handshakerlaw18_awake.f kj36).bind fun t330 => (some t330))))) = some r := H
          have A58 := Aside0.mk A580
          clear A580
          replace H := Option.bind_eq_some_iff.mp H
          obtain ⟨⟨t310, t311, t312, t315, t318⟩, A590, H⟩ := H
          replace H : ((sema_Give.f kj36 t310 t311 t312 (wrap64 (1 + (wrap64 (Int.tmod a3 50))))).bind fun bt320 => (if t308 = 0 then (if t318 = 0 then (if bt320.2.2.2.2 = 0 then ((handshakerlaw18_Ref.f kj36 t300 t301 t302).bind fun bt331 => ((handshakerlaw18_Ref.f kj36 bt320.1 bt320.2.1 bt320.2.2.1).bind fun bt336 => ((handshakerref18_Same.f kj36 bt331.1 bt331.2.1 bt331.2.2 bt336.1 bt336.2.1 bt336.2.2).bind fun t341 => (if t341 = true then ((handshakerlaw18_Refs.f kj36 t305).bind fun t342 => ((some (([] : List (S50)) : List (S50))).bind fun y345 => (if y345.length + t315.length < 8796093022208 then ((some (y345 ++ t315 : List (S50))).bind fun y348 => (if y348.length + bt320.2.2.2.1.length < 8796093022208 then ((handshakerlaw18_Refs.f kj36 (y348 ++ bt320.2.2.2.1)).bind fun t354 => ((handshakerref18_List.f kj36 t342 t354).bind fun t357 => (if t357 = true then ((handshakerlaw18_awake.f kj36).bind fun t358 => (some t358)) else (none)))) else (none))) else (none)))) else (none))))) else (none)) else (none)) else ((handshakerlaw18_awake.f kj36).bind fun t330 => (some t330)))) = some r := H
          have A59 := Aside0.mk A590
          clear A590
          replace H := Option.bind_eq_some_iff.mp H
          obtain ⟨⟨t320, t321, t322, t325, t328⟩, A600, H⟩ := H
          replace H : (if t308 = 0 then (if t318 = 0 then (if t328 = 0 then ((handshakerlaw18_Ref.f kj36 t300 t301 t302).bind fun bt331 => ((handshakerlaw18_Ref.f kj36 t320 t321 t322).bind fun bt336 => ((handshakerref18_Same.f kj36 bt331.1 bt331.2.1 bt331.2.2 bt336.1 bt336.2.1 bt336.2.2).bind fun t341 => (if t341 = true then ((handshakerlaw18_Refs.f kj36 t305).bind fun t342 => ((some (([] : List (S50)) : List (S50))).bind fun y345 => (if y345.length + t315.length < 8796093022208 then ((some (y345 ++ t315 : List (S50))).bind fun y348 => (if y348.length + t325.length < 8796093022208 then ((handshakerlaw18_Refs.f kj36 (y348 ++ t325)).bind fun t354 => ((handshakerref18_List.f kj36 t342 t354).bind fun t357 => (if t357 = true then ((handshakerlaw18_awake.f kj36).bind fun t358 => (some t358)) else (none)))) else (none))) else (none)))) else (none))))) else (none)) else (none)) else ((handshakerlaw18_awake.f kj36).bind fun t330 => (some t330))) = some r := H
          have A60 := Aside0.mk A600
          clear A600
          by_cases c61 : t308 = 0
          ·rw [if_pos c61] at H
           have c61b0 : (t308 == 0) = true := beq_iff_eq.mpr c61
           have c61b1 : (t308 != 0) = false := bne_eq_false_iff_eq.mpr c61
           clear c61
           by_cases c62 : t318 = 0
           ·rw [if_pos c62] at H
            have c62b0 : (t318 == 0) = true := beq_iff_eq.mpr c62
            have c62b1 : (t318 != 0) = false := bne_eq_false_iff_eq.mpr c62
            clear c62
            by_cases c63 : t328 = 0
            ·rw [if_pos c63] at H
             have c63b0 : (t328 == 0) = true := beq_iff_eq.mpr c63
             have c63b1 : (t328 != 0) = false := bne_eq_false_iff_eq.mpr c63
             clear c63
             replace H := Option.bind_eq_some_iff.mp H
             obtain ⟨⟨t331, t332, t333⟩, A640, H⟩ := H
             replace H : ((handshakerlaw18_Ref.f kj36 t320 t321 t322).bind fun bt336 => ((handshakerref18_Same.f kj36 t331 t332 t333 bt336.1 bt336.2.1 bt336.2.2).bind fun t341 => (if t341 = true then ((handshakerlaw18_Refs.f kj36 t305).bind fun t342 => ((some (([] : List (S50)) : List (S50))).bind fun y345 => (if y345.length + t315.length < 8796093022208 then ((some (y345 ++ t315 : List (S50))).bind fun y348 => (if y348.length + t325.length < 8796093022208 then ((handshakerlaw18_Refs.f kj36 (y348 ++ t325)).bind fun t354 => ((handshakerref18_List.f kj36 t342 t354).bind fun t357 => (if t357 = true then ((handshakerlaw18_awake.f kj36).bind fun t358 => (some t358)) else (none)))) else (none))) else (none)))) else (none)))) = some r := H
             have A64 := Aside0.mk A640
             clear A640
             replace H := Option.bind_eq_some_iff.mp H
             obtain ⟨⟨t336, t337, t338⟩, A650, H⟩ := H
             replace H : ((handshakerref18_Same.f kj36 t331 t332 t333 t336 t337 t338).bind fun t341 => (if t341 = true then ((handshakerlaw18_Refs.f kj36 t305).bind fun t342 => ((some (([] : List (S50)) : List (S50))).bind fun y345 => (if y345.length + t315.length < 8796093022208 then ((some (y345 ++ t315 : List (S50))).bind fun y348 => (if y348.length + t325.length < 8796093022208 then ((handshakerlaw18_Refs.f kj36 (y348 ++ t325)).bind fun t354 => ((handshakerref18_List.f kj36 t342 t354).bind fun t357 => (if t357 = true then ((handshakerlaw18_awake.f kj36).bind fun t358 => (some t358)) else (none)))) else (none))) else (none)))) else (none))) = some r := H
             have A65 := Aside0.mk A650
             clear A650
             replace H := Option.bind_eq_some_iff.mp H
             obtain ⟨t341, A660, H⟩ := H
             replace H : (if t341 = true then ((handshakerlaw18_Refs.f kj36 t305).bind fun t342 => ((some (([] : List (S50)) : List (S50))).bind fun y345 => (if y345.length + t315.length < 8796093022208 then ((some (y345 ++ t315 : List (S50))).bind fun y348 => (if y348.length + t325.length < 8796093022208 then ((handshakerlaw18_Refs.f kj36 (y348 ++ t325)).bind fun t354 => ((handshakerref18_List.f kj36 t342 t354).bind fun t357 => (if t357 = true then ((handshakerlaw18_awake.f kj36).bind fun t358 => (some t358)) else (none)))) else (none))) else (none)))) else (none)) = some r := H
             have A66 := Aside0.mk A660
             clear A660
             by_cases c67 : t341 = true
             ·subst c67
              have H1 : ((handshakerlaw18_Refs.f kj36 t305).bind fun t342 => ((some (([] : List (S50)) : List (S50))).bind fun y345 => (if y345.length + t315.length < 8796093022208 then ((some (y345 ++ t315 : List (S50))).bind fun y348 => (if y348.length + t325.length < 8796093022208 then ((handshakerlaw18_Refs.f kj36 (y348 ++ t325)).bind fun t354 => ((handshakerref18_List.f kj36 t342 t354).bind fun t357 => (if t357 = true then ((handshakerlaw18_awake.f kj36).bind fun t358 => (some t358)) else (none)))) else (none))) else (none)))) = some r := by rw [if_pos rfl] at H; exact H
              clear H
              have H := H1
              clear H1
              replace H := Option.bind_eq_some_iff.mp H
              obtain ⟨t342, A680, H⟩ := H
              replace H : ((some (([] : List (S50)) : List (S50))).bind fun y345 => (if y345.length + t315.length < 8796093022208 then ((some (y345 ++ t315 : List (S50))).bind fun y348 => (if y348.length + t325.length < 8796093022208 then ((handshakerlaw18_Refs.f kj36 (y348 ++ t325)).bind fun t354 => ((handshakerref18_List.f kj36 t342 t354).bind fun t357 => (if t357 = true then ((handshakerlaw18_awake.f kj36).bind fun t358 => (some t358)) else (none)))) else (none))) else (none))) = some r := H
              have A68 := Aside0.mk A680
              clear A680
              obtain ⟨y345, hy345⟩ : ∃ y_ : List (S50), y_ = (([] : List (S50))) := ⟨_, rfl⟩
              replace H : (if y345.length + t315.length < 8796093022208 then ((some (y345 ++ t315 : List (S50))).bind fun y348 => (if y348.length + t325.length < 8796093022208 then ((handshakerlaw18_Refs.f kj36 (y348 ++ t325)).bind fun t354 => ((handshakerref18_List.f kj36 t342 t354).bind fun t357 => (if t357 = true then ((handshakerlaw18_awake.f kj36).bind fun t358 => (some t358)) else (none)))) else (none))) else (none)) = some r := by first | (rw [hy345]; with_reducible exact H) | (have H2_ := (Option.bind_some _ _).symm.trans H; rw [hy345]; with_reducible exact H2_) | (have H2_ := (Option.bind_some _ _).symm.trans H; with_reducible exact H2_) | with_reducible exact H | (rw [hy345]; exact H) | exact H
              have Ny345 := Aside0.mk hy345
              clear hy345
              by_cases c69 : y345.length + t315.length < 8796093022208
              ·rw [if_pos c69] at H
               have LMc69 := Aside0.mk c69
               clear c69
               obtain ⟨y348, hy348⟩ : ∃ y_ : List (S50), y_ = (y345 ++ t315) := ⟨_, rfl⟩
               replace H : (if y348.length + t325.length < 8796093022208 then ((handshakerlaw18_Refs.f kj36 (y348 ++ t325)).bind fun t354 => ((handshakerref18_List.f kj36 t342 t354).bind fun t357 => (if t357 = true then ((handshakerlaw18_awake.f kj36).bind fun t358 => (some t358)) else (none)))) else (none)) = some r := by first | (rw [hy348]; with_reducible exact H) | (have H2_ := (Option.bind_some _ _).symm.trans H; rw [hy348]; with_reducible exact H2_) | (have H2_ := (Option.bind_some _ _).symm.trans H; with_reducible exact H2_) | with_reducible exact H | (rw [hy348]; exact H) | exact H
               have Ny348 := Aside0.mk hy348
               clear hy348
               by_cases c70 : y348.length + t325.length < 8796093022208
               ·rw [if_pos c70] at H
                have LMc70 := Aside0.mk c70
                clear c70
                obtain ⟨y351, hy351⟩ : ∃ y_ : List (S50), y_ = (y348 ++ t325) := ⟨_, rfl⟩
                replace H : ((handshakerlaw18_Refs.f kj36 y351).bind fun t354 => ((handshakerref18_List.f kj36 t342 t354).bind fun t357 => (if t357 = true then ((handshakerlaw18_awake.f kj36).bind fun t358 => (some t358)) else (none)))) = some r := by first | (rw [hy351]; with_reducible exact H) | (have H2_ := (Option.bind_some _ _).symm.trans H; rw [hy351]; with_reducible exact H2_) | (have H2_ := (Option.bind_some _ _).symm.trans H; with_reducible exact H2_) | with_reducible exact H | (rw [hy351]; exact H) | exact H
                have Ny351 := Aside0.mk hy351
                clear hy351
                replace H := Option.bind_eq_some_iff.mp H
                obtain ⟨t354, A710, H⟩ := H
                replace H : ((handshakerref18_List.f kj36 t342 t354).bind fun t357 => (if t357 = true then ((handshakerlaw18_awake.f kj36).bind fun t358 => (some t358)) else (none))) = some r := H
                have A71 := Aside0.mk A710
                clear A710
                replace H := Option.bind_eq_some_iff.mp H
                obtain ⟨t357, A720, H⟩ := H
                replace H : (if t357 = true then ((handshakerlaw18_awake.f kj36).bind fun t358 => (some t358)) else (none)) = some r := H
                have A72 := Aside0.mk A720
                clear A720
                by_cases c73 : t357 = true
                ·subst c73
                 have H1 : ((handshakerlaw18_awake.f kj36).bind fun t358 => (some t358)) = some r := by rw [if_pos rfl] at H; exact H
                 clear H
                 have H := H1
                 clear H1
                 replace H := Option.bind_eq_some_iff.mp H
                 obtain ⟨t358, A740, H⟩ := H
                 replace H : (some t358) = some r := H
                 have A74 := Aside0.mk A740
                 clear A740
                 obtain rfl := Option.some.inj H
                 have hnb75 := NB266_278.out
                 have hnc75 := NB278_266.out
                 have hcz76_0 : wc.cell? ⟨gb266, 0, none⟩ = some (.int .i64 a0_0) := (blk_cell BK266.out 0).trans rfl
                 have hcz76_1 : wc.cell? ⟨gb266, 1, none⟩ = some (.int .i64 a0_1) := (blk_cell BK266.out 1).trans rfl
                 have hcz76_2 : wc.cell? ⟨gb266, 2, none⟩ = some (.slice A0_2 l0_2.length c0_2) := (blk_cell BK266.out 2).trans rfl
                 have hfz76_0 := blk_frozen BK266.out 0
                 have hfz76_1 := blk_frozen BK266.out 1
                 have hfz76_2 := blk_frozen BK266.out 2
                 try go_wp2_with (first | ((with_reducible refine gate_callee (f := 13) rfl ?_); refine goesL_ (some 87) rfl rfl Try.func13 (by kernel_rfl) rfl #[.agg #[.int .i64 a0_0, .int .i64 a0_1, .slice A0_2 l0_2.length c0_2], .int .i64 (wrap64 ((wrap64 (1 + (wrap64 (Int.tmod a2 50)))) + (wrap64 (1 + (wrap64 (Int.tmod a3 50))))))] rfl zm ?_; (with_reducible refine (sema_Give.calls kj36 a0_0 a0_1 (fun k_ => k_ < w.heap.size) _ _ l0_2 (wrap64 ((wrap64 (1 + (wrap64 (Int.tmod a2 50)))) + (wrap64 (1 + (wrap64 (Int.tmod a3 50)))))) t300 t301 t302 t305 t308 _ ?side1 A58.out).mono ?_); (case side1 => exact Kd.V_mk HC0_2.out (Kd.F_below (Kd.C_F k50_heap HR0_2.out) (zc2 HB GE266 GE278))); rintro e w77 ⟨v303, v306, rfl, ho0, ho1, hb⟩; refine ⟨_, rfl, ?_⟩; have n0_ := Aside0.mk (Kd.V_elder' (zV HO_279002) (Kd.R_base ho1) hb); have n1_ := Aside0.mk (Kd.V_lower (Kd.V_mono (ok' := fun k_ => some k_ ≠ (v306 : Value).ownBlock ∧ k_ ≠ gb266 ∧ k_ ≠ gb278) ho0 (fun k_ hk_ => ⟨hk_.2, Or.elim hk_.1 (fun hs_ => fun e_ => Nat.not_le.2 hs_ (by rw [e_]; exact GW266.out)) (fun hn_ => (Kd.freshB (g := gb266) (o := .cells #[.int .i64 a0_0, .int .i64 a0_1, .slice A0_2 l0_2.length c0_2] 24 (0, 0)) (zb BK266) k_ hn_)), Or.elim hk_.1 (fun hs_ => fun e_ => Nat.not_le.2 hs_ (by rw [e_]; exact GW278.out)) (fun hn_ => (Kd.freshB (g := gb278) (o := .cells #[.int .i64 t269, .int .i64 t270, .slice Ao21 t271.length co21] 24 (0, 0)) (zb BK278) k_ hn_))⟩)) (below_size (zc2 HB GE266 GE278))); have n2_ := Aside0.mk (Kd.R_lower (Kd.R_mono (ok' := fun k_ => True) ho1 (fun _ hk_ => trivial)) (below_size (zc2 HB GE266 GE278))); have n3_ := Aside0.mk (blk_below (g := gb266) (o := .cells #[.int .i64 a0_0, .int .i64 a0_1, .slice A0_2 l0_2.length c0_2] 24 (0, 0)) (zb BK266) hb); have n4_ := Aside0.mk (blk_below (g := gb278) (o := .cells #[.int .i64 t269, .int .i64 t270, .slice Ao21 t271.length co21] 24 (0, 0)) (zb BK278) hb); have n5_ := Aside0.mk (below_step (zc2 HB GE266 GE278) hb); clear HO_279002; clear BK266; clear BK278; clear HB; have HO_279002 := n0_; have HO304 := n1_; have HO307 := n2_; have BK266 := n3_; have BK278 := n4_; have HB := n5_; clear n0_ n1_ n2_ n3_ n4_ n5_; (try clear hb); (try clear hb2); (try clear hk); (try clear hi); (try clear ho0); (try clear ho1)) | ((with_reducible refine gate_dst (N := 17) rfl ?_); (try (refine gate_guard (by rfl) ?_; dsimp only)); refine box_event ?hg (N := 17) ?hd (cs := #[.int .i64 0, .int .i64 0, .slice none 0 0]) (t := 24) ?hr ?_; (case hd => rfl); (case hg => rfl); (case hr => first | (go_simp; done) | (go_simp; rfl)); intro gb309 hg w78 hbox hb; have n0_ := Aside0.mk (Kd.V_below (Kd.V_elderB (zV HO_279002) gb309 (Nat.le_of_eq hg.symm)) hb); have n1_ := Aside0.mk (Kd.V_below (Kd.V_elderB (zV HO304) gb309 (Nat.le_of_eq hg.symm)) hb); have n2_ := Aside0.mk (Kd.R_below (zR HO307) hb); have n3_ := Aside0.mk (blk_below (g := gb266) (o := .cells #[.int .i64 a0_0, .int .i64 a0_1, .slice A0_2 l0_2.length c0_2] 24 (0, 0)) (zb BK266) hb); have n4_ := Aside0.mk (blk_below (g := gb278) (o := .cells #[.int .i64 t269, .int .i64 t270, .slice Ao21 t271.length co21] 24 (0, 0)) (zb BK278) hb); have n5_ := Aside0.mk (below_step (zc2 HB GE266 GE278) hb); have n6_ := Aside0.mk (hbox); have n7_ := Aside0.mk ((by rw [hg]; exact (below_size (zc2 HB GE266 GE278)) : w.heap.size ≤ gb309)); have n8_ := Aside0.mk ((by rw [hg]; exact (below_size (zc2 HB GE266 GE278)) : w.heap.size ≤ gb309)); have n9_ := Aside0.mk ((by rw [hg]; exact Nat.ne_of_lt (blk_lt (g := gb266) (o := .cells #[.int .i64 a0_0, .int .i64 a0_1, .slice A0_2 l0_2.length c0_2] 24 (0, 0)) (zb BK266)) : gb266 ≠ gb309)); have n10_ := Aside0.mk ((by rw [hg]; exact Nat.ne_of_gt (blk_lt (g := gb266) (o := .cells #[.int .i64 a0_0, .int .i64 a0_1, .slice A0_2 l0_2.length c0_2] 24 (0, 0)) (zb BK266)) : gb309 ≠ gb266)); have n11_ := Aside0.mk ((by rw [hg]; exact Nat.ne_of_lt (blk_lt (g := gb278) (o := .cells #[.int .i64 t269, .int .i64 t270, .slice Ao21 t271.length co21] 24 (0, 0)) (zb BK278)) : gb278 ≠ gb309)); have n12_ := Aside0.mk ((by rw [hg]; exact Nat.ne_of_gt (blk_lt (g := gb278) (o := .cells #[.int .i64 t269, .int .i64 t270, .slice Ao21 t271.length co21] 24 (0, 0)) (zb BK278)) : gb309 ≠ gb278)); clear HO_279002; clear HO304; clear HO307; clear BK266; clear BK278; clear HB; have HO_279002 := n0_; have HO304 := n1_; have HO307 := n2_; have BK266 := n3_; have BK278 := n4_; have HB := n5_; have BK309 := n6_; have GW309 := n7_; have GE309 := n8_; have NB266_309 := n9_; have NB309_266 := n10_; have NB278_309 := n11_; have NB309_278 := n12_; clear n0_ n1_ n2_ n3_ n4_ n5_ n6_ n7_ n8_ n9_ n10_ n11_ n12_; clear hb hbox hg; have hnb79 := NB309_266.out; have hnc79 := NB266_309.out; have hnb80 := NB309_278.out; have hnc80 := NB278_309.out; have hcz81_0 : w78.cell? ⟨gb309, 0, none⟩ = some (.int .i64 0) := (blk_cell BK309.out 0).trans rfl; have hcz81_1 : w78.cell? ⟨gb309, 1, none⟩ = some (.int .i64 0) := (blk_cell BK309.out 1).trans rfl; have hcz81_2 : w78.cell? ⟨gb309, 2, none⟩ = some (.slice none 0 0) := (blk_cell BK309.out 2).trans rfl; have hfz81_0 := blk_frozen BK309.out 0; have hfz81_1 := blk_frozen BK309.out 1; have hfz81_2 := blk_frozen BK309.out 2; obtain ⟨Ao82, co82, eo82⟩ := Kd.V_slice HO304.out; subst eo82) | ((with_reducible refine gate_store (t := 24) (p := 17) rfl ?_); refine store_event (t := 24) (p := 17) (v := ?vo_w83) (w1 := (((w78.setCell ⟨gb309, 0, none⟩ (.int .i64 t300)).setCell ⟨gb309, 1, none⟩ (.int .i64 t301)).setCell ⟨gb309, 2, none⟩ (.slice Ao82 t302.length co82))) ?hg ?ho ?hn ?hr ?_; (case ho => rfl); (case hg => rfl); (case hn => rfl); (case hr => first | (go_simp; done) | (go_simp; rfl)); intro w83 hw; have n0_ : Aside0 (Kd.V k50 50 w83 w.heap.size (fun k_ => some k_ ≠ (v306 : Value).ownBlock ∧ k_ ≠ gb266 ∧ k_ ≠ gb278 ∧ k_ ≠ gb309) (.slice Ao21 t271.length co21) t271) := ⟨(by rw [hw]; exact (by (with_reducible repeat (first | apply Kd.V_alloc | apply Kd.V_drewN | apply Kd.V_drew)); exact Kd.V_mono (Kd.V_far (p := ⟨gb309, 2, none⟩) (Kd.V_far (p := ⟨gb309, 1, none⟩) (Kd.V_far (p := ⟨gb309, 0, none⟩) (Kd.V_mono HO_279002.out (fun k_ hk => (⟨hk, hk.2⟩ : _ ∧ k_ ≠ gb309))) (fun _ hk => hk.2) (.int .i64 t300)) (fun _ hk => hk.2) (.int .i64 t301)) (fun _ hk => hk.2) (.slice Ao82 t302.length co82)) (fun _ hk => ⟨hk.1.1.2, ⟨hk.1.1.1.1, ⟨hk.1.1.1.2, hk.1.2⟩⟩⟩)))⟩; have n1_ : Aside0 (Kd.V k50 50 w83 w.heap.size (fun k_ => some k_ ≠ (v306 : Value).ownBlock ∧ k_ ≠ gb266 ∧ k_ ≠ gb278 ∧ k_ ≠ gb309) (.slice Ao82 t302.length co82) t302) := ⟨(by rw [hw]; exact (by (with_reducible repeat (first | apply Kd.V_alloc | apply Kd.V_drewN | apply Kd.V_drew)); exact Kd.V_mono (Kd.V_far (p := ⟨gb309, 2, none⟩) (Kd.V_far (p := ⟨gb309, 1, none⟩) (Kd.V_far (p := ⟨gb309, 0, none⟩) (Kd.V_mono HO304.out (fun k_ hk => (⟨hk, hk.2⟩ : _ ∧ k_ ≠ gb309))) (fun _ hk => hk.2) (.int .i64 t300)) (fun _ hk => hk.2) (.int .i64 t301)) (fun _ hk => hk.2) (.slice Ao82 t302.length co82)) (fun _ hk => ⟨hk.1.1.1, ⟨hk.1.1.2.1, ⟨hk.1.1.2.2, hk.1.2⟩⟩⟩)))⟩; have n2_ : Aside0 (Kd.R k50 50 w83 w.heap.size (fun _ => True) v306 t305) := ⟨(by rw [hw]; exact (by (with_reducible repeat (first | apply Kd.R_alloc | apply Kd.R_drewN | apply Kd.R_drew)); exact Kd.R_mono (Kd.R_far (p := ⟨gb309, 2, none⟩) (Kd.R_far (p := ⟨gb309, 1, none⟩) (Kd.R_far (p := ⟨gb309, 0, none⟩) (Kd.R_types HO307.out BK309.out (by decide)) (fun _ hk => hk.2) (.int .i64 t300)) (fun _ hk => hk.2) (.int .i64 t301)) (fun _ hk => hk.2) (.slice Ao82 t302.length co82)) (fun _ hk => trivial)))⟩; have n3_ : Aside0 (w83.heap[gb266]? = some (.cells #[.int .i64 a0_0, .int .i64 a0_1, .slice A0_2 l0_2.length c0_2] 24 (0, 0))) := ⟨(by rw [hw]; exact (by (with_reducible repeat (first | refine blk_drewN ?_ _ | refine blk_drew ?_ | refine blk_alloc ?_ _)); refine blk_far ?_ NB266_309.out _; (with_reducible repeat (first | refine blk_drewN ?_ _ | refine blk_drew ?_ | refine blk_alloc ?_ _)); refine blk_far ?_ NB266_309.out _; (with_reducible repeat (first | refine blk_drewN ?_ _ | refine blk_drew ?_ | refine blk_alloc ?_ _)); refine blk_far ?_ NB266_309.out _; (with_reducible repeat (first | refine blk_drewN ?_ _ | refine blk_drew ?_ | refine blk_alloc ?_ _)); exact BK266.out))⟩; have n4_ : Aside0 (w83.heap[gb278]? = some (.cells #[.int .i64 t269, .int .i64 t270, .slice Ao21 t271.length co21] 24 (0, 0))) := ⟨(by rw [hw]; exact (by (with_reducible repeat (first | refine blk_drewN ?_ _ | refine blk_drew ?_ | refine blk_alloc ?_ _)); refine blk_far ?_ NB278_309.out _; (with_reducible repeat (first | refine blk_drewN ?_ _ | refine blk_drew ?_ | refine blk_alloc ?_ _)); refine blk_far ?_ NB278_309.out _; (with_reducible repeat (first | refine blk_drewN ?_ _ | refine blk_drew ?_ | refine blk_alloc ?_ _)); refine blk_far ?_ NB278_309.out _; (with_reducible repeat (first | refine blk_drewN ?_ _ | refine blk_drew ?_ | refine blk_alloc ?_ _)); exact BK278.out))⟩; have n5_ : Aside0 (w83.heap[gb309]? = some (.cells #[.int .i64 t300, .int .i64 t301, .slice Ao82 t302.length co82] 24 (0, 0))) := ⟨(by rw [hw]; exact (by (with_reducible repeat (first | refine blk_drewN ?_ _ | refine blk_drew ?_ | refine blk_alloc ?_ _)); refine blk_put (cs := #[.int .i64 t300, .int .i64 t301, .slice none 0 0]) ?_ 2 _ rfl; (with_reducible repeat (first | refine blk_drewN ?_ _ | refine blk_drew ?_ | refine blk_alloc ?_ _)); refine blk_put (cs := #[.int .i64 t300, .int .i64 0, .slice none 0 0]) ?_ 1 _ rfl; (with_reducible repeat (first | refine blk_drewN ?_ _ | refine blk_drew ?_ | refine blk_alloc ?_ _)); refine blk_put (cs := #[.int .i64 0, .int .i64 0, .slice none 0 0]) ?_ 0 _ rfl; (with_reducible repeat (first | refine blk_drewN ?_ _ | refine blk_drew ?_ | refine blk_alloc ?_ _)); exact BK309.out))⟩; have n6_ : Aside0 (Below w.heap.size w w83) := ⟨(by rw [hw]; exact (zc3 HB GE266 GE278 GE309))⟩; clear hw; clear HO_279002; clear HO304; clear HO307; clear BK266; clear BK278; clear BK309; clear HB; have HO_279002 := n0_; have HO304 := n1_; have HO307 := n2_; have BK266 := n3_; have BK278 := n4_; have BK309 := n5_; have HB := n6_; clear n0_ n1_ n2_ n3_ n4_ n5_ n6_; have hcz84_0 : w83.cell? ⟨gb266, 0, none⟩ = some (.int .i64 a0_0) := (blk_cell BK266.out 0).trans rfl; have hcz84_1 : w83.cell? ⟨gb266, 1, none⟩ = some (.int .i64 a0_1) := (blk_cell BK266.out 1).trans rfl; have hcz84_2 : w83.cell? ⟨gb266, 2, none⟩ = some (.slice A0_2 l0_2.length c0_2) := (blk_cell BK266.out 2).trans rfl; have hfz84_0 := blk_frozen BK266.out 0; have hfz84_1 := blk_frozen BK266.out 1; have hfz84_2 := blk_frozen BK266.out 2) | ((with_reducible refine gate_callee (f := 13) rfl ?_); refine goesL_ (some 94) rfl rfl Try.func13 (by kernel_rfl) rfl #[.agg #[.int .i64 a0_0, .int .i64 a0_1, .slice A0_2 l0_2.length c0_2], .int .i64 (wrap64 (1 + (wrap64 (Int.tmod a2 50))))] rfl zm ?_; (with_reducible refine (sema_Give.calls kj36 a0_0 a0_1 (fun k_ => k_ < w.heap.size) _ _ l0_2 (wrap64 (1 + (wrap64 (Int.tmod a2 50)))) t310 t311 t312 t315 t318 _ ?side1 A59.out).mono ?_); (case side1 => exact Kd.V_mk HC0_2.out (Kd.F_below (Kd.C_F k50_heap HR0_2.out) (zc3 HB GE266 GE278 GE309))); rintro e w85 ⟨v313, v316, rfl, ho0, ho1, hb⟩; refine ⟨_, rfl, ?_⟩; have n0_ := Aside0.mk (Kd.V_elder' (zV HO_279002) (Kd.R_base ho1) hb); have n1_ := Aside0.mk (Kd.V_elder' (zV HO304) (Kd.R_base ho1) hb); have n2_ := Aside0.mk (Kd.R_elder' (zR HO307) (Kd.R_base ho1) hb); have n3_ := Aside0.mk (Kd.V_lower (Kd.V_mono (ok' := fun k_ => some k_ ≠ (v316 : Value).ownBlock ∧ some k_ ≠ (v306 : Value).ownBlock ∧ k_ ≠ gb266 ∧ k_ ≠ gb278 ∧ k_ ≠ gb309) ho0 (fun k_ hk_ => ⟨hk_.2, Or.elim hk_.1 (fun hs_ => fun e_ => Nat.not_le.2 hs_ (Kd.R_base HO307.out k_ e_.symm)) (fun hn_ => (Kd.fresh' (Kd.R_lt (zR HO307)) k_ hn_)), Or.elim hk_.1 (fun hs_ => fun e_ => Nat.not_le.2 hs_ (by rw [e_]; exact GW266.out)) (fun hn_ => (Kd.freshB (g := gb266) (o := .cells #[.int .i64 a0_0, .int .i64 a0_1, .slice A0_2 l0_2.length c0_2] 24 (0, 0)) (zb BK266) k_ hn_)), Or.elim hk_.1 (fun hs_ => fun e_ => Nat.not_le.2 hs_ (by rw [e_]; exact GW278.out)) (fun hn_ => (Kd.freshB (g := gb278) (o := .cells #[.int .i64 t269, .int .i64 t270, .slice Ao21 t271.length co21] 24 (0, 0)) (zb BK278) k_ hn_)), Or.elim hk_.1 (fun hs_ => fun e_ => Nat.not_le.2 hs_ (by rw [e_]; exact GW309.out)) (fun hn_ => (Kd.freshB (g := gb309) (o := .cells #[.int .i64 t300, .int .i64 t301, .slice Ao82 t302.length co82] 24 (0, 0)) (zb BK309) k_ hn_))⟩)) (below_size (zc3 HB GE266 GE278 GE309))); have n4_ := Aside0.mk (Kd.R_lower (Kd.R_new' (Kd.R_mono (ok' := fun k_ => True) ho1 (fun _ hk_ => trivial)) (Kd.R_lt (zR HO307))) (below_size (zc3 HB GE266 GE278 GE309))); have n5_ := Aside0.mk (blk_below (g := gb266) (o := .cells #[.int .i64 a0_0, .int .i64 a0_1, .slice A0_2 l0_2.length c0_2] 24 (0, 0)) (zb BK266) hb); have n6_ := Aside0.mk (blk_below (g := gb278) (o := .cells #[.int .i64 t269, .int .i64 t270, .slice Ao21 t271.length co21] 24 (0, 0)) (zb BK278) hb); have n7_ := Aside0.mk (blk_below (g := gb309) (o := .cells #[.int .i64 t300, .int .i64 t301, .slice Ao82 t302.length co82] 24 (0, 0)) (zb BK309) hb); have n8_ := Aside0.mk (below_step (zc3 HB GE266 GE278 GE309) hb); clear HO_279002; clear HO304; clear HO307; clear BK266; clear BK278; clear BK309; clear HB; have HO_279002 := n0_; have HO304 := n1_; have HO307 := n2_; have HO314 := n3_; have HO317 := n4_; have BK266 := n5_; have BK278 := n6_; have BK309 := n7_; have HB := n8_; clear n0_ n1_ n2_ n3_ n4_ n5_ n6_ n7_ n8_; (try clear hb); (try clear hb2); (try clear hk); (try clear hi); (try clear ho0); (try clear ho1)) | ((with_reducible refine gate_dst (N := 20) rfl ?_); (try (refine gate_guard (by rfl) ?_; dsimp only)); refine box_event ?hg (N := 20) ?hd (cs := #[.int .i64 0, .int .i64 0, .slice none 0 0]) (t := 24) ?hr ?_; (case hd => rfl); (case hg => rfl); (case hr => first | (go_simp; done) | (go_simp; rfl)); intro gb319 hg w86 hbox hb; have n0_ := Aside0.mk (Kd.V_below (Kd.V_elderB (zV HO_279002) gb319 (Nat.le_of_eq hg.symm)) hb); have n1_ := Aside0.mk (Kd.V_below (Kd.V_elderB (zV HO304) gb319 (Nat.le_of_eq hg.symm)) hb); have n2_ := Aside0.mk (Kd.R_below (zR HO307) hb); have n3_ := Aside0.mk (Kd.V_below (Kd.V_elderB (zV HO314) gb319 (Nat.le_of_eq hg.symm)) hb); have n4_ := Aside0.mk (Kd.R_below (zR HO317) hb); have n5_ := Aside0.mk (blk_below (g := gb266) (o := .cells #[.int .i64 a0_0, .int .i64 a0_1, .slice A0_2 l0_2.length c0_2] 24 (0, 0)) (zb BK266) hb); have n6_ := Aside0.mk (blk_below (g := gb278) (o := .cells #[.int .i64 t269, .int .i64 t270, .slice Ao21 t271.length co21] 24 (0, 0)) (zb BK278) hb); have n7_ := Aside0.mk (blk_below (g := gb309) (o := .cells #[.int .i64 t300, .int .i64 t301, .slice Ao82 t302.length co82] 24 (0, 0)) (zb BK309) hb); have n8_ := Aside0.mk (below_step (zc3 HB GE266 GE278 GE309) hb); have n9_ := Aside0.mk (hbox); have n10_ := Aside0.mk ((by rw [hg]; exact (below_size (zc3 HB GE266 GE278 GE309)) : w.heap.size ≤ gb319)); have n11_ := Aside0.mk ((by rw [hg]; exact (below_size (zc3 HB GE266 GE278 GE309)) : w.heap.size ≤ gb319)); have n12_ := Aside0.mk ((by rw [hg]; exact Nat.ne_of_lt (blk_lt (g := gb266) (o := .cells #[.int .i64 a0_0, .int .i64 a0_1, .slice A0_2 l0_2.length c0_2] 24 (0, 0)) (zb BK266)) : gb266 ≠ gb319)); have n13_ := Aside0.mk ((by rw [hg]; exact Nat.ne_of_gt (blk_lt (g := gb266) (o := .cells #[.int .i64 a0_0, .int .i64 a0_1, .slice A0_2 l0_2.length c0_2] 24 (0, 0)) (zb BK266)) : gb319 ≠ gb266)); have n14_ := Aside0.mk ((by rw [hg]; exact Nat.ne_of_lt (blk_lt (g := gb278) (o := .cells #[.int .i64 t269, .int .i64 t270, .slice Ao21 t271.length co21] 24 (0, 0)) (zb BK278)) : gb278 ≠ gb319)); have n15_ := Aside0.mk ((by rw [hg]; exact Nat.ne_of_gt (blk_lt (g := gb278) (o := .cells #[.int .i64 t269, .int .i64 t270, .slice Ao21 t271.length co21] 24 (0, 0)) (zb BK278)) : gb319 ≠ gb278)); have n16_ := Aside0.mk ((by rw [hg]; exact Nat.ne_of_lt (blk_lt (g := gb309) (o := .cells #[.int .i64 t300, .int .i64 t301, .slice Ao82 t302.length co82] 24 (0, 0)) (zb BK309)) : gb309 ≠ gb319)); have n17_ := Aside0.mk ((by rw [hg]; exact Nat.ne_of_gt (blk_lt (g := gb309) (o := .cells #[.int .i64 t300, .int .i64 t301, .slice Ao82 t302.length co82] 24 (0, 0)) (zb BK309)) : gb319 ≠ gb309)); clear HO_279002; clear HO304; clear HO307; clear HO314; clear HO317; clear BK266; clear BK278; clear BK309; clear HB; have HO_279002 := n0_; have HO304 := n1_; have HO307 := n2_; have HO314 := n3_; have HO317 := n4_; have BK266 := n5_; have BK278 := n6_; have BK309 := n7_; have HB := n8_; have BK319 := n9_; have GW319 := n10_; have GE319 := n11_; have NB266_319 := n12_; have NB319_266 := n13_; have NB278_319 := n14_; have NB319_278 := n15_; have NB309_319 := n16_; have NB319_309 := n17_; clear n0_ n1_ n2_ n3_ n4_ n5_ n6_ n7_ n8_ n9_ n10_ n11_ n12_ n13_ n14_ n15_ n16_ n17_; clear hb hbox hg; have hnb87 := NB319_266.out; have hnc87 := NB266_319.out; have hnb88 := NB319_278.out; have hnc88 := NB278_319.out; have hnb89 := NB319_309.out; have hnc89 := NB309_319.out; have hcz90_0 : w86.cell? ⟨gb319, 0, none⟩ = some (.int .i64 0) := (blk_cell BK319.out 0).trans rfl; have hcz90_1 : w86.cell? ⟨gb319, 1, none⟩ = some (.int .i64 0) := (blk_cell BK319.out 1).trans rfl; have hcz90_2 : w86.cell? ⟨gb319, 2, none⟩ = some (.slice none 0 0) := (blk_cell BK319.out 2).trans rfl; have hfz90_0 := blk_frozen BK319.out 0; have hfz90_1 := blk_frozen BK319.out 1; have hfz90_2 := blk_frozen BK319.out 2; obtain ⟨Ao91, co91, eo91⟩ := Kd.V_slice HO314.out; subst eo91) | ((with_reducible refine gate_store (t := 24) (p := 20) rfl ?_); refine store_event (t := 24) (p := 20) (v := ?vo_w92) (w1 := (((w86.setCell ⟨gb319, 0, none⟩ (.int .i64 t310)).setCell ⟨gb319, 1, none⟩ (.int .i64 t311)).setCell ⟨gb319, 2, none⟩ (.slice Ao91 t312.length co91))) ?hg ?ho ?hn ?hr ?_; (case ho => rfl); (case hg => rfl); (case hn => rfl); (case hr => first | (go_simp; done) | (go_simp; rfl)); intro w92 hw; have n0_ : Aside0 (Kd.V k50 50 w92 w.heap.size (fun k_ => some k_ ≠ (v306 : Value).ownBlock ∧ some k_ ≠ (v316 : Value).ownBlock ∧ k_ ≠ gb266 ∧ k_ ≠ gb278 ∧ k_ ≠ gb309 ∧ k_ ≠ gb319) (.slice Ao21 t271.length co21) t271) := ⟨(by rw [hw]; exact (by (with_reducible repeat (first | apply Kd.V_alloc | apply Kd.V_drewN | apply Kd.V_drew)); exact Kd.V_mono (Kd.V_far (p := ⟨gb319, 2, none⟩) (Kd.V_far (p := ⟨gb319, 1, none⟩) (Kd.V_far (p := ⟨gb319, 0, none⟩) (Kd.V_mono HO_279002.out (fun k_ hk => (⟨hk, hk.2⟩ : _ ∧ k_ ≠ gb319))) (fun _ hk => hk.2) (.int .i64 t310)) (fun _ hk => hk.2) (.int .i64 t311)) (fun _ hk => hk.2) (.slice Ao91 t312.length co91)) (fun _ hk => ⟨hk.1.1.1.1, ⟨hk.1.1.2, ⟨hk.1.1.1.2.1, ⟨hk.1.1.1.2.2.1, ⟨hk.1.1.1.2.2.2, hk.1.2⟩⟩⟩⟩⟩)))⟩; have n1_ : Aside0 (Kd.V k50 50 w92 w.heap.size (fun k_ => some k_ ≠ (v306 : Value).ownBlock ∧ some k_ ≠ (v316 : Value).ownBlock ∧ k_ ≠ gb266 ∧ k_ ≠ gb278 ∧ k_ ≠ gb309 ∧ k_ ≠ gb319) (.slice Ao82 t302.length co82) t302) := ⟨(by rw [hw]; exact (by (with_reducible repeat (first | apply Kd.V_alloc | apply Kd.V_drewN | apply Kd.V_drew)); exact Kd.V_mono (Kd.V_far (p := ⟨gb319, 2, none⟩) (Kd.V_far (p := ⟨gb319, 1, none⟩) (Kd.V_far (p := ⟨gb319, 0, none⟩) (Kd.V_mono HO304.out (fun k_ hk => (⟨hk, hk.2⟩ : _ ∧ k_ ≠ gb319))) (fun _ hk => hk.2) (.int .i64 t310)) (fun _ hk => hk.2) (.int .i64 t311)) (fun _ hk => hk.2) (.slice Ao91 t312.length co91)) (fun _ hk => ⟨hk.1.1.1.1, ⟨hk.1.1.2, ⟨hk.1.1.1.2.1, ⟨hk.1.1.1.2.2.1, ⟨hk.1.1.1.2.2.2, hk.1.2⟩⟩⟩⟩⟩)))⟩; have n2_ : Aside0 (Kd.R k50 50 w92 w.heap.size (fun k_ => some k_ ≠ (v316 : Value).ownBlock) v306 t305) := ⟨(by rw [hw]; exact (by (with_reducible repeat (first | apply Kd.R_alloc | apply Kd.R_drewN | apply Kd.R_drew)); exact Kd.R_mono (Kd.R_far (p := ⟨gb319, 2, none⟩) (Kd.R_far (p := ⟨gb319, 1, none⟩) (Kd.R_far (p := ⟨gb319, 0, none⟩) (Kd.R_types HO307.out BK319.out (by decide)) (fun _ hk => hk.2) (.int .i64 t310)) (fun _ hk => hk.2) (.int .i64 t311)) (fun _ hk => hk.2) (.slice Ao91 t312.length co91)) (fun _ hk => hk.1.2)))⟩; have n3_ : Aside0 (Kd.V k50 50 w92 w.heap.size (fun k_ => some k_ ≠ (v306 : Value).ownBlock ∧ some k_ ≠ (v316 : Value).ownBlock ∧ k_ ≠ gb266 ∧ k_ ≠ gb278 ∧ k_ ≠ gb309 ∧ k_ ≠ gb319) (.slice Ao91 t312.length co91) t312) := ⟨(by rw [hw]; exact (by (with_reducible repeat (first | apply Kd.V_alloc | apply Kd.V_drewN | apply Kd.V_drew)); exact Kd.V_mono (Kd.V_far (p := ⟨gb319, 2, none⟩) (Kd.V_far (p := ⟨gb319, 1, none⟩) (Kd.V_far (p := ⟨gb319, 0, none⟩) (Kd.V_mono HO314.out (fun k_ hk => (⟨hk, hk.2⟩ : _ ∧ k_ ≠ gb319))) (fun _ hk => hk.2) (.int .i64 t310)) (fun _ hk => hk.2) (.int .i64 t311)) (fun _ hk => hk.2) (.slice Ao91 t312.length co91)) (fun _ hk => ⟨hk.1.1.2.1, ⟨hk.1.1.1, ⟨hk.1.1.2.2.1, ⟨hk.1.1.2.2.2.1, ⟨hk.1.1.2.2.2.2, hk.1.2⟩⟩⟩⟩⟩)))⟩; have n4_ : Aside0 (Kd.R k50 50 w92 w.heap.size (fun k_ => some k_ ≠ (v306 : Value).ownBlock) v316 t315) := ⟨(by rw [hw]; exact (by (with_reducible repeat (first | apply Kd.R_alloc | apply Kd.R_drewN | apply Kd.R_drew)); exact Kd.R_mono (Kd.R_far (p := ⟨gb319, 2, none⟩) (Kd.R_far (p := ⟨gb319, 1, none⟩) (Kd.R_far (p := ⟨gb319, 0, none⟩) (Kd.R_types HO317.out BK319.out (by decide)) (fun _ hk => hk.2) (.int .i64 t310)) (fun _ hk => hk.2) (.int .i64 t311)) (fun _ hk => hk.2) (.slice Ao91 t312.length co91)) (fun _ hk => hk.1.2)))⟩; have n5_ : Aside0 (w92.heap[gb266]? = some (.cells #[.int .i64 a0_0, .int .i64 a0_1, .slice A0_2 l0_2.length c0_2] 24 (0, 0))) := ⟨(by rw [hw]; exact (by (with_reducible repeat (first | refine blk_drewN ?_ _ | refine blk_drew ?_ | refine blk_alloc ?_ _)); refine blk_far ?_ NB266_319.out _; (with_reducible repeat (first | refine blk_drewN ?_ _ | refine blk_drew ?_ | refine blk_alloc ?_ _)); refine blk_far ?_ NB266_319.out _; (with_reducible repeat (first | refine blk_drewN ?_ _ | refine blk_drew ?_ | refine blk_alloc ?_ _)); refine blk_far ?_ NB266_319.out _; (with_reducible repeat (first | refine blk_drewN ?_ _ | refine blk_drew ?_ | refine blk_alloc ?_ _)); exact BK266.out))⟩; have n6_ : Aside0 (w92.heap[gb278]? = some (.cells #[.int .i64 t269, .int .i64 t270, .slice Ao21 t271.length co21] 24 (0, 0))) := ⟨(by rw [hw]; exact (by (with_reducible repeat (first | refine blk_drewN ?_ _ | refine blk_drew ?_ | refine blk_alloc ?_ _)); refine blk_far ?_ NB278_319.out _; (with_reducible repeat (first | refine blk_drewN ?_ _ | refine blk_drew ?_ | refine blk_alloc ?_ _)); refine blk_far ?_ NB278_319.out _; (with_reducible repeat (first | refine blk_drewN ?_ _ | refine blk_drew ?_ | refine blk_alloc ?_ _)); refine blk_far ?_ NB278_319.out _; (with_reducible repeat (first | refine blk_drewN ?_ _ | refine blk_drew ?_ | refine blk_alloc ?_ _)); exact BK278.out))⟩; have n7_ : Aside0 (w92.heap[gb309]? = some (.cells #[.int .i64 t300, .int .i64 t301, .slice Ao82 t302.length co82] 24 (0, 0))) := ⟨(by rw [hw]; exact (by (with_reducible repeat (first | refine blk_drewN ?_ _ | refine blk_drew ?_ | refine blk_alloc ?_ _)); refine blk_far ?_ NB309_319.out _; (with_reducible repeat (first | refine blk_drewN ?_ _ | refine blk_drew ?_ | refine blk_alloc ?_ _)); refine blk_far ?_ NB309_319.out _; (with_reducible repeat (first | refine blk_drewN ?_ _ | refine blk_drew ?_ | refine blk_alloc ?_ _)); refine blk_far ?_ NB309_319.out _; (with_reducible repeat (first | refine blk_drewN ?_ _ | refine blk_drew ?_ | refine blk_alloc ?_ _)); exact BK309.out))⟩; have n8_ : Aside0 (w92.heap[gb319]? = some (.cells #[.int .i64 t310, .int .i64 t311, .slice Ao91 t312.length co91] 24 (0, 0))) := ⟨(by rw [hw]; exact (by (with_reducible repeat (first | refine blk_drewN ?_ _ | refine blk_drew ?_ | refine blk_alloc ?_ _)); refine blk_put (cs := #[.int .i64 t310, .int .i64 t311, .slice none 0 0]) ?_ 2 _ rfl; (with_reducible repeat (first | refine blk_drewN ?_ _ | refine blk_drew ?_ | refine blk_alloc ?_ _)); refine blk_put (cs := #[.int .i64 t310, .int .i64 0, .slice none 0 0]) ?_ 1 _ rfl; (with_reducible repeat (first | refine blk_drewN ?_ _ | refine blk_drew ?_ | refine blk_alloc ?_ _)); refine blk_put (cs := #[.int .i64 0, .int .i64 0, .slice none 0 0]) ?_ 0 _ rfl; (with_reducible repeat (first | refine blk_drewN ?_ _ | refine blk_drew ?_ | refine blk_alloc ?_ _)); exact BK319.out))⟩; have n9_ : Aside0 (Below w.heap.size w w92) := ⟨(by rw [hw]; exact (zc4 HB GE266 GE278 GE309 GE319))⟩; clear hw; clear HO_279002; clear HO304; clear HO307; clear HO314; clear HO317; clear BK266; clear BK278; clear BK309; clear BK319; clear HB; have HO_279002 := n0_; have HO304 := n1_; have HO307 := n2_; have HO314 := n3_; have HO317 := n4_; have BK266 := n5_; have BK278 := n6_; have BK309 := n7_; have BK319 := n8_; have HB := n9_; clear n0_ n1_ n2_ n3_ n4_ n5_ n6_ n7_ n8_ n9_; have hcz93_0 : w92.cell? ⟨gb319, 0, none⟩ = some (.int .i64 t310) := (blk_cell BK319.out 0).trans rfl; have hcz93_1 : w92.cell? ⟨gb319, 1, none⟩ = some (.int .i64 t311) := (blk_cell BK319.out 1).trans rfl; have hcz93_2 : w92.cell? ⟨gb319, 2, none⟩ = some (.slice Ao91 t312.length co91) := (blk_cell BK319.out 2).trans rfl; have hfz93_0 := blk_frozen BK319.out 0; have hfz93_1 := blk_frozen BK319.out 1; have hfz93_2 := blk_frozen BK319.out 2) | ((with_reducible refine gate_callee (f := 13) rfl ?_); refine goesL_ (some 101) rfl rfl Try.func13 (by kernel_rfl) rfl #[.agg #[.int .i64 t310, .int .i64 t311, .slice Ao91 t312.length co91], .int .i64 (wrap64 (1 + (wrap64 (Int.tmod a3 50))))] rfl zm ?_; (with_reducible refine (sema_Give.calls kj36 t310 t311 (fun k_ => (some k_ ≠ (v306 : Value).ownBlock ∧ (some k_ ≠ (v316 : Value).ownBlock ∧ (k_ ≠ gb266 ∧ (k_ ≠ gb278 ∧ (k_ ≠ gb309 ∧ k_ ≠ gb319)))))) _ _ t312 (wrap64 (1 + (wrap64 (Int.tmod a3 50)))) t320 t321 t322 t325 t328 _ ?side1 A60.out).mono ?_); (case side1 => exact HO314.out); rintro e w94 ⟨v323, v326, rfl, ho0, ho1, hb⟩; refine ⟨_, rfl, ?_⟩; have n0_ := Aside0.mk (Kd.V_elder' (zV HO_279002) (Kd.R_base ho1) hb); have n1_ := Aside0.mk (Kd.V_elder' (zV HO304) (Kd.R_base ho1) hb); have n2_ := Aside0.mk (Kd.R_elder' (zR HO307) (Kd.R_base ho1) hb); have n3_ := Aside0.mk (Kd.V_elder' (zV HO314) (Kd.R_base ho1) hb); have n4_ := Aside0.mk (Kd.R_elder' (zR HO317) (Kd.R_base ho1) hb); have n5_ := Aside0.mk (Kd.V_lower (Kd.V_mono (ok' := fun k_ => some k_ ≠ (v326 : Value).ownBlock ∧ some k_ ≠ (v306 : Value).ownBlock ∧ some k_ ≠ (v316 : Value).ownBlock ∧ k_ ≠ gb266 ∧ k_ ≠ gb278 ∧ k_ ≠ gb309 ∧ k_ ≠ gb319) ho0 (fun k_ hk_ => ⟨hk_.2, Or.elim hk_.1 (fun hs_ => hs_.1) (fun hn_ => (Kd.fresh' (Kd.R_lt (zR HO307)) k_ hn_)), Or.elim hk_.1 (fun hs_ => hs_.2.1) (fun hn_ => (Kd.fresh' (Kd.R_lt (zR HO317)) k_ hn_)), Or.elim hk_.1 (fun hs_ => hs_.2.2.1) (fun hn_ => (Kd.freshB (g := gb266) (o := .cells #[.int .i64 a0_0, .int .i64 a0_1, .slice A0_2 l0_2.length c0_2] 24 (0, 0)) (zb BK266) k_ hn_)), Or.elim hk_.1 (fun hs_ => hs_.2.2.2.1) (fun hn_ => (Kd.freshB (g := gb278) (o := .cells #[.int .i64 t269, .int .i64 t270, .slice Ao21 t271.length co21] 24 (0, 0)) (zb BK278) k_ hn_)), Or.elim hk_.1 (fun hs_ => hs_.2.2.2.2.1) (fun hn_ => (Kd.freshB (g := gb309) (o := .cells #[.int .i64 t300, .int .i64 t301, .slice Ao82 t302.length co82] 24 (0, 0)) (zb BK309) k_ hn_)), Or.elim hk_.1 (fun hs_ => hs_.2.2.2.2.2) (fun hn_ => (Kd.freshB (g := gb319) (o := .cells #[.int .i64 t310, .int .i64 t311, .slice Ao91 t312.length co91] 24 (0, 0)) (zb BK319) k_ hn_))⟩)) (below_size (zc4 HB GE266 GE278 GE309 GE319))); have n6_ := Aside0.mk (Kd.R_lower (Kd.R_new' (Kd.R_new' (Kd.R_mono (ok' := fun k_ => True) ho1 (fun _ hk_ => trivial)) (Kd.R_lt (zR HO307))) (Kd.R_lt (zR HO317))) (below_size (zc4 HB GE266 GE278 GE309 GE319))); have n7_ := Aside0.mk (blk_below (g := gb266) (o := .cells #[.int .i64 a0_0, .int .i64 a0_1, .slice A0_2 l0_2.length c0_2] 24 (0, 0)) (zb BK266) hb); have n8_ := Aside0.mk (blk_below (g := gb278) (o := .cells #[.int .i64 t269, .int .i64 t270, .slice Ao21 t271.length co21] 24 (0, 0)) (zb BK278) hb); have n9_ := Aside0.mk (blk_below (g := gb309) (o := .cells #[.int .i64 t300, .int .i64 t301, .slice Ao82 t302.length co82] 24 (0, 0)) (zb BK309) hb); have n10_ := Aside0.mk (blk_below (g := gb319) (o := .cells #[.int .i64 t310, .int .i64 t311, .slice Ao91 t312.length co91] 24 (0, 0)) (zb BK319) hb); have n11_ := Aside0.mk (below_step (zc4 HB GE266 GE278 GE309 GE319) hb); clear HO_279002; clear HO304; clear HO307; clear HO314; clear HO317; clear BK266; clear BK278; clear BK309; clear BK319; clear HB; have HO_279002 := n0_; have HO304 := n1_; have HO307 := n2_; have HO314 := n3_; have HO317 := n4_; have HO324 := n5_; have HO327 := n6_; have BK266 := n7_; have BK278 := n8_; have BK309 := n9_; have BK319 := n10_; have HB := n11_; clear n0_ n1_ n2_ n3_ n4_ n5_ n6_ n7_ n8_ n9_ n10_ n11_; (try clear hb); (try clear hb2); (try clear hk); (try clear hi); (try clear ho0); (try clear ho1)) | ((with_reducible refine gate_dst (N := 23) rfl ?_); (try (refine gate_guard (by rfl) ?_; dsimp only)); refine box_event ?hg (N := 23) ?hd (cs := #[.int .i64 0, .int .i64 0, .slice none 0 0]) (t := 24) ?hr ?_; (case hd => rfl); (case hg => rfl); (case hr => first | (go_simp; done) | (go_simp; rfl)); intro gb329 hg w95 hbox hb; have n0_ := Aside0.mk (Kd.V_below (Kd.V_elderB (zV HO_279002) gb329 (Nat.le_of_eq hg.symm)) hb); have n1_ := Aside0.mk (Kd.V_below (Kd.V_elderB (zV HO304) gb329 (Nat.le_of_eq hg.symm)) hb); have n2_ := Aside0.mk (Kd.R_below (zR HO307) hb); have n3_ := Aside0.mk (Kd.V_below (Kd.V_elderB (zV HO314) gb329 (Nat.le_of_eq hg.symm)) hb); have n4_ := Aside0.mk (Kd.R_below (zR HO317) hb); have n5_ := Aside0.mk (Kd.V_below (Kd.V_elderB (zV HO324) gb329 (Nat.le_of_eq hg.symm)) hb); have n6_ := Aside0.mk (Kd.R_below (zR HO327) hb); have n7_ := Aside0.mk (blk_below (g := gb266) (o := .cells #[.int .i64 a0_0, .int .i64 a0_1, .slice A0_2 l0_2.length c0_2] 24 (0, 0)) (zb BK266) hb); have n8_ := Aside0.mk (blk_below (g := gb278) (o := .cells #[.int .i64 t269, .int .i64 t270, .slice Ao21 t271.length co21] 24 (0, 0)) (zb BK278) hb); have n9_ := Aside0.mk (blk_below (g := gb309) (o := .cells #[.int .i64 t300, .int .i64 t301, .slice Ao82 t302.length co82] 24 (0, 0)) (zb BK309) hb); have n10_ := Aside0.mk (blk_below (g := gb319) (o := .cells #[.int .i64 t310, .int .i64 t311, .slice Ao91 t312.length co91] 24 (0, 0)) (zb BK319) hb); have n11_ := Aside0.mk (below_step (zc4 HB GE266 GE278 GE309 GE319) hb); have n12_ := Aside0.mk (hbox); have n13_ := Aside0.mk ((by rw [hg]; exact (below_size (zc4 HB GE266 GE278 GE309 GE319)) : w.heap.size ≤ gb329)); have n14_ := Aside0.mk ((by rw [hg]; exact (below_size (zc4 HB GE266 GE278 GE309 GE319)) : w.heap.size ≤ gb329)); have n15_ := Aside0.mk ((by rw [hg]; exact Nat.ne_of_lt (blk_lt (g := gb266) (o := .cells #[.int .i64 a0_0, .int .i64 a0_1, .slice A0_2 l0_2.length c0_2] 24 (0, 0)) (zb BK266)) : gb266 ≠ gb329)); have n16_ := Aside0.mk ((by rw [hg]; exact Nat.ne_of_gt (blk_lt (g := gb266) (o := .cells #[.int .i64 a0_0, .int .i64 a0_1, .slice A0_2 l0_2.length c0_2] 24 (0, 0)) (zb BK266)) : gb329 ≠ gb266)); have n17_ := Aside0.mk ((by rw [hg]; exact Nat.ne_of_lt (blk_lt (g := gb278) (o := .cells #[.int .i64 t269, .int .i64 t270, .slice Ao21 t271.length co21] 24 (0, 0)) (zb BK278)) : gb278 ≠ gb329)); have n18_ := Aside0.mk ((by rw [hg]; exact Nat.ne_of_gt (blk_lt (g := gb278) (o := .cells #[.int .i64 t269, .int .i64 t270, .slice Ao21 t271.length co21] 24 (0, 0)) (zb BK278)) : gb329 ≠ gb278)); have n19_ := Aside0.mk ((by rw [hg]; exact Nat.ne_of_lt (blk_lt (g := gb309) (o := .cells #[.int .i64 t300, .int .i64 t301, .slice Ao82 t302.length co82] 24 (0, 0)) (zb BK309)) : gb309 ≠ gb329)); have n20_ := Aside0.mk ((by rw [hg]; exact Nat.ne_of_gt (blk_lt (g := gb309) (o := .cells #[.int .i64 t300, .int .i64 t301, .slice Ao82 t302.length co82] 24 (0, 0)) (zb BK309)) : gb329 ≠ gb309)); have n21_ := Aside0.mk ((by rw [hg]; exact Nat.ne_of_lt (blk_lt (g := gb319) (o := .cells #[.int .i64 t310, .int .i64 t311, .slice Ao91 t312.length co91] 24 (0, 0)) (zb BK319)) : gb319 ≠ gb329)); have n22_ := Aside0.mk ((by rw [hg]; exact Nat.ne_of_gt (blk_lt (g := gb319) (o := .cells #[.int .i64 t310, .int .i64 t311, .slice Ao91 t312.length co91] 24 (0, 0)) (zb BK319)) : gb329 ≠ gb319)); clear HO_279002; clear HO304; clear HO307; clear HO314; clear HO317; clear HO324; clear HO327; clear BK266; clear BK278; clear BK309; clear BK319; clear HB; have HO_279002 := n0_; have HO304 := n1_; have HO307 := n2_; have HO314 := n3_; have HO317 := n4_; have HO324 := n5_; have HO327 := n6_; have BK266 := n7_; have BK278 := n8_; have BK309 := n9_; have BK319 := n10_; have HB := n11_; have BK329 := n12_; have GW329 := n13_; have GE329 := n14_; have NB266_329 := n15_; have NB329_266 := n16_; have NB278_329 := n17_; have NB329_278 := n18_; have NB309_329 := n19_; have NB329_309 := n20_; have NB319_329 := n21_; have NB329_319 := n22_; clear n0_ n1_ n2_ n3_ n4_ n5_ n6_ n7_ n8_ n9_ n10_ n11_ n12_ n13_ n14_ n15_ n16_ n17_ n18_ n19_ n20_ n21_ n22_; clear hb hbox hg; have hnb96 := NB329_266.out; have hnc96 := NB266_329.out; have hnb97 := NB329_278.out; have hnc97 := NB278_329.out; have hnb98 := NB329_309.out; have hnc98 := NB309_329.out; have hnb99 := NB329_319.out; have hnc99 := NB319_329.out; have hcz100_0 : w95.cell? ⟨gb329, 0, none⟩ = some (.int .i64 0) := (blk_cell BK329.out 0).trans rfl; have hcz100_1 : w95.cell? ⟨gb329, 1, none⟩ = some (.int .i64 0) := (blk_cell BK329.out 1).trans rfl; have hcz100_2 : w95.cell? ⟨gb329, 2, none⟩ = some (.slice none 0 0) := (blk_cell BK329.out 2).trans rfl; have hfz100_0 := blk_frozen BK329.out 0; have hfz100_1 := blk_frozen BK329.out 1; have hfz100_2 := blk_frozen BK329.out 2; obtain ⟨Ao101, co101, eo101⟩ := Kd.V_slice HO324.out; subst eo101; obtain ⟨Ao102, co102, eo102⟩ := Kd.R_slice HO307.out; subst eo102; obtain ⟨Ao103, co103, eo103⟩ := Kd.R_slice HO317.out; subst eo103; obtain ⟨Ao104, co104, eo104⟩ := Kd.R_slice HO327.out; subst eo104))
                 have n0_ : Aside0 (Kd.V k50 50 (((w95.setCell ⟨gb329, 0, none⟩ (.int .i64 t320)).setCell ⟨gb329, 1, none⟩ (.int .i64 t321)).setCell ⟨gb329, 2, none⟩ (.slice Ao101 t322.length co101)) w.heap.size (fun k_ => some k_ ≠ (.slice Ao102 t305.length co102 : Value).ownBlock ∧ some k_ ≠ (.slice Ao103 t315.length co103 : Value).ownBlock ∧ some k_ ≠ (.slice Ao104 t325.length co104 : Value).ownBlock ∧ k_ ≠ gb266 ∧ k_ ≠ gb278 ∧ k_ ≠ gb309 ∧ k_ ≠ gb319 ∧ k_ ≠ gb329) (.slice Ao21 t271.length co21) t271) := ⟨by (with_reducible repeat (first | apply Kd.V_alloc | apply Kd.V_drewN | apply Kd.V_drew)); exact Kd.V_mono (Kd.V_far (p := ⟨gb329, 2, none⟩) (Kd.V_far (p := ⟨gb329, 1, none⟩) (Kd.V_far (p := ⟨gb329, 0, none⟩) (Kd.V_mono HO_279002.out (fun k_ hk => (⟨hk, hk.2⟩ : _ ∧ k_ ≠ gb329))) (fun _ hk => hk.2) (.int .i64 t320)) (fun _ hk => hk.2) (.int .i64 t321)) (fun _ hk => hk.2) (.slice Ao101 t322.length co101)) (fun _ hk => ⟨hk.1.1.1.1, ⟨hk.1.1.1.2.1, ⟨hk.1.1.2, ⟨hk.1.1.1.2.2.1, ⟨hk.1.1.1.2.2.2.1, ⟨hk.1.1.1.2.2.2.2.1, ⟨hk.1.1.1.2.2.2.2.2, hk.1.2⟩⟩⟩⟩⟩⟩⟩)⟩
                 have n1_ : Aside0 (Kd.V k50 50 (((w95.setCell ⟨gb329, 0, none⟩ (.int .i64 t320)).setCell ⟨gb329, 1, none⟩ (.int .i64 t321)).setCell ⟨gb329, 2, none⟩ (.slice Ao101 t322.length co101)) w.heap.size (fun k_ => some k_ ≠ (.slice Ao102 t305.length co102 : Value).ownBlock ∧ some k_ ≠ (.slice Ao103 t315.length co103 : Value).ownBlock ∧ some k_ ≠ (.slice Ao104 t325.length co104 : Value).ownBlock ∧ k_ ≠ gb266 ∧ k_ ≠ gb278 ∧ k_ ≠ gb309 ∧ k_ ≠ gb319 ∧ k_ ≠ gb329) (.slice Ao82 t302.length co82) t302) := ⟨by (with_reducible repeat (first | apply Kd.V_alloc | apply Kd.V_drewN | apply Kd.V_drew)); exact Kd.V_mono (Kd.V_far (p := ⟨gb329, 2, none⟩) (Kd.V_far (p := ⟨gb329, 1, none⟩) (Kd.V_far (p := ⟨gb329, 0, none⟩) (Kd.V_mono HO304.out (fun k_ hk => (⟨hk, hk.2⟩ : _ ∧ k_ ≠ gb329))) (fun _ hk => hk.2) (.int .i64 t320)) (fun _ hk => hk.2) (.int .i64 t321)) (fun _ hk => hk.2) (.slice Ao101 t322.length co101)) (fun _ hk => ⟨hk.1.1.1.1, ⟨hk.1.1.1.2.1, ⟨hk.1.1.2, ⟨hk.1.1.1.2.2.1, ⟨hk.1.1.1.2.2.2.1, ⟨hk.1.1.1.2.2.2.2.1, ⟨hk.1.1.1.2.2.2.2.2, hk.1.2⟩⟩⟩⟩⟩⟩⟩)⟩
                 have n2_ : Aside0 (Kd.R k50 50 (((w95.setCell ⟨gb329, 0, none⟩ (.int .i64 t320)).setCell ⟨gb329, 1, none⟩ (.int .i64 t321)).setCell ⟨gb329, 2, none⟩ (.slice Ao101 t322.length co101)) w.heap.size (fun k_ => some k_ ≠ (.slice Ao103 t315.length co103 : Value).ownBlock ∧ some k_ ≠ (.slice Ao104 t325.length co104 : Value).ownBlock) (.slice Ao102 t305.length co102) t305) := ⟨by (with_reducible repeat (first | apply Kd.R_alloc | apply Kd.R_drewN | apply Kd.R_drew)); exact Kd.R_mono (Kd.R_far (p := ⟨gb329, 2, none⟩) (Kd.R_far (p := ⟨gb329, 1, none⟩) (Kd.R_far (p := ⟨gb329, 0, none⟩) (Kd.R_types HO307.out BK329.out (by decide)) (fun _ hk => hk.2) (.int .i64 t320)) (fun _ hk => hk.2) (.int .i64 t321)) (fun _ hk => hk.2) (.slice Ao101 t322.length co101)) (fun _ hk => ⟨hk.1.1, hk.1.2⟩)⟩
                 have n3_ : Aside0 (Kd.V k50 50 (((w95.setCell ⟨gb329, 0, none⟩ (.int .i64 t320)).setCell ⟨gb329, 1, none⟩ (.int .i64 t321)).setCell ⟨gb329, 2, none⟩ (.slice Ao101 t322.length co101)) w.heap.size (fun k_ => some k_ ≠ (.slice Ao102 t305.length co102 : Value).ownBlock ∧ some k_ ≠ (.slice Ao103 t315.length co103 : Value).ownBlock ∧ some k_ ≠ (.slice Ao104 t325.length co104 : Value).ownBlock ∧ k_ ≠ gb266 ∧ k_ ≠ gb278 ∧ k_ ≠ gb309 ∧ k_ ≠ gb319 ∧ k_ ≠ gb329) (.slice Ao91 t312.length co91) t312) := ⟨by (with_reducible repeat (first | apply Kd.V_alloc | apply Kd.V_drewN | apply Kd.V_drew)); exact Kd.V_mono (Kd.V_far (p := ⟨gb329, 2, none⟩) (Kd.V_far (p := ⟨gb329, 1, none⟩) (Kd.V_far (p := ⟨gb329, 0, none⟩) (Kd.V_mono HO314.out (fun k_ hk => (⟨hk, hk.2⟩ : _ ∧ k_ ≠ gb329))) (fun _ hk => hk.2) (.int .i64 t320)) (fun _ hk => hk.2) (.int .i64 t321)) (fun _ hk => hk.2) (.slice Ao101 t322.length co101)) (fun _ hk => ⟨hk.1.1.1.1, ⟨hk.1.1.1.2.1, ⟨hk.1.1.2, ⟨hk.1.1.1.2.2.1, ⟨hk.1.1.1.2.2.2.1, ⟨hk.1.1.1.2.2.2.2.1, ⟨hk.1.1.1.2.2.2.2.2, hk.1.2⟩⟩⟩⟩⟩⟩⟩)⟩
                 have n4_ : Aside0 (Kd.R k50 50 (((w95.setCell ⟨gb329, 0, none⟩ (.int .i64 t320)).setCell ⟨gb329, 1, none⟩ (.int .i64 t321)).setCell ⟨gb329, 2, none⟩ (.slice Ao101 t322.length co101)) w.heap.size (fun k_ => some k_ ≠ (.slice Ao102 t305.length co102 : Value).ownBlock ∧ some k_ ≠ (.slice Ao104 t325.length co104 : Value).ownBlock) (.slice Ao103 t315.length co103) t315) := ⟨by (with_reducible repeat (first | apply Kd.R_alloc | apply Kd.R_drewN | apply Kd.R_drew)); exact Kd.R_mono (Kd.R_far (p := ⟨gb329, 2, none⟩) (Kd.R_far (p := ⟨gb329, 1, none⟩) (Kd.R_far (p := ⟨gb329, 0, none⟩) (Kd.R_types HO317.out BK329.out (by decide)) (fun _ hk => hk.2) (.int .i64 t320)) (fun _ hk => hk.2) (.int .i64 t321)) (fun _ hk => hk.2) (.slice Ao101 t322.length co101)) (fun _ hk => ⟨hk.1.1, hk.1.2⟩)⟩
                 have n5_ : Aside0 (Kd.V k50 50 (((w95.setCell ⟨gb329, 0, none⟩ (.int .i64 t320)).setCell ⟨gb329, 1, none⟩ (.int .i64 t321)).setCell ⟨gb329, 2, none⟩ (.slice Ao101 t322.length co101)) w.heap.size (fun k_ => some k_ ≠ (.slice Ao102 t305.length co102 : Value).ownBlock ∧ some k_ ≠ (.slice Ao103 t315.length co103 : Value).ownBlock ∧ some k_ ≠ (.slice Ao104 t325.length co104 : Value).ownBlock ∧ k_ ≠ gb266 ∧ k_ ≠ gb278 ∧ k_ ≠ gb309 ∧ k_ ≠ gb319 ∧ k_ ≠ gb329) (.slice Ao101 t322.length co101) t322) := ⟨by (with_reducible repeat (first | apply Kd.V_alloc | apply Kd.V_drewN | apply Kd.V_drew)); exact Kd.V_mono (Kd.V_far (p := ⟨gb329, 2, none⟩) (Kd.V_far (p := ⟨gb329, 1, none⟩) (Kd.V_far (p := ⟨gb329, 0, none⟩) (Kd.V_mono HO324.out (fun k_ hk => (⟨hk, hk.2⟩ : _ ∧ k_ ≠ gb329))) (fun _ hk => hk.2) (.int .i64 t320)) (fun _ hk => hk.2) (.int .i64 t321)) (fun _ hk => hk.2) (.slice Ao101 t322.length co101)) (fun _ hk => ⟨hk.1.1.2.1, ⟨hk.1.1.2.2.1, ⟨hk.1.1.1, ⟨hk.1.1.2.2.2.1, ⟨hk.1.1.2.2.2.2.1, ⟨hk.1.1.2.2.2.2.2.1, ⟨hk.1.1.2.2.2.2.2.2, hk.1.2⟩⟩⟩⟩⟩⟩⟩)⟩
                 have n6_ : Aside0 (Kd.R k50 50 (((w95.setCell ⟨gb329, 0, none⟩ (.int .i64 t320)).setCell ⟨gb329, 1, none⟩ (.int .i64 t321)).setCell ⟨gb329, 2, none⟩ (.slice Ao101 t322.length co101)) w.heap.size (fun k_ => some k_ ≠ (.slice Ao102 t305.length co102 : Value).ownBlock ∧ some k_ ≠ (.slice Ao103 t315.length co103 : Value).ownBlock) (.slice Ao104 t325.length co104) t325) := ⟨by (with_reducible repeat (first | apply Kd.R_alloc | apply Kd.R_drewN | apply Kd.R_drew)); exact Kd.R_mono (Kd.R_far (p := ⟨gb329, 2, none⟩) (Kd.R_far (p := ⟨gb329, 1, none⟩) (Kd.R_far (p := ⟨gb329, 0, none⟩) (Kd.R_types HO327.out BK329.out (by decide)) (fun _ hk => hk.2) (.int .i64 t320)) (fun _ hk => hk.2) (.int .i64 t321)) (fun _ hk => hk.2) (.slice Ao101 t322.length co101)) (fun _ hk => ⟨hk.1.1.2, hk.1.2⟩)⟩
                 have n7_ : Aside0 ((((w95.setCell ⟨gb329, 0, none⟩ (.int .i64 t320)).setCell ⟨gb329, 1, none⟩ (.int .i64 t321)).setCell ⟨gb329, 2, none⟩ (.slice Ao101 t322.length co101)).heap[gb266]? = some (.cells #[.int .i64 a0_0, .int .i64 a0_1, .slice A0_2 l0_2.length c0_2] 24 (0, 0))) := ⟨by (with_reducible repeat (first | refine blk_drewN ?_ _ | refine blk_drew ?_ | refine blk_alloc ?_ _)); refine blk_far ?_ NB266_329.out _; (with_reducible repeat (first | refine blk_drewN ?_ _ | refine blk_drew ?_ | refine blk_alloc ?_ _)); refine blk_far ?_ NB266_329.out _; (with_reducible repeat (first | refine blk_drewN ?_ _ | refine blk_drew ?_ | refine blk_alloc ?_ _)); refine blk_far ?_ NB266_329.out _; (with_reducible repeat (first | refine blk_drewN ?_ _ | refine blk_drew ?_ | refine blk_alloc ?_ _)); exact BK266.out⟩
                 have n8_ : Aside0 ((((w95.setCell ⟨gb329, 0, none⟩ (.int .i64 t320)).setCell ⟨gb329, 1, none⟩ (.int .i64 t321)).setCell ⟨gb329, 2, none⟩ (.slice Ao101 t322.length co101)).heap[gb278]? = some (.cells #[.int .i64 t269, .int .i64 t270, .slice Ao21 t271.length co21] 24 (0, 0))) := ⟨by (with_reducible repeat (first | refine blk_drewN ?_ _ | refine blk_drew ?_ | refine blk_alloc ?_ _)); refine blk_far ?_ NB278_329.out _; (with_reducible repeat (first | refine blk_drewN ?_ _ | refine blk_drew ?_ | refine blk_alloc ?_ _)); refine blk_far ?_ NB278_329.out _; (with_reducible repeat (first | refine blk_drewN ?_ _ | refine blk_drew ?_ | refine blk_alloc ?_ _)); refine blk_far ?_ NB278_329.out _; (with_reducible repeat (first | refine blk_drewN ?_ _ | refine blk_drew ?_ | refine blk_alloc ?_ _)); exact BK278.out⟩
                 have n9_ : Aside0 ((((w95.setCell ⟨gb329, 0, none⟩ (.int .i64 t320)).setCell ⟨gb329, 1, none⟩ (.int .i64 t321)).setCell ⟨gb329, 2, none⟩ (.slice Ao101 t322.length co101)).heap[gb309]? = some (.cells #[.int .i64 t300, .int .i64 t301, .slice Ao82 t302.length co82] 24 (0, 0))) := ⟨by (with_reducible repeat (first | refine blk_drewN ?_ _ | refine blk_drew ?_ | refine blk_alloc ?_ _)); refine blk_far ?_ NB309_329.out _; (with_reducible repeat (first | refine blk_drewN ?_ _ | refine blk_drew ?_ | refine blk_alloc ?_ _)); refine blk_far ?_ NB309_329.out _; (with_reducible repeat (first | refine blk_drewN ?_ _ | refine blk_drew ?_ | refine blk_alloc ?_ _)); refine blk_far ?_ NB309_329.out _; (with_reducible repeat (first | refine blk_drewN ?_ _ | refine blk_drew ?_ | refine blk_alloc ?_ _)); exact BK309.out⟩
                 have n10_ : Aside0 ((((w95.setCell ⟨gb329, 0, none⟩ (.int .i64 t320)).setCell ⟨gb329, 1, none⟩ (.int .i64 t321)).setCell ⟨gb329, 2, none⟩ (.slice Ao101 t322.length co101)).heap[gb319]? = some (.cells #[.int .i64 t310, .int .i64 t311, .slice Ao91 t312.length co91] 24 (0, 0))) := ⟨by (with_reducible repeat (first | refine blk_drewN ?_ _ | refine blk_drew ?_ | refine blk_alloc ?_ _)); refine blk_far ?_ NB319_329.out _; (with_reducible repeat (first | refine blk_drewN ?_ _ | refine blk_drew ?_ | refine blk_alloc ?_ _)); refine blk_far ?_ NB319_329.out _; (with_reducible repeat (first | refine blk_drewN ?_ _ | refine blk_drew ?_ | refine blk_alloc ?_ _)); refine blk_far ?_ NB319_329.out _; (with_reducible repeat (first | refine blk_drewN ?_ _ | refine blk_drew ?_ | refine blk_alloc ?_ _)); exact BK319.out⟩
                 have n11_ : Aside0 ((((w95.setCell ⟨gb329, 0, none⟩ (.int .i64 t320)).setCell ⟨gb329, 1, none⟩ (.int .i64 t321)).setCell ⟨gb329, 2, none⟩ (.slice Ao101 t322.length co101)).heap[gb329]? = some (.cells #[.int .i64 t320, .int .i64 t321, .slice Ao101 t322.length co101] 24 (0, 0))) := ⟨by (with_reducible repeat (first | refine blk_drewN ?_ _ | refine blk_drew ?_ | refine blk_alloc ?_ _)); refine blk_put (cs := #[.int .i64 t320, .int .i64 t321, .slice none 0 0]) ?_ 2 _ rfl; (with_reducible repeat (first | refine blk_drewN ?_ _ | refine blk_drew ?_ | refine blk_alloc ?_ _)); refine blk_put (cs := #[.int .i64 t320, .int .i64 0, .slice none 0 0]) ?_ 1 _ rfl; (with_reducible repeat (first | refine blk_drewN ?_ _ | refine blk_drew ?_ | refine blk_alloc ?_ _)); refine blk_put (cs := #[.int .i64 0, .int .i64 0, .slice none 0 0]) ?_ 0 _ rfl; (with_reducible repeat (first | refine blk_drewN ?_ _ | refine blk_drew ?_ | refine blk_alloc ?_ _)); exact BK329.out⟩
                 have n12_ : Aside0 (Below w.heap.size w (((w95.setCell ⟨gb329, 0, none⟩ (.int .i64 t320)).setCell ⟨gb329, 1, none⟩ (.int .i64 t321)).setCell ⟨gb329, 2, none⟩ (.slice Ao101 t322.length co101))) := ⟨by repeat (first | (with_reducible first | exact HB.out | apply below_alloc | apply pw_below_drewN | apply below_drew1 | refine below_set ?_ GE266.out | refine below_set ?_ GE278.out | refine below_set ?_ GE309.out | refine below_set ?_ GE319.out | refine below_set ?_ GE329.out) | exact HB.out)⟩
                 (try clear HO_279002)
                 (try clear HO304)
                 (try clear HO307)
                 (try clear HO314)
                 (try clear HO317)
                 (try clear HO324)
                 (try clear HO327)
                 (try clear BK266)
                 (try clear BK278)
                 (try clear BK309)
                 (try clear BK319)
                 (try clear BK329)
                 (try clear HB)
                 generalize (((w95.setCell ⟨gb329, 0, none⟩ (.int .i64 t320)).setCell ⟨gb329, 1, none⟩ (.int .i64 t321)).setCell ⟨gb329, 2, none⟩ (.slice Ao101 t322.length co101)) = w105 at n0_ n1_ n2_ n3_ n4_ n5_ n6_ n7_ n8_ n9_ n10_ n11_ n12_ ⊢
                 have HO_279002 := n0_
                 have HO304 := n1_
                 have HO307 := n2_
                 have HO314 := n3_
                 have HO317 := n4_
                 have HO324 := n5_
                 have HO327 := n6_
                 have BK266 := n7_
                 have BK278 := n8_
                 have BK309 := n9_
                 have BK319 := n10_
                 have BK329 := n11_
                 have HB := n12_
                 clear n0_ n1_ n2_ n3_ n4_ n5_ n6_ n7_ n8_ n9_ n10_ n11_ n12_
                 have n0_ := Aside0.mk (Kd.V_drew HO_279002.out)
                 have n1_ := Aside0.mk (Kd.V_drew HO304.out)
                 have n2_ := Aside0.mk (Kd.R_drew HO307.out)
                 have n3_ := Aside0.mk (Kd.V_drew HO314.out)
                 have n4_ := Aside0.mk (Kd.R_drew HO317.out)
                 have n5_ := Aside0.mk (Kd.V_drew HO324.out)
                 have n6_ := Aside0.mk (Kd.R_drew HO327.out)
                 have n7_ := Aside0.mk (blk_drew BK266.out)
                 have n8_ := Aside0.mk (blk_drew BK278.out)
                 have n9_ := Aside0.mk (blk_drew BK309.out)
                 have n10_ := Aside0.mk (blk_drew BK319.out)
                 have n11_ := Aside0.mk (blk_drew BK329.out)
                 have n12_ := Aside0.mk (below_drew1 HB.out)
                 clear HO_279002
                 clear HO304
                 clear HO307
                 clear HO314
                 clear HO317
                 clear HO324
                 clear HO327
                 clear BK266
                 clear BK278
                 clear BK309
                 clear BK319
                 clear BK329
                 clear HB
                 have HO_279002 := n0_
                 have HO304 := n1_
                 have HO307 := n2_
                 have HO314 := n3_
                 have HO317 := n4_
                 have HO324 := n5_
                 have HO327 := n6_
                 have BK266 := n7_
                 have BK278 := n8_
                 have BK309 := n9_
                 have BK319 := n10_
                 have BK329 := n11_
                 have HB := n12_
                 clear n0_ n1_ n2_ n3_ n4_ n5_ n6_ n7_ n8_ n9_ n10_ n11_ n12_
                 refine start_ (n := 28) (S := fun w' => w'.cell? ⟨gb309, 0, none⟩ = some (.int .i64 t300) ∧ w'.cell? ⟨gb309, 1, none⟩ = some (.int .i64 t301) ∧ w'.cell? ⟨gb309, 2, none⟩ = some (.slice Ao82 t302.length co82) ∧ w'.cell? ⟨gb329, 0, none⟩ = some (.int .i64 t320) ∧ w'.cell? ⟨gb329, 1, none⟩ = some (.int .i64 t321) ∧ w'.cell? ⟨gb329, 2, none⟩ = some (.slice Ao101 t322.length co101)) (ds := []) #[false, false, false, false, false, false, false, false, false, false, false, false, false, false, false, false, false, false, false, false, false, false, false, false, false, false, false, false] (by kernel_rfl) rfl rfl ⟨(blk_cell BK309.out 0).trans rfl, (blk_cell BK309.out 1).trans rfl, (blk_cell BK309.out 2).trans rfl, (blk_cell BK329.out 0).trans rfl, (blk_cell BK329.out 1).trans rfl, (blk_cell BK329.out 2).trans rfl⟩ (fun hHeld => ?_); refine with_tabW handshakerlaw18_SemaOthers.tab19 handshakerlaw18_SemaOthers.bits19 (fun HT_ HW_ => ?_)
                 generalize w105.drew = w106 at HO_279002 HO304 HO307 HO314 HO317 HO324 HO327 BK266 BK278 BK309 BK319 BK329 HB hHeld ⊢
                 refine pure_ (i := 0) (N := some 108) (v := ?_) (a' := ?_) #[true, false, false, false, false, false, false, false, false, false, false, false, false, false, false, false, false, false, false, false, false, false, false, false, false, false, false, false] rfl rfl (any_of HT_.out (by kernel_rfl)) (fun _ _ _ h => h) (Or.inl ⟨by rfl, ?_⟩) ?_ ?_
                 rotate_left
                 ·intro w'
                  go_simp
                  with_reducible rfl
                 rotate_left
                 ·simp only [Act.put, List.setIfInBounds_toArray, List.set_cons_zero, List.set_cons_succ, i64_w, i32_w]
                  rfl
                 refine pure_ (i := 1) (N := some 109) (v := ?_) (a' := ?_) #[true, true, false, false, false, false, false, false, false, false, false, false, false, false, false, false, false, false, false, false, false, false, false, false, false, false, false, false] rfl rfl (any_of HT_.out (by kernel_rfl)) (fun _ _ _ h => h) (Or.inl ⟨by rfl, ?_⟩) ?_ ?_
                 rotate_left
                 ·intro w'
                  go_simp
                  with_reducible rfl
                 rotate_left
                 ·simp only [Act.put, List.setIfInBounds_toArray, List.set_cons_zero, List.set_cons_succ, i64_w, i32_w]
                  rfl
                 refine pure_ (i := 2) (N := some 110) (v := ?_) (a' := ?_) #[true, true, true, false, false, false, false, false, false, false, false, false, false, false, false, false, false, false, false, false, false, false, false, false, false, false, false, false] rfl rfl (any_of HT_.out (by kernel_rfl)) (fun _ _ _ h => h) (Or.inl ⟨by rfl, ?_⟩) ?_ ?_
                 rotate_left
                 ·intro w'
                  go_simp
                  with_reducible rfl
                 rotate_left
                 ·simp only [Act.put, List.setIfInBounds_toArray, List.set_cons_zero, List.set_cons_succ, i64_w, i32_w]
                  rfl
                 refine pure_ (i := 3) (N := some 111) (v := ?_) (a' := ?_) #[true, true, true, true, false, false, false, false, false, false, false, false, false, false, false, false, false, false, false, false, false, false, false, false, false, false, false, false] rfl rfl (any_of HT_.out (by kernel_rfl)) (fun _ _ _ h => h) (Or.inl ⟨by rfl, ?_⟩) ?_ ?_
                 rotate_left
                 ·intro w'
                  go_simp
                  with_reducible rfl
                 rotate_left
                 ·simp only [Act.put, List.setIfInBounds_toArray, List.set_cons_zero, List.set_cons_succ, i64_w, i32_w]
                  rfl
                 refine pure_ (i := 4) (N := some 112) (v := ?_) (a' := ?_) #[true, true, true, true, true, false, false, false, false, false, false, false, false, false, false, false, false, false, false, false, false, false, false, false, false, false, false, false] rfl rfl (any_of HT_.out (by kernel_rfl)) (fun _ _ _ h => h) (Or.inl ⟨by rfl, ?_⟩) ?_ ?_
                 rotate_left
                 ·intro w'
                  go_simp
                  with_reducible rfl
                 rotate_left
                 ·simp only [Act.put, List.setIfInBounds_toArray, List.set_cons_zero, List.set_cons_succ, i64_w, i32_w]
                  rfl
                 refine pure_ (i := 5) (N := some 113) (v := ?_) (a' := ?_) #[true, true, true, true, true, true, false, false, false, false, false, false, false, false, false, false, false, false, false, false, false, false, false, false, false, false, false, false] rfl rfl (any_of HT_.out (by kernel_rfl)) (fun _ _ _ h => h) (Or.inl ⟨by rfl, ?_⟩) ?_ ?_
                 rotate_left
                 ·intro w'
                  go_simp
                  with_reducible rfl
                 rotate_left
                 ·simp only [Act.put, List.setIfInBounds_toArray, List.set_cons_zero, List.set_cons_succ, i64_w, i32_w]
                  rfl
                 refine pure_ (i := 6) (N := some 114) (v := ?_) (a' := ?_) #[true, true, true, true, true, true, true, false, false, false, false, false, false, false, false, false, false, false, false, false, false, false, false, false, false, false, false, false] rfl rfl (any_of HT_.out (by kernel_rfl)) (fun _ _ _ h => h) (Or.inl ⟨by rfl, ?_⟩) ?_ ?_
                 rotate_left
                 ·intro w'
                  go_simp
                  with_reducible rfl
                 rotate_left
                 ·simp only [Act.put, List.setIfInBounds_toArray, List.set_cons_zero, List.set_cons_succ, i64_w, i32_w]
                  rfl
                 refine take_ (i := 7) (N := some 115) (v := ?_) (a' := ?_) #[true, true, true, true, true, true, true, true, false, false, false, false, false, false, false, false, false, false, false, false, false, false, false, false, false, false, false, false] rfl rfl (take_ofW HT_.out HW_.out (by kernel_rfl)) (fun _ _ _ h => h) (Or.inl ⟨by rfl, ?_⟩) hHeld ?_ ?_
                 rotate_left
                 ·rintro w' ⟨s0, s1, s2, s3, s4, s5⟩
                  go_simp
                  with_reducible rfl
                 rotate_left
                 ·simp only [Act.put, List.setIfInBounds_toArray, List.set_cons_zero, List.set_cons_succ, i64_w, i32_w]
                  rfl
                 refine take_ (i := 9) (N := some 117) (v := ?_) (a' := ?_) #[true, true, true, true, true, true, true, true, false, true, false, false, false, false, false, false, false, false, false, false, false, false, false, false, false, false, false, false] rfl rfl (take_ofW HT_.out HW_.out (by kernel_rfl)) (fun _ _ _ h => h) (Or.inl ⟨by rfl, ?_⟩) hHeld ?_ ?_
                 rotate_left
                 ·rintro w' ⟨s0, s1, s2, s3, s4, s5⟩
                  go_simp
                  with_reducible rfl
                 rotate_left
                 ·simp only [Act.put, List.setIfInBounds_toArray, List.set_cons_zero, List.set_cons_succ, i64_w, i32_w]
                  rfl
                 refine one_ (i := 8) (N := some 116) #[true, true, true, true, true, true, true, true, true, true, false, false, false, false, false, false, false, false, false, false, false, false, false, false, false, false, false, false] rfl rfl (one_of HT_.out (by kernel_rfl)) (by decide) (fun K hK => ?_)
                 refine goes_ Try.func10 (by kernel_rfl) rfl #[.agg #[.int .i64 t300, .int .i64 t301, .slice Ao82 t302.length co82]] (by rfl) rfl rfl zm ?_
                 with_reducible refine (handshakerlaw18_Ref.calls kj36 t300 t301 _ _ t302 t331 t332 t333 _ ?side1 ?side2 A64.out).mono ?_
                 (case side1 => repeat (first | exact (Kd.V_reads' HO304.out).2.2 | (with_reducible refine Kd.C_alloc ?_ _) | (with_reducible refine Kd.C_drewN ?_ _) | (with_reducible refine Kd.C_drew ?_)))
                 (case side2 => exact (Kd.V_reads' HO304.out).2.1)
                 rintro e w107 ⟨v334, rfl, ho0, hb⟩
                 refine ⟨_, rfl, ?_⟩
                 have n0_ := Aside0.mk (Kd.V_elder' (zV HO_279002) (Kd.R_base ho0) hb)
                 have n1_ := Aside0.mk (Kd.V_elder' (zV HO304) (Kd.R_base ho0) hb)
                 have n2_ := Aside0.mk (Kd.R_below (zR HO307) hb)
                 have n3_ := Aside0.mk (Kd.V_elder' (zV HO314) (Kd.R_base ho0) hb)
                 have n4_ := Aside0.mk (Kd.R_below (zR HO317) hb)
                 have n5_ := Aside0.mk (Kd.V_elder' (zV HO324) (Kd.R_base ho0) hb)
                 have n6_ := Aside0.mk (Kd.R_below (zR HO327) hb)
                 have n7_ := Aside0.mk (Kd.R_lower ho0 (below_size (zc5 HB GE266 GE278 GE309 GE319 GE329)))
                 have n8_ := Aside0.mk (blk_below (g := gb266) (o := .cells #[.int .i64 a0_0, .int .i64 a0_1, .slice A0_2 l0_2.length c0_2] 24 (0, 0)) (zb BK266) hb)
                 have n9_ := Aside0.mk (blk_below (g := gb278) (o := .cells #[.int .i64 t269, .int .i64 t270, .slice Ao21 t271.length co21] 24 (0, 0)) (zb BK278) hb)
                 have n10_ := Aside0.mk (blk_below (g := gb309) (o := .cells #[.int .i64 t300, .int .i64 t301, .slice Ao82 t302.length co82] 24 (0, 0)) (zb BK309) hb)
                 have n11_ := Aside0.mk (blk_below (g := gb319) (o := .cells #[.int .i64 t310, .int .i64 t311, .slice Ao91 t312.length co91] 24 (0, 0)) (zb BK319) hb)
                 have n12_ := Aside0.mk (blk_below (g := gb329) (o := .cells #[.int .i64 t320, .int .i64 t321, .slice Ao101 t322.length co101] 24 (0, 0)) (zb BK329) hb)
                 have n13_ := Aside0.mk (below_step (zc5 HB GE266 GE278 GE309 GE319 GE329) hb)
                 clear HO_279002
                 clear HO304
                 clear HO307
                 clear HO314
                 clear HO317
                 clear HO324
                 clear HO327
                 clear BK266
                 clear BK278
                 clear BK309
                 clear BK319
                 clear BK329
                 clear HB
                 have HO_279002 := n0_
                 have HO304 := n1_
                 have HO307 := n2_
                 have HO314 := n3_
                 have HO317 := n4_
                 have HO324 := n5_
                 have HO327 := n6_
                 have HO335 := n7_
                 have BK266 := n8_
                 have BK278 := n9_
                 have BK309 := n10_
                 have BK319 := n11_
                 have BK329 := n12_
                 have HB := n13_
                 clear n0_ n1_ n2_ n3_ n4_ n5_ n6_ n7_ n8_ n9_ n10_ n11_ n12_ n13_
                 (try clear hb)
                 (try clear hb2)
                 (try clear hk)
                 (try clear hi)
                 (try clear ho0)
                 refine hK.out _ _ ⟨(blk_cell BK309.out 0).trans rfl, (blk_cell BK309.out 1).trans rfl, (blk_cell BK309.out 2).trans rfl, (blk_cell BK329.out 0).trans rfl, (blk_cell BK329.out 1).trans rfl, (blk_cell BK329.out 2).trans rfl⟩ (fun hHeld => ?_)
                 clear hK K
                 refine norm_ (a' := ?_) ?_ ?_
                 rotate_left
                 ·show Act.put _ (some 116) _ = _
                  simp only [Act.put, List.setIfInBounds_toArray, List.set_cons_zero, List.set_cons_succ, i64_w, i32_w]
                  rfl
                 refine one_ (i := 10) (N := some 118) #[true, true, true, true, true, true, true, true, true, true, true, false, false, false, false, false, false, false, false, false, false, false, false, false, false, false, false, false] rfl rfl (one_of HT_.out (by kernel_rfl)) (by decide) (fun K hK => ?_)
                 refine goes_ Try.func10 (by kernel_rfl) rfl #[.agg #[.int .i64 t320, .int .i64 t321, .slice Ao101 t322.length co101]] (by rfl) rfl rfl zm ?_
                 with_reducible refine (handshakerlaw18_Ref.calls kj36 t320 t321 _ _ t322 t336 t337 t338 _ ?side1 ?side2 A65.out).mono ?_
                 (case side1 => repeat (first | exact (Kd.V_reads' HO324.out).2.2 | (with_reducible refine Kd.C_alloc ?_ _) | (with_reducible refine Kd.C_drewN ?_ _) | (with_reducible refine Kd.C_drew ?_)))
                 (case side2 => exact (Kd.V_reads' HO324.out).2.1)
                 rintro e w108 ⟨v339, rfl, ho0, hb⟩
                 refine ⟨_, rfl, ?_⟩
                 have n0_ := Aside0.mk (Kd.V_elder' (zV HO_279002) (Kd.R_base ho0) hb)
                 have n1_ := Aside0.mk (Kd.V_elder' (zV HO304) (Kd.R_base ho0) hb)
                 have n2_ := Aside0.mk (Kd.R_below (zR HO307) hb)
                 have n3_ := Aside0.mk (Kd.V_elder' (zV HO314) (Kd.R_base ho0) hb)
                 have n4_ := Aside0.mk (Kd.R_below (zR HO317) hb)
                 have n5_ := Aside0.mk (Kd.V_elder' (zV HO324) (Kd.R_base ho0) hb)
                 have n6_ := Aside0.mk (Kd.R_below (zR HO327) hb)
                 have n7_ := Aside0.mk (Kd.R_elder' (zR HO335) (Kd.R_base ho0) hb)
                 have n8_ := Aside0.mk (Kd.R_lower (Kd.R_new' ho0 (Kd.R_lt (zR HO335))) (below_size (zc5 HB GE266 GE278 GE309 GE319 GE329)))
                 have n9_ := Aside0.mk (blk_below (g := gb266) (o := .cells #[.int .i64 a0_0, .int .i64 a0_1, .slice A0_2 l0_2.length c0_2] 24 (0, 0)) (zb BK266) hb)
                 have n10_ := Aside0.mk (blk_below (g := gb278) (o := .cells #[.int .i64 t269, .int .i64 t270, .slice Ao21 t271.length co21] 24 (0, 0)) (zb BK278) hb)
                 have n11_ := Aside0.mk (blk_below (g := gb309) (o := .cells #[.int .i64 t300, .int .i64 t301, .slice Ao82 t302.length co82] 24 (0, 0)) (zb BK309) hb)
                 have n12_ := Aside0.mk (blk_below (g := gb319) (o := .cells #[.int .i64 t310, .int .i64 t311, .slice Ao91 t312.length co91] 24 (0, 0)) (zb BK319) hb)
                 have n13_ := Aside0.mk (blk_below (g := gb329) (o := .cells #[.int .i64 t320, .int .i64 t321, .slice Ao101 t322.length co101] 24 (0, 0)) (zb BK329) hb)
                 have n14_ := Aside0.mk (below_step (zc5 HB GE266 GE278 GE309 GE319 GE329) hb)
                 clear HO_279002
                 clear HO304
                 clear HO307
                 clear HO314
                 clear HO317
                 clear HO324
                 clear HO327
                 clear HO335
                 clear BK266
                 clear BK278
                 clear BK309
                 clear BK319
                 clear BK329
                 clear HB
                 have HO_279002 := n0_
                 have HO304 := n1_
                 have HO307 := n2_
                 have HO314 := n3_
                 have HO317 := n4_
                 have HO324 := n5_
                 have HO327 := n6_
                 have HO335 := n7_
                 have HO340 := n8_
                 have BK266 := n9_
                 have BK278 := n10_
                 have BK309 := n11_
                 have BK319 := n12_
                 have BK329 := n13_
                 have HB := n14_
                 clear n0_ n1_ n2_ n3_ n4_ n5_ n6_ n7_ n8_ n9_ n10_ n11_ n12_ n13_ n14_
                 (try clear hb)
                 (try clear hb2)
                 (try clear hk)
                 (try clear hi)
                 (try clear ho0)
                 obtain ⟨Ao109, co109, eo109⟩ := Kd.R_slice HO335.out
                 (first | subst eo109 | (injection eo109 with f1_ f2_ f3_; have f4_ := f1_.symm; have f5_ := f3_.symm; clear f1_ f2_ f3_; subst f4_; subst f5_))
                 obtain ⟨Ao110, co110, eo110⟩ := Kd.R_slice HO340.out
                 (first | subst eo110 | (injection eo110 with f1_ f2_ f3_; have f4_ := f1_.symm; have f5_ := f3_.symm; clear f1_ f2_ f3_; subst f4_; subst f5_))
                 refine hK.out _ _ ⟨(blk_cell BK309.out 0).trans rfl, (blk_cell BK309.out 1).trans rfl, (blk_cell BK309.out 2).trans rfl, (blk_cell BK329.out 0).trans rfl, (blk_cell BK329.out 1).trans rfl, (blk_cell BK329.out 2).trans rfl⟩ (fun hHeld => ?_)
                 clear hK K
                 refine norm_ (a' := ?_) ?_ ?_
                 rotate_left
                 ·show Act.put _ (some 118) _ = _
                  simp only [Act.put, List.setIfInBounds_toArray, List.set_cons_zero, List.set_cons_succ, i64_w, i32_w]
                  rfl
                 refine one_ (i := 11) (N := some 119) #[true, true, true, true, true, true, true, true, true, true, true, true, false, false, false, false, false, false, false, false, false, false, false, false, false, false, false, false] rfl rfl (one_of HT_.out (by kernel_rfl)) (by decide) (fun K hK => ?_)
                 refine goes_ Try.func20 (by kernel_rfl) rfl #[.agg #[.int .i64 t331, .int .i64 t332, .slice Ao109 t333.length co109], .agg #[.int .i64 t336, .int .i64 t337, .slice Ao110 t338.length co110]] (by rfl) rfl rfl zm ?_
                 with_reducible refine (handshakerref18_Same.calls kj36 t331 t332 _ _ t333 t336 t337 _ _ t338 true _ ?side1 ?side2 ?side3 ?side4 A66.out).mono ?_
                 (case side1 => repeat (first | exact (Kd.R_reads' HO335.out).2.2 | (with_reducible refine Kd.C_alloc ?_ _) | (with_reducible refine Kd.C_drewN ?_ _) | (with_reducible refine Kd.C_drew ?_)))
                 (case side2 => exact (Kd.R_reads' HO335.out).2.1)
                 (case side3 => repeat (first | exact (Kd.R_reads' HO340.out).2.2 | (with_reducible refine Kd.C_alloc ?_ _) | (with_reducible refine Kd.C_drewN ?_ _) | (with_reducible refine Kd.C_drew ?_)))
                 (case side4 => exact (Kd.R_reads' HO340.out).2.1)
                 rintro e w111 ⟨rfl, hb⟩
                 refine ⟨_, rfl, ?_⟩
                 have n0_ := Aside0.mk (Kd.V_below (zV HO_279002) hb)
                 have n1_ := Aside0.mk (Kd.V_below (zV HO304) hb)
                 have n2_ := Aside0.mk (Kd.R_below (zR HO307) hb)
                 have n3_ := Aside0.mk (Kd.V_below (zV HO314) hb)
                 have n4_ := Aside0.mk (Kd.R_below (zR HO317) hb)
                 have n5_ := Aside0.mk (Kd.V_below (zV HO324) hb)
                 have n6_ := Aside0.mk (Kd.R_below (zR HO327) hb)
                 have n7_ := Aside0.mk (Kd.R_below (zR HO335) hb)
                 have n8_ := Aside0.mk (Kd.R_below (zR HO340) hb)
                 have n9_ := Aside0.mk (blk_below (g := gb266) (o := .cells #[.int .i64 a0_0, .int .i64 a0_1, .slice A0_2 l0_2.length c0_2] 24 (0, 0)) (zb BK266) hb)
                 have n10_ := Aside0.mk (blk_below (g := gb278) (o := .cells #[.int .i64 t269, .int .i64 t270, .slice Ao21 t271.length co21] 24 (0, 0)) (zb BK278) hb)
                 have n11_ := Aside0.mk (blk_below (g := gb309) (o := .cells #[.int .i64 t300, .int .i64 t301, .slice Ao82 t302.length co82] 24 (0, 0)) (zb BK309) hb)
                 have n12_ := Aside0.mk (blk_below (g := gb319) (o := .cells #[.int .i64 t310, .int .i64 t311, .slice Ao91 t312.length co91] 24 (0, 0)) (zb BK319) hb)
                 have n13_ := Aside0.mk (blk_below (g := gb329) (o := .cells #[.int .i64 t320, .int .i64 t321, .slice Ao101 t322.length co101] 24 (0, 0)) (zb BK329) hb)
                 have n14_ := Aside0.mk (below_step (zc5 HB GE266 GE278 GE309 GE319 GE329) hb)
                 clear HO_279002
                 clear HO304
                 clear HO307
                 clear HO314
                 clear HO317
                 clear HO324
                 clear HO327
                 clear HO335
                 clear HO340
                 clear BK266
                 clear BK278
                 clear BK309
                 clear BK319
                 clear BK329
                 clear HB
                 have HO_279002 := n0_
                 have HO304 := n1_
                 have HO307 := n2_
                 have HO314 := n3_
                 have HO317 := n4_
                 have HO324 := n5_
                 have HO327 := n6_
                 have HO335 := n7_
                 have HO340 := n8_
                 have BK266 := n9_
                 have BK278 := n10_
                 have BK309 := n11_
                 have BK319 := n12_
                 have BK329 := n13_
                 have HB := n14_
                 clear n0_ n1_ n2_ n3_ n4_ n5_ n6_ n7_ n8_ n9_ n10_ n11_ n12_ n13_ n14_
                 (try clear hb)
                 (try clear hb2)
                 (try clear hk)
                 (try clear hi)
                 refine hK.out _ _ ⟨(blk_cell BK309.out 0).trans rfl, (blk_cell BK309.out 1).trans rfl, (blk_cell BK309.out 2).trans rfl, (blk_cell BK329.out 0).trans rfl, (blk_cell BK329.out 1).trans rfl, (blk_cell BK329.out 2).trans rfl⟩ (fun hHeld => ?_)
                 clear hK K
                 refine norm_ (a' := ?_) ?_ ?_
                 rotate_left
                 ·show Act.put _ (some 119) _ = _
                  simp only [Act.put, List.setIfInBounds_toArray, List.set_cons_zero, List.set_cons_succ, i64_w, i32_w]
                  rfl
                 refine pure_ (i := 12) (N := some 120) (v := ?_) (a' := ?_) #[true, true, true, true, true, true, true, true, true, true, true, true, true, false, false, false, false, false, false, false, false, false, false, false, false, false, false, false] rfl rfl (any_of HT_.out (by kernel_rfl)) (fun _ _ _ h => h) (Or.inl ⟨by rfl, ?_⟩) ?_ ?_
                 rotate_left
                 ·intro w'
                  go_simp
                  with_reducible rfl
                 rotate_left
                 ·simp only [Act.put, List.setIfInBounds_toArray, List.set_cons_zero, List.set_cons_succ, i64_w, i32_w]
                  rfl
                 refine pure_ (i := 13) (N := some 121) (v := ?_) (a' := ?_) #[true, true, true, true, true, true, true, true, true, true, true, true, true, true, false, false, false, false, false, false, false, false, false, false, false, false, false, false] rfl rfl (any_of HT_.out (by kernel_rfl)) (fun _ _ _ h => h) (Or.inl ⟨by rfl, ?_⟩) ?_ ?_
                 rotate_left
                 ·intro w'
                  go_simp
                  with_reducible rfl
                 rotate_left
                 ·simp only [Act.put, List.setIfInBounds_toArray, List.set_cons_zero, List.set_cons_succ, i64_w, i32_w]
                  rfl
                 refine pure_ (i := 14) (N := some 122) (v := ?_) (a' := ?_) #[true, true, true, true, true, true, true, true, true, true, true, true, true, true, true, false, false, false, false, false, false, false, false, false, false, false, false, false] rfl rfl (any_of HT_.out (by kernel_rfl)) (fun _ _ _ h => h) (Or.inl ⟨by rfl, ?_⟩) ?_ ?_
                 rotate_left
                 ·intro w'
                  go_simp
                  with_reducible rfl
                 rotate_left
                 ·simp only [Act.put, List.setIfInBounds_toArray, List.set_cons_zero, List.set_cons_succ, i64_w, i32_w]
                  rfl
                 refine pure_ (i := 17) (N := some 125) (v := ?_) (a' := ?_) #[true, true, true, true, true, true, true, true, true, true, true, true, true, true, true, false, false, true, false, false, false, false, false, false, false, false, false, false] rfl rfl (any_of HT_.out (by kernel_rfl)) (fun _ _ _ h => h) (Or.inl ⟨by rfl, ?_⟩) ?_ ?_
                 rotate_left
                 ·intro w'
                  go_simp
                  with_reducible rfl
                 rotate_left
                 ·simp only [Act.put, List.setIfInBounds_toArray, List.set_cons_zero, List.set_cons_succ, i64_w, i32_w]
                  rfl
                 refine pure_ (i := 19) (N := some 127) (v := ?_) (a' := ?_) #[true, true, true, true, true, true, true, true, true, true, true, true, true, true, true, false, false, true, false, true, false, false, false, false, false, false, false, false] rfl rfl (any_of HT_.out (by kernel_rfl)) (fun _ _ _ h => h) (Or.inl ⟨by rfl, ?_⟩) ?_ ?_
                 rotate_left
                 ·intro w'
                  go_simp
                  with_reducible rfl
                 rotate_left
                 ·simp only [Act.put, List.setIfInBounds_toArray, List.set_cons_zero, List.set_cons_succ, i64_w, i32_w]
                  rfl
                 refine join_ (σ := Value × Value) 9 #[true, true, true, true, true, true, true, true, true, true, true, true, true, true, true, true, true, true, false, true, false, false, false, false, false, false, false, false] (fun s_ => [(123, s_.1), (124, s_.2)]) (fun s_ w' => (w'.cell? ⟨gb309, 0, none⟩ = some (.int .i64 t300) ∧ w'.cell? ⟨gb309, 1, none⟩ = some (.int .i64 t301) ∧ w'.cell? ⟨gb309, 2, none⟩ = some (.slice Ao82 t302.length co82) ∧ w'.cell? ⟨gb329, 0, none⟩ = some (.int .i64 t320) ∧ w'.cell? ⟨gb329, 1, none⟩ = some (.int .i64 t321) ∧ w'.cell? ⟨gb329, 2, none⟩ = some (.slice Ao101 t322.length co101)) ∧ (Kd.V k50 50 w' w.heap.size (fun k_ => some k_ ≠ (.slice Ao102 t305.length co102 : Value).ownBlock ∧ some k_ ≠ (.slice Ao103 t315.length co103 : Value).ownBlock ∧ some k_ ≠ (.slice Ao104 t325.length co104 : Value).ownBlock ∧ some k_ ≠ (.slice Ao109 t333.length co109 : Value).ownBlock ∧ some k_ ≠ (.slice Ao110 t338.length co110 : Value).ownBlock ∧ some k_ ≠ (s_.1 : Value).ownBlock ∧ some k_ ≠ (s_.2 : Value).ownBlock ∧ k_ ≠ gb266 ∧ k_ ≠ gb278 ∧ k_ ≠ gb309 ∧ k_ ≠ gb319 ∧ k_ ≠ gb329) (.slice Ao82 t302.length co82) t302) ∧ (Kd.R k50 50 w' w.heap.size (fun k_ => some k_ ≠ (.slice Ao103 t315.length co103 : Value).ownBlock ∧ some k_ ≠ (.slice Ao104 t325.length co104 : Value).ownBlock ∧ some k_ ≠ (s_.2 : Value).ownBlock) (.slice Ao102 t305.length co102) t305) ∧ (Kd.V k50 50 w' w.heap.size (fun k_ => some k_ ≠ (.slice Ao102 t305.length co102 : Value).ownBlock ∧ some k_ ≠ (.slice Ao103 t315.length co103 : Value).ownBlock ∧ some k_ ≠ (.slice Ao104 t325.length co104 : Value).ownBlock ∧ some k_ ≠ (.slice Ao109 t333.length co109 : Value).ownBlock ∧ some k_ ≠ (.slice Ao110 t338.length co110 : Value).ownBlock ∧ some k_ ≠ (s_.1 : Value).ownBlock ∧ some k_ ≠ (s_.2 : Value).ownBlock ∧ k_ ≠ gb266 ∧ k_ ≠ gb278 ∧ k_ ≠ gb309 ∧ k_ ≠ gb319 ∧ k_ ≠ gb329) (.slice Ao91 t312.length co91) t312) ∧ (Kd.R k50 50 w' w.heap.size (fun k_ => some k_ ≠ (.slice Ao102 t305.length co102 : Value).ownBlock ∧ some k_ ≠ (.slice Ao104 t325.length co104 : Value).ownBlock ∧ some k_ ≠ (s_.2 : Value).ownBlock) (.slice Ao103 t315.length co103) t315) ∧ (Kd.V k50 50 w' w.heap.size (fun k_ => some k_ ≠ (.slice Ao102 t305.length co102 : Value).ownBlock ∧ some k_ ≠ (.slice Ao103 t315.length co103 : Value).ownBlock ∧ some k_ ≠ (.slice Ao104 t325.length co104 : Value).ownBlock ∧ some k_ ≠ (.slice Ao109 t333.length co109 : Value).ownBlock ∧ some k_ ≠ (.slice Ao110 t338.length co110 : Value).ownBlock ∧ some k_ ≠ (s_.1 : Value).ownBlock ∧ some k_ ≠ (s_.2 : Value).ownBlock ∧ k_ ≠ gb266 ∧ k_ ≠ gb278 ∧ k_ ≠ gb309 ∧ k_ ≠ gb319 ∧ k_ ≠ gb329) (.slice Ao101 t322.length co101) t322) ∧ (Kd.R k50 50 w' w.heap.size (fun k_ => some k_ ≠ (.slice Ao102 t305.length co102 : Value).ownBlock ∧ some k_ ≠ (.slice Ao103 t315.length co103 : Value).ownBlock ∧ some k_ ≠ (s_.2 : Value).ownBlock) (.slice Ao104 t325.length co104) t325) ∧ (Kd.R k61 61 w' w.heap.size (fun k_ => some k_ ≠ (.slice Ao110 t338.length co110 : Value).ownBlock ∧ some k_ ≠ (s_.1 : Value).ownBlock) (.slice Ao109 t333.length co109) t333) ∧ (Kd.R k61 61 w' w.heap.size (fun k_ => some k_ ≠ (.slice Ao109 t333.length co109 : Value).ownBlock ∧ some k_ ≠ (s_.1 : Value).ownBlock) (.slice Ao110 t338.length co110) t338) ∧ (Kd.R k61 61 w' w.heap.size (fun k_ => some k_ ≠ (.slice Ao109 t333.length co109 : Value).ownBlock ∧ some k_ ≠ (.slice Ao110 t338.length co110 : Value).ownBlock) s_.1 t342) ∧ (Kd.R k50 50 w' w.heap.size (fun k_ => some k_ ≠ (.slice Ao102 t305.length co102 : Value).ownBlock ∧ some k_ ≠ (.slice Ao103 t315.length co103 : Value).ownBlock ∧ some k_ ≠ (.slice Ao104 t325.length co104 : Value).ownBlock) s_.2 y345) ∧ (Kd.V k50 50 w' w.heap.size (fun k_ => some k_ ≠ (.slice Ao102 t305.length co102 : Value).ownBlock ∧ some k_ ≠ (.slice Ao103 t315.length co103 : Value).ownBlock ∧ some k_ ≠ (.slice Ao104 t325.length co104 : Value).ownBlock ∧ some k_ ≠ (.slice Ao109 t333.length co109 : Value).ownBlock ∧ some k_ ≠ (.slice Ao110 t338.length co110 : Value).ownBlock ∧ some k_ ≠ (s_.1 : Value).ownBlock ∧ some k_ ≠ (s_.2 : Value).ownBlock ∧ k_ ≠ gb266 ∧ k_ ≠ gb278 ∧ k_ ≠ gb309 ∧ k_ ≠ gb319 ∧ k_ ≠ gb329) (.slice Ao21 t271.length co21) t271) ∧ (w'.heap[gb266]? = some (.cells #[.int .i64 a0_0, .int .i64 a0_1, .slice A0_2 l0_2.length c0_2] 24 (0, 0))) ∧ (w'.heap[gb278]? = some (.cells #[.int .i64 t269, .int .i64 t270, .slice Ao21 t271.length co21] 24 (0, 0))) ∧ (w'.heap[gb309]? = some (.cells #[.int .i64 t300, .int .i64 t301, .slice Ao82 t302.length co82] 24 (0, 0))) ∧ (w'.heap[gb319]? = some (.cells #[.int .i64 t310, .int .i64 t311, .slice Ao91 t312.length co91] 24 (0, 0))) ∧ (w'.heap[gb329]? = some (.cells #[.int .i64 t320, .int .i64 t321, .slice Ao101 t322.length co101] 24 (0, 0))) ∧ (Below w.heap.size w w')) ?_ ?_
                 rotate_left
                 ·intro hCont
                  refine two_ (i := 15) (j := 16) (Ni := some 123) (Nj := some 124) #[true, true, true, true, true, true, true, true, true, true, true, true, true, true, true, true, false, true, false, true, false, false, false, false, false, false, false, false] #[true, true, true, true, true, true, true, true, true, true, true, true, true, true, true, false, true, true, false, true, false, false, false, false, false, false, false, false] rfl rfl rfl rfl (two_of HT_.out (by kernel_rfl)) (by decide) (by decide) (fun K hK => ?_) (fun K hK => ?_)
                  ·skip
                   refine goes_ Try.func22 (by kernel_rfl) rfl #[.slice Ao102 t305.length co102] (by rfl) rfl rfl zm ?_
                   with_reducible refine (handshakerlaw18_Refs.calls kj36 _ _ t305 t342 _ ?side1 ?side2 A68.out).mono ?_
                   (case side1 => repeat (first | exact (Kd.R_reads' HO307.out).2.2 | (with_reducible refine Kd.C_alloc ?_ _) | (with_reducible refine Kd.C_drewN ?_ _) | (with_reducible refine Kd.C_drew ?_)))
                   (case side2 => exact (Kd.R_reads' HO307.out).2.1)
                   rintro e w112 ⟨v343, rfl, ho0, hb⟩
                   refine ⟨_, rfl, ?_⟩
                   have n0_ := Aside0.mk (Kd.V_elder' (zV HO_279002) (Kd.R_base ho0) hb)
                   have n1_ := Aside0.mk (Kd.V_elder' (zV HO304) (Kd.R_base ho0) hb)
                   have n2_ := Aside0.mk (Kd.R_below (zR HO307) hb)
                   have n3_ := Aside0.mk (Kd.V_elder' (zV HO314) (Kd.R_base ho0) hb)
                   have n4_ := Aside0.mk (Kd.R_below (zR HO317) hb)
                   have n5_ := Aside0.mk (Kd.V_elder' (zV HO324) (Kd.R_base ho0) hb)
                   have n6_ := Aside0.mk (Kd.R_below (zR HO327) hb)
                   have n7_ := Aside0.mk (Kd.R_elder' (zR HO335) (Kd.R_base ho0) hb)
                   have n8_ := Aside0.mk (Kd.R_elder' (zR HO340) (Kd.R_base ho0) hb)
                   have n9_ := Aside0.mk (Kd.R_lower (Kd.R_new' (Kd.R_new' ho0 (Kd.R_lt (zR HO335))) (Kd.R_lt (zR HO340))) (below_size (zc5 HB GE266 GE278 GE309 GE319 GE329)))
                   have n10_ := Aside0.mk (blk_below (g := gb266) (o := .cells #[.int .i64 a0_0, .int .i64 a0_1, .slice A0_2 l0_2.length c0_2] 24 (0, 0)) (zb BK266) hb)
                   have n11_ := Aside0.mk (blk_below (g := gb278) (o := .cells #[.int .i64 t269, .int .i64 t270, .slice Ao21 t271.length co21] 24 (0, 0)) (zb BK278) hb)
                   have n12_ := Aside0.mk (blk_below (g := gb309) (o := .cells #[.int .i64 t300, .int .i64 t301, .slice Ao82 t302.length co82] 24 (0, 0)) (zb BK309) hb)
                   have n13_ := Aside0.mk (blk_below (g := gb319) (o := .cells #[.int .i64 t310, .int .i64 t311, .slice Ao91 t312.length co91] 24 (0, 0)) (zb BK319) hb)
                   have n14_ := Aside0.mk (blk_below (g := gb329) (o := .cells #[.int .i64 t320, .int .i64 t321, .slice Ao101 t322.length co101] 24 (0, 0)) (zb BK329) hb)
                   have n15_ := Aside0.mk (below_step (zc5 HB GE266 GE278 GE309 GE319 GE329) hb)
                   clear HO_279002
                   clear HO304
                   clear HO307
                   clear HO314
                   clear HO317
                   clear HO324
                   clear HO327
                   clear HO335
                   clear HO340
                   clear BK266
                   clear BK278
                   clear BK309
                   clear BK319
                   clear BK329
                   clear HB
                   have HO_279002 := n0_
                   have HO304 := n1_
                   have HO307 := n2_
                   have HO314 := n3_
                   have HO317 := n4_
                   have HO324 := n5_
                   have HO327 := n6_
                   have HO335 := n7_
                   have HO340 := n8_
                   have HO344 := n9_
                   have BK266 := n10_
                   have BK278 := n11_
                   have BK309 := n12_
                   have BK319 := n13_
                   have BK329 := n14_
                   have HB := n15_
                   clear n0_ n1_ n2_ n3_ n4_ n5_ n6_ n7_ n8_ n9_ n10_ n11_ n12_ n13_ n14_ n15_
                   (try clear hb)
                   (try clear hb2)
                   (try clear hk)
                   (try clear hi)
                   (try clear ho0)
                   refine hK.out _ _ ⟨(blk_cell BK309.out 0).trans rfl, (blk_cell BK309.out 1).trans rfl, (blk_cell BK309.out 2).trans rfl, (blk_cell BK329.out 0).trans rfl, (blk_cell BK329.out 1).trans rfl, (blk_cell BK329.out 2).trans rfl⟩ (fun hHeld => ?_)
                   clear hK K
                   refine norm_ (a' := ?_) ?_ ?_
                   rotate_left
                   ·show Act.put _ (some 123) _ = _
                    simp only [Act.put, List.setIfInBounds_toArray, List.set_cons_zero, List.set_cons_succ, i64_w, i32_w]
                    rfl
                   refine one_ (i := 16) (N := some 124) #[true, true, true, true, true, true, true, true, true, true, true, true, true, true, true, true, true, true, false, true, false, false, false, false, false, false, false, false] rfl rfl (one_of HT_.out (by kernel_rfl)) (by decide) (fun K hK => ?_)
                   refine Kd.R_lit_step k50 _ 50 ?hg (N := 124) ?hd (xs := ([] : List (S50))) (inner := []) (ok := fun _ => True) (okp := fun _ => True) ?hr ?hp (fun _ hk => hk) trivial (Below.refl _ _) (Nat.le_refl _) (by simp) ?_; (case hd => rfl); (case hg => rfl); (case hr => first | (go_simp; done) | (go_simp; rfl)); (case hp => exact (Reps.none _ _))
                   intro v346 w113 ho114 hb hg_ hnew_
                   clear hg_ hnew_
                   (first | rw [← Ny345.out] at ho114 | (simp only [Int.reduceToNat] at ho114; rw [← Ny345.out] at ho114))
                   have n0_ := Aside0.mk (Kd.V_elder' (zV HO_279002) (Kd.R_base ho114) hb)
                   have n1_ := Aside0.mk (Kd.V_elder' (zV HO304) (Kd.R_base ho114) hb)
                   have n2_ := Aside0.mk (Kd.R_elder' (zR HO307) (Kd.R_base ho114) hb)
                   have n3_ := Aside0.mk (Kd.V_elder' (zV HO314) (Kd.R_base ho114) hb)
                   have n4_ := Aside0.mk (Kd.R_elder' (zR HO317) (Kd.R_base ho114) hb)
                   have n5_ := Aside0.mk (Kd.V_elder' (zV HO324) (Kd.R_base ho114) hb)
                   have n6_ := Aside0.mk (Kd.R_elder' (zR HO327) (Kd.R_base ho114) hb)
                   have n7_ := Aside0.mk (Kd.R_below (zR HO335) hb)
                   have n8_ := Aside0.mk (Kd.R_below (zR HO340) hb)
                   have n9_ := Aside0.mk (Kd.R_below (zR HO344) hb)
                   have n10_ := Aside0.mk (Kd.R_lower (Kd.R_new' (Kd.R_new' (Kd.R_new' ho114 (Kd.R_lt (zR HO307))) (Kd.R_lt (zR HO317))) (Kd.R_lt (zR HO327))) (below_size (zc5 HB GE266 GE278 GE309 GE319 GE329)))
                   have n11_ := Aside0.mk (blk_below (g := gb266) (o := .cells #[.int .i64 a0_0, .int .i64 a0_1, .slice A0_2 l0_2.length c0_2] 24 (0, 0)) (zb BK266) hb)
                   have n12_ := Aside0.mk (blk_below (g := gb278) (o := .cells #[.int .i64 t269, .int .i64 t270, .slice Ao21 t271.length co21] 24 (0, 0)) (zb BK278) hb)
                   have n13_ := Aside0.mk (blk_below (g := gb309) (o := .cells #[.int .i64 t300, .int .i64 t301, .slice Ao82 t302.length co82] 24 (0, 0)) (zb BK309) hb)
                   have n14_ := Aside0.mk (blk_below (g := gb319) (o := .cells #[.int .i64 t310, .int .i64 t311, .slice Ao91 t312.length co91] 24 (0, 0)) (zb BK319) hb)
                   have n15_ := Aside0.mk (blk_below (g := gb329) (o := .cells #[.int .i64 t320, .int .i64 t321, .slice Ao101 t322.length co101] 24 (0, 0)) (zb BK329) hb)
                   have n16_ := Aside0.mk (below_step (zc5 HB GE266 GE278 GE309 GE319 GE329) hb)
                   clear HO_279002
                   clear HO304
                   clear HO307
                   clear HO314
                   clear HO317
                   clear HO324
                   clear HO327
                   clear HO335
                   clear HO340
                   clear HO344
                   clear BK266
                   clear BK278
                   clear BK309
                   clear BK319
                   clear BK329
                   clear HB
                   have HO_279002 := n0_
                   have HO304 := n1_
                   have HO307 := n2_
                   have HO314 := n3_
                   have HO317 := n4_
                   have HO324 := n5_
                   have HO327 := n6_
                   have HO335 := n7_
                   have HO340 := n8_
                   have HO344 := n9_
                   have HO347 := n10_
                   have BK266 := n11_
                   have BK278 := n12_
                   have BK309 := n13_
                   have BK319 := n14_
                   have BK329 := n15_
                   have HB := n16_
                   clear n0_ n1_ n2_ n3_ n4_ n5_ n6_ n7_ n8_ n9_ n10_ n11_ n12_ n13_ n14_ n15_ n16_
                   clear hb ho114
                   refine hK.out _ _ ⟨(blk_cell BK309.out 0).trans rfl, (blk_cell BK309.out 1).trans rfl, (blk_cell BK309.out 2).trans rfl, (blk_cell BK329.out 0).trans rfl, (blk_cell BK329.out 1).trans rfl, (blk_cell BK329.out 2).trans rfl⟩ (fun hHeld => ?_)
                   clear hK K
                   refine norm_ (a' := ?_) ?_ ?_
                   rotate_left
                   ·show Act.put _ (some 124) _ = _
                    simp only [Act.put, List.setIfInBounds_toArray, List.set_cons_zero, List.set_cons_succ, i64_w, i32_w]
                    rfl
                   exact norm_ (by simp only [putAll, Act.put, List.setIfInBounds_toArray, List.set_cons_zero, List.set_cons_succ]) (hCont (v343, v346) _ ⟨hHeld, (by (with_reducible repeat (first | apply Kd.V_alloc | apply Kd.V_drewN | apply Kd.V_drew)); exact Kd.V_mono HO304.out (fun _ hk => ⟨hk.1.1.1.1.1, ⟨hk.1.1.1.1.2.1, ⟨hk.1.1.1.1.2.2.1, ⟨hk.1.1.1.2, ⟨hk.1.1.2, ⟨hk.1.2, ⟨hk.2, ⟨hk.1.1.1.1.2.2.2.1, ⟨hk.1.1.1.1.2.2.2.2.1, ⟨hk.1.1.1.1.2.2.2.2.2.1, ⟨hk.1.1.1.1.2.2.2.2.2.2.1, hk.1.1.1.1.2.2.2.2.2.2.2⟩⟩⟩⟩⟩⟩⟩⟩⟩⟩⟩)), (by (with_reducible repeat (first | apply Kd.R_alloc | apply Kd.R_drewN | apply Kd.R_drew)); exact Kd.R_mono HO307.out (fun _ hk => ⟨hk.1.1, ⟨hk.1.2, hk.2⟩⟩)), (by (with_reducible repeat (first | apply Kd.V_alloc | apply Kd.V_drewN | apply Kd.V_drew)); exact Kd.V_mono HO314.out (fun _ hk => ⟨hk.1.1.1.1.1, ⟨hk.1.1.1.1.2.1, ⟨hk.1.1.1.1.2.2.1, ⟨hk.1.1.1.2, ⟨hk.1.1.2, ⟨hk.1.2, ⟨hk.2, ⟨hk.1.1.1.1.2.2.2.1, ⟨hk.1.1.1.1.2.2.2.2.1, ⟨hk.1.1.1.1.2.2.2.2.2.1, ⟨hk.1.1.1.1.2.2.2.2.2.2.1, hk.1.1.1.1.2.2.2.2.2.2.2⟩⟩⟩⟩⟩⟩⟩⟩⟩⟩⟩)), (by (with_reducible repeat (first | apply Kd.R_alloc | apply Kd.R_drewN | apply Kd.R_drew)); exact Kd.R_mono HO317.out (fun _ hk => ⟨hk.1.1, ⟨hk.1.2, hk.2⟩⟩)), (by (with_reducible repeat (first | apply Kd.V_alloc | apply Kd.V_drewN | apply Kd.V_drew)); exact Kd.V_mono HO324.out (fun _ hk => ⟨hk.1.1.1.1.1, ⟨hk.1.1.1.1.2.1, ⟨hk.1.1.1.1.2.2.1, ⟨hk.1.1.1.2, ⟨hk.1.1.2, ⟨hk.1.2, ⟨hk.2, ⟨hk.1.1.1.1.2.2.2.1, ⟨hk.1.1.1.1.2.2.2.2.1, ⟨hk.1.1.1.1.2.2.2.2.2.1, ⟨hk.1.1.1.1.2.2.2.2.2.2.1, hk.1.1.1.1.2.2.2.2.2.2.2⟩⟩⟩⟩⟩⟩⟩⟩⟩⟩⟩)), (by (with_reducible repeat (first | apply Kd.R_alloc | apply Kd.R_drewN | apply Kd.R_drew)); exact Kd.R_mono HO327.out (fun _ hk => ⟨hk.1.1, ⟨hk.1.2, hk.2⟩⟩)), (by (with_reducible repeat (first | apply Kd.R_alloc | apply Kd.R_drewN | apply Kd.R_drew)); exact Kd.R_mono HO335.out (fun _ hk => ⟨hk.1.2, hk.2⟩)), (by (with_reducible repeat (first | apply Kd.R_alloc | apply Kd.R_drewN | apply Kd.R_drew)); exact Kd.R_mono HO340.out (fun _ hk => ⟨hk.1.2, hk.2⟩)), (by (with_reducible repeat (first | apply Kd.R_alloc | apply Kd.R_drewN | apply Kd.R_drew)); exact Kd.R_mono HO344.out (fun _ hk => ⟨hk.1.2, hk.2⟩)), (by (with_reducible repeat (first | apply Kd.R_alloc | apply Kd.R_drewN | apply Kd.R_drew)); exact Kd.R_mono HO347.out (fun _ hk => ⟨hk.1.1.2, ⟨hk.1.2, hk.2⟩⟩)), (by (with_reducible repeat (first | apply Kd.V_alloc | apply Kd.V_drewN | apply Kd.V_drew)); exact Kd.V_mono HO_279002.out (fun _ hk => ⟨hk.1.1.1.1.1, ⟨hk.1.1.1.1.2.1, ⟨hk.1.1.1.1.2.2.1, ⟨hk.1.1.1.2, ⟨hk.1.1.2, ⟨hk.1.2, ⟨hk.2, ⟨hk.1.1.1.1.2.2.2.1, ⟨hk.1.1.1.1.2.2.2.2.1, ⟨hk.1.1.1.1.2.2.2.2.2.1, ⟨hk.1.1.1.1.2.2.2.2.2.2.1, hk.1.1.1.1.2.2.2.2.2.2.2⟩⟩⟩⟩⟩⟩⟩⟩⟩⟩⟩)), (zb BK266), (zb BK278), (zb BK309), (zb BK319), (zb BK329), (zc5 HB GE266 GE278 GE309 GE319 GE329)⟩)
                  ·skip
                   refine Kd.R_lit_step k50 _ 50 ?hg (N := 124) ?hd (xs := ([] : List (S50))) (inner := []) (ok := fun _ => True) (okp := fun _ => True) ?hr ?hp (fun _ hk => hk) trivial (Below.refl _ _) (Nat.le_refl _) (by simp) ?_; (case hd => rfl); (case hg => rfl); (case hr => first | (go_simp; done) | (go_simp; rfl)); (case hp => exact (Reps.none _ _))
                   intro v346 w112 ho113 hb hg_ hnew_
                   clear hg_ hnew_
                   (first | rw [← Ny345.out] at ho113 | (simp only [Int.reduceToNat] at ho113; rw [← Ny345.out] at ho113))
                   have n0_ := Aside0.mk (Kd.V_elder' (zV HO_279002) (Kd.R_base ho113) hb)
                   have n1_ := Aside0.mk (Kd.V_elder' (zV HO304) (Kd.R_base ho113) hb)
                   have n2_ := Aside0.mk (Kd.R_elder' (zR HO307) (Kd.R_base ho113) hb)
                   have n3_ := Aside0.mk (Kd.V_elder' (zV HO314) (Kd.R_base ho113) hb)
                   have n4_ := Aside0.mk (Kd.R_elder' (zR HO317) (Kd.R_base ho113) hb)
                   have n5_ := Aside0.mk (Kd.V_elder' (zV HO324) (Kd.R_base ho113) hb)
                   have n6_ := Aside0.mk (Kd.R_elder' (zR HO327) (Kd.R_base ho113) hb)
                   have n7_ := Aside0.mk (Kd.R_below (zR HO335) hb)
                   have n8_ := Aside0.mk (Kd.R_below (zR HO340) hb)
                   have n9_ := Aside0.mk (Kd.R_lower (Kd.R_new' (Kd.R_new' (Kd.R_new' ho113 (Kd.R_lt (zR HO307))) (Kd.R_lt (zR HO317))) (Kd.R_lt (zR HO327))) (below_size (zc5 HB GE266 GE278 GE309 GE319 GE329)))
                   have n10_ := Aside0.mk (blk_below (g := gb266) (o := .cells #[.int .i64 a0_0, .int .i64 a0_1, .slice A0_2 l0_2.length c0_2] 24 (0, 0)) (zb BK266) hb)
                   have n11_ := Aside0.mk (blk_below (g := gb278) (o := .cells #[.int .i64 t269, .int .i64 t270, .slice Ao21 t271.length co21] 24 (0, 0)) (zb BK278) hb)
                   have n12_ := Aside0.mk (blk_below (g := gb309) (o := .cells #[.int .i64 t300, .int .i64 t301, .slice Ao82 t302.length co82] 24 (0, 0)) (zb BK309) hb)
                   have n13_ := Aside0.mk (blk_below (g := gb319) (o := .cells #[.int .i64 t310, .int .i64 t311, .slice Ao91 t312.length co91] 24 (0, 0)) (zb BK319) hb)
                   have n14_ := Aside0.mk (blk_below (g := gb329) (o := .cells #[.int .i64 t320, .int .i64 t321, .slice Ao101 t322.length co101] 24 (0, 0)) (zb BK329) hb)
                   have n15_ := Aside0.mk (below_step (zc5 HB GE266 GE278 GE309 GE319 GE329) hb)
                   clear HO_279002
                   clear HO304
                   clear HO307
                   clear HO314
                   clear HO317
                   clear HO324
                   clear HO327
                   clear HO335
                   clear HO340
                   clear BK266
                   clear BK278
                   clear BK309
                   clear BK319
                   clear BK329
                   clear HB
                   have HO_279002 := n0_
                   have HO304 := n1_
                   have HO307 := n2_
                   have HO314 := n3_
                   have HO317 := n4_
                   have HO324 := n5_
                   have HO327 := n6_
                   have HO335 := n7_
                   have HO340 := n8_
                   have HO347 := n9_
                   have BK266 := n10_
                   have BK278 := n11_
                   have BK309 := n12_
                   have BK319 := n13_
                   have BK329 := n14_
                   have HB := n15_
                   clear n0_ n1_ n2_ n3_ n4_ n5_ n6_ n7_ n8_ n9_ n10_ n11_ n12_ n13_ n14_ n15_
                   clear hb ho113
                   refine hK.out _ _ ⟨(blk_cell BK309.out 0).trans rfl, (blk_cell BK309.out 1).trans rfl, (blk_cell BK309.out 2).trans rfl, (blk_cell BK329.out 0).trans rfl, (blk_cell BK329.out 1).trans rfl, (blk_cell BK329.out 2).trans rfl⟩ (fun hHeld => ?_)
                   clear hK K
                   refine norm_ (a' := ?_) ?_ ?_
                   rotate_left
                   ·show Act.put _ (some 124) _ = _
                    simp only [Act.put, List.setIfInBounds_toArray, List.set_cons_zero, List.set_cons_succ, i64_w, i32_w]
                    rfl
                   refine one_ (i := 15) (N := some 123) #[true, true, true, true, true, true, true, true, true, true, true, true, true, true, true, true, true, true, false, true, false, false, false, false, false, false, false, false] rfl rfl (one_of HT_.out (by kernel_rfl)) (by decide) (fun K hK => ?_)
                   refine goes_ Try.func22 (by kernel_rfl) rfl #[.slice Ao102 t305.length co102] (by rfl) rfl rfl zm ?_
                   with_reducible refine (handshakerlaw18_Refs.calls kj36 _ _ t305 t342 _ ?side1 ?side2 A68.out).mono ?_
                   (case side1 => repeat (first | exact (Kd.R_reads' HO307.out).2.2 | (with_reducible refine Kd.C_alloc ?_ _) | (with_reducible refine Kd.C_drewN ?_ _) | (with_reducible refine Kd.C_drew ?_)))
                   (case side2 => exact (Kd.R_reads' HO307.out).2.1)
                   rintro e w114 ⟨v343, rfl, ho0, hb⟩
                   refine ⟨_, rfl, ?_⟩
                   have n0_ := Aside0.mk (Kd.V_elder' (zV HO_279002) (Kd.R_base ho0) hb)
                   have n1_ := Aside0.mk (Kd.V_elder' (zV HO304) (Kd.R_base ho0) hb)
                   have n2_ := Aside0.mk (Kd.R_below (zR HO307) hb)
                   have n3_ := Aside0.mk (Kd.V_elder' (zV HO314) (Kd.R_base ho0) hb)
                   have n4_ := Aside0.mk (Kd.R_below (zR HO317) hb)
                   have n5_ := Aside0.mk (Kd.V_elder' (zV HO324) (Kd.R_base ho0) hb)
                   have n6_ := Aside0.mk (Kd.R_below (zR HO327) hb)
                   have n7_ := Aside0.mk (Kd.R_elder' (zR HO335) (Kd.R_base ho0) hb)
                   have n8_ := Aside0.mk (Kd.R_elder' (zR HO340) (Kd.R_base ho0) hb)
                   have n9_ := Aside0.mk (Kd.R_below (zR HO347) hb)
                   have n10_ := Aside0.mk (Kd.R_lower (Kd.R_new' (Kd.R_new' ho0 (Kd.R_lt (zR HO335))) (Kd.R_lt (zR HO340))) (below_size (zc5 HB GE266 GE278 GE309 GE319 GE329)))
                   have n11_ := Aside0.mk (blk_below (g := gb266) (o := .cells #[.int .i64 a0_0, .int .i64 a0_1, .slice A0_2 l0_2.length c0_2] 24 (0, 0)) (zb BK266) hb)
                   have n12_ := Aside0.mk (blk_below (g := gb278) (o := .cells #[.int .i64 t269, .int .i64 t270, .slice Ao21 t271.length co21] 24 (0, 0)) (zb BK278) hb)
                   have n13_ := Aside0.mk (blk_below (g := gb309) (o := .cells #[.int .i64 t300, .int .i64 t301, .slice Ao82 t302.length co82] 24 (0, 0)) (zb BK309) hb)
                   have n14_ := Aside0.mk (blk_below (g := gb319) (o := .cells #[.int .i64 t310, .int .i64 t311, .slice Ao91 t312.length co91] 24 (0, 0)) (zb BK319) hb)
                   have n15_ := Aside0.mk (blk_below (g := gb329) (o := .cells #[.int .i64 t320, .int .i64 t321, .slice Ao101 t322.length co101] 24 (0, 0)) (zb BK329) hb)
                   have n16_ := Aside0.mk (below_step (zc5 HB GE266 GE278 GE309 GE319 GE329) hb)
                   clear HO_279002
                   clear HO304
                   clear HO307
                   clear HO314
                   clear HO317
                   clear HO324
                   clear HO327
                   clear HO335
                   clear HO340
                   clear HO347
                   clear BK266
                   clear BK278
                   clear BK309
                   clear BK319
                   clear BK329
                   clear HB
                   have HO_279002 := n0_
                   have HO304 := n1_
                   have HO307 := n2_
                   have HO314 := n3_
                   have HO317 := n4_
                   have HO324 := n5_
                   have HO327 := n6_
                   have HO335 := n7_
                   have HO340 := n8_
                   have HO347 := n9_
                   have HO344 := n10_
                   have BK266 := n11_
                   have BK278 := n12_
                   have BK309 := n13_
                   have BK319 := n14_
                   have BK329 := n15_
                   have HB := n16_
                   clear n0_ n1_ n2_ n3_ n4_ n5_ n6_ n7_ n8_ n9_ n10_ n11_ n12_ n13_ n14_ n15_ n16_
                   (try clear hb)
                   (try clear hb2)
                   (try clear hk)
                   (try clear hi)
                   (try clear ho0)
                   refine hK.out _ _ ⟨(blk_cell BK309.out 0).trans rfl, (blk_cell BK309.out 1).trans rfl, (blk_cell BK309.out 2).trans rfl, (blk_cell BK329.out 0).trans rfl, (blk_cell BK329.out 1).trans rfl, (blk_cell BK329.out 2).trans rfl⟩ (fun hHeld => ?_)
                   clear hK K
                   refine norm_ (a' := ?_) ?_ ?_
                   rotate_left
                   ·show Act.put _ (some 123) _ = _
                    simp only [Act.put, List.setIfInBounds_toArray, List.set_cons_zero, List.set_cons_succ, i64_w, i32_w]
                    rfl
                   exact norm_ (by simp only [putAll, Act.put, List.setIfInBounds_toArray, List.set_cons_zero, List.set_cons_succ]) (hCont (v343, v346) _ ⟨hHeld, (by (with_reducible repeat (first | apply Kd.V_alloc | apply Kd.V_drewN | apply Kd.V_drew)); exact Kd.V_mono HO304.out (fun _ hk => ⟨hk.1.1.1.1.1, ⟨hk.1.1.1.1.2.1, ⟨hk.1.1.1.1.2.2.1, ⟨hk.1.1.1.2, ⟨hk.1.1.2, ⟨hk.2, ⟨hk.1.2, ⟨hk.1.1.1.1.2.2.2.1, ⟨hk.1.1.1.1.2.2.2.2.1, ⟨hk.1.1.1.1.2.2.2.2.2.1, ⟨hk.1.1.1.1.2.2.2.2.2.2.1, hk.1.1.1.1.2.2.2.2.2.2.2⟩⟩⟩⟩⟩⟩⟩⟩⟩⟩⟩)), (by (with_reducible repeat (first | apply Kd.R_alloc | apply Kd.R_drewN | apply Kd.R_drew)); exact Kd.R_mono HO307.out (fun _ hk => ⟨hk.1.1, ⟨hk.1.2, hk.2⟩⟩)), (by (with_reducible repeat (first | apply Kd.V_alloc | apply Kd.V_drewN | apply Kd.V_drew)); exact Kd.V_mono HO314.out (fun _ hk => ⟨hk.1.1.1.1.1, ⟨hk.1.1.1.1.2.1, ⟨hk.1.1.1.1.2.2.1, ⟨hk.1.1.1.2, ⟨hk.1.1.2, ⟨hk.2, ⟨hk.1.2, ⟨hk.1.1.1.1.2.2.2.1, ⟨hk.1.1.1.1.2.2.2.2.1, ⟨hk.1.1.1.1.2.2.2.2.2.1, ⟨hk.1.1.1.1.2.2.2.2.2.2.1, hk.1.1.1.1.2.2.2.2.2.2.2⟩⟩⟩⟩⟩⟩⟩⟩⟩⟩⟩)), (by (with_reducible repeat (first | apply Kd.R_alloc | apply Kd.R_drewN | apply Kd.R_drew)); exact Kd.R_mono HO317.out (fun _ hk => ⟨hk.1.1, ⟨hk.1.2, hk.2⟩⟩)), (by (with_reducible repeat (first | apply Kd.V_alloc | apply Kd.V_drewN | apply Kd.V_drew)); exact Kd.V_mono HO324.out (fun _ hk => ⟨hk.1.1.1.1.1, ⟨hk.1.1.1.1.2.1, ⟨hk.1.1.1.1.2.2.1, ⟨hk.1.1.1.2, ⟨hk.1.1.2, ⟨hk.2, ⟨hk.1.2, ⟨hk.1.1.1.1.2.2.2.1, ⟨hk.1.1.1.1.2.2.2.2.1, ⟨hk.1.1.1.1.2.2.2.2.2.1, ⟨hk.1.1.1.1.2.2.2.2.2.2.1, hk.1.1.1.1.2.2.2.2.2.2.2⟩⟩⟩⟩⟩⟩⟩⟩⟩⟩⟩)), (by (with_reducible repeat (first | apply Kd.R_alloc | apply Kd.R_drewN | apply Kd.R_drew)); exact Kd.R_mono HO327.out (fun _ hk => ⟨hk.1.1, ⟨hk.1.2, hk.2⟩⟩)), (by (with_reducible repeat (first | apply Kd.R_alloc | apply Kd.R_drewN | apply Kd.R_drew)); exact Kd.R_mono HO335.out (fun _ hk => ⟨hk.1.2, hk.2⟩)), (by (with_reducible repeat (first | apply Kd.R_alloc | apply Kd.R_drewN | apply Kd.R_drew)); exact Kd.R_mono HO340.out (fun _ hk => ⟨hk.1.2, hk.2⟩)), (by (with_reducible repeat (first | apply Kd.R_alloc | apply Kd.R_drewN | apply Kd.R_drew)); exact Kd.R_mono HO344.out (fun _ hk => ⟨hk.1.2, hk.2⟩)), (by (with_reducible repeat (first | apply Kd.R_alloc | apply Kd.R_drewN | apply Kd.R_drew)); exact Kd.R_mono HO347.out (fun _ hk => ⟨hk.1.1.2, ⟨hk.1.2, hk.2⟩⟩)), (by (with_reducible repeat (first | apply Kd.V_alloc | apply Kd.V_drewN | apply Kd.V_drew)); exact Kd.V_mono HO_279002.out (fun _ hk => ⟨hk.1.1.1.1.1, ⟨hk.1.1.1.1.2.1, ⟨hk.1.1.1.1.2.2.1, ⟨hk.1.1.1.2, ⟨hk.1.1.2, ⟨hk.2, ⟨hk.1.2, ⟨hk.1.1.1.1.2.2.2.1, ⟨hk.1.1.1.1.2.2.2.2.1, ⟨hk.1.1.1.1.2.2.2.2.2.1, ⟨hk.1.1.1.1.2.2.2.2.2.2.1, hk.1.1.1.1.2.2.2.2.2.2.2⟩⟩⟩⟩⟩⟩⟩⟩⟩⟩⟩)), (zb BK266), (zb BK278), (zb BK309), (zb BK319), (zb BK329), (zc5 HB GE266 GE278 GE309 GE319 GE329)⟩)
                 rintro ⟨v343, v346⟩ w115 ⟨hS_, h0_, h1_, h2_, h3_, h4_, h5_, h6_, h7_, h8_, h9_, h10_, h11_, h12_, h13_, h14_, h15_, h16_⟩
                 have n0_ : Aside0 (Kd.V k50 50 w115 w.heap.size (fun k_ => some k_ ≠ (.slice Ao102 t305.length co102 : Value).ownBlock ∧ some k_ ≠ (.slice Ao103 t315.length co103 : Value).ownBlock ∧ some k_ ≠ (.slice Ao104 t325.length co104 : Value).ownBlock ∧ some k_ ≠ (.slice Ao109 t333.length co109 : Value).ownBlock ∧ some k_ ≠ (.slice Ao110 t338.length co110 : Value).ownBlock ∧ some k_ ≠ (v343 : Value).ownBlock ∧ some k_ ≠ (v346 : Value).ownBlock ∧ k_ ≠ gb266 ∧ k_ ≠ gb278 ∧ k_ ≠ gb309 ∧ k_ ≠ gb319 ∧ k_ ≠ gb329) (.slice Ao82 t302.length co82) t302) := ⟨h0_⟩
                 have n1_ : Aside0 (Kd.R k50 50 w115 w.heap.size (fun k_ => some k_ ≠ (.slice Ao103 t315.length co103 : Value).ownBlock ∧ some k_ ≠ (.slice Ao104 t325.length co104 : Value).ownBlock ∧ some k_ ≠ (v346 : Value).ownBlock) (.slice Ao102 t305.length co102) t305) := ⟨h1_⟩
                 have n2_ : Aside0 (Kd.V k50 50 w115 w.heap.size (fun k_ => some k_ ≠ (.slice Ao102 t305.length co102 : Value).ownBlock ∧ some k_ ≠ (.slice Ao103 t315.length co103 : Value).ownBlock ∧ some k_ ≠ (.slice Ao104 t325.length co104 : Value).ownBlock ∧ some k_ ≠ (.slice Ao109 t333.length co109 : Value).ownBlock ∧ some k_ ≠ (.slice Ao110 t338.length co110 : Value).ownBlock ∧ some k_ ≠ (v343 : Value).ownBlock ∧ some k_ ≠ (v346 : Value).ownBlock ∧ k_ ≠ gb266 ∧ k_ ≠ gb278 ∧ k_ ≠ gb309 ∧ k_ ≠ gb319 ∧ k_ ≠ gb329) (.slice Ao91 t312.length co91) t312) := ⟨h2_⟩
                 have n3_ : Aside0 (Kd.R k50 50 w115 w.heap.size (fun k_ => some k_ ≠ (.slice Ao102 t305.length co102 : Value).ownBlock ∧ some k_ ≠ (.slice Ao104 t325.length co104 : Value).ownBlock ∧ some k_ ≠ (v346 : Value).ownBlock) (.slice Ao103 t315.length co103) t315) := ⟨h3_⟩
                 have n4_ : Aside0 (Kd.V k50 50 w115 w.heap.size (fun k_ => some k_ ≠ (.slice Ao102 t305.length co102 : Value).ownBlock ∧ some k_ ≠ (.slice Ao103 t315.length co103 : Value).ownBlock ∧ some k_ ≠ (.slice Ao104 t325.length co104 : Value).ownBlock ∧ some k_ ≠ (.slice Ao109 t333.length co109 : Value).ownBlock ∧ some k_ ≠ (.slice Ao110 t338.length co110 : Value).ownBlock ∧ some k_ ≠ (v343 : Value).ownBlock ∧ some k_ ≠ (v346 : Value).ownBlock ∧ k_ ≠ gb266 ∧ k_ ≠ gb278 ∧ k_ ≠ gb309 ∧ k_ ≠ gb319 ∧ k_ ≠ gb329) (.slice Ao101 t322.length co101) t322) := ⟨h4_⟩
                 have n5_ : Aside0 (Kd.R k50 50 w115 w.heap.size (fun k_ => some k_ ≠ (.slice Ao102 t305.length co102 : Value).ownBlock ∧ some k_ ≠ (.slice Ao103 t315.length co103 : Value).ownBlock ∧ some k_ ≠ (v346 : Value).ownBlock) (.slice Ao104 t325.length co104) t325) := ⟨h5_⟩
                 have n6_ : Aside0 (Kd.R k61 61 w115 w.heap.size (fun k_ => some k_ ≠ (.slice Ao110 t338.length co110 : Value).ownBlock ∧ some k_ ≠ (v343 : Value).ownBlock) (.slice Ao109 t333.length co109) t333) := ⟨h6_⟩
                 have n7_ : Aside0 (Kd.R k61 61 w115 w.heap.size (fun k_ => some k_ ≠ (.slice Ao109 t333.length co109 : Value).ownBlock ∧ some k_ ≠ (v343 : Value).ownBlock) (.slice Ao110 t338.length co110) t338) := ⟨h7_⟩
                 have n8_ : Aside0 (Kd.R k61 61 w115 w.heap.size (fun k_ => some k_ ≠ (.slice Ao109 t333.length co109 : Value).ownBlock ∧ some k_ ≠ (.slice Ao110 t338.length co110 : Value).ownBlock) v343 t342) := ⟨h8_⟩
                 have n9_ : Aside0 (Kd.R k50 50 w115 w.heap.size (fun k_ => some k_ ≠ (.slice Ao102 t305.length co102 : Value).ownBlock ∧ some k_ ≠ (.slice Ao103 t315.length co103 : Value).ownBlock ∧ some k_ ≠ (.slice Ao104 t325.length co104 : Value).ownBlock) v346 y345) := ⟨h9_⟩
                 have n10_ : Aside0 (Kd.V k50 50 w115 w.heap.size (fun k_ => some k_ ≠ (.slice Ao102 t305.length co102 : Value).ownBlock ∧ some k_ ≠ (.slice Ao103 t315.length co103 : Value).ownBlock ∧ some k_ ≠ (.slice Ao104 t325.length co104 : Value).ownBlock ∧ some k_ ≠ (.slice Ao109 t333.length co109 : Value).ownBlock ∧ some k_ ≠ (.slice Ao110 t338.length co110 : Value).ownBlock ∧ some k_ ≠ (v343 : Value).ownBlock ∧ some k_ ≠ (v346 : Value).ownBlock ∧ k_ ≠ gb266 ∧ k_ ≠ gb278 ∧ k_ ≠ gb309 ∧ k_ ≠ gb319 ∧ k_ ≠ gb329) (.slice Ao21 t271.length co21) t271) := ⟨h10_⟩
                 have n11_ : Aside0 (w115.heap[gb266]? = some (.cells #[.int .i64 a0_0, .int .i64 a0_1, .slice A0_2 l0_2.length c0_2] 24 (0, 0))) := ⟨h11_⟩
                 have n12_ : Aside0 (w115.heap[gb278]? = some (.cells #[.int .i64 t269, .int .i64 t270, .slice Ao21 t271.length co21] 24 (0, 0))) := ⟨h12_⟩
                 have n13_ : Aside0 (w115.heap[gb309]? = some (.cells #[.int .i64 t300, .int .i64 t301, .slice Ao82 t302.length co82] 24 (0, 0))) := ⟨h13_⟩
                 have n14_ : Aside0 (w115.heap[gb319]? = some (.cells #[.int .i64 t310, .int .i64 t311, .slice Ao91 t312.length co91] 24 (0, 0))) := ⟨h14_⟩
                 have n15_ : Aside0 (w115.heap[gb329]? = some (.cells #[.int .i64 t320, .int .i64 t321, .slice Ao101 t322.length co101] 24 (0, 0))) := ⟨h15_⟩
                 have n16_ : Aside0 (Below w.heap.size w w115) := ⟨h16_⟩
                 clear HO_279002
                 clear HO304
                 clear HO307
                 clear HO314
                 clear HO317
                 clear HO324
                 clear HO327
                 clear BK266
                 clear BK278
                 clear BK309
                 clear BK319
                 clear BK329
                 clear HB
                 clear h0_ h1_ h2_ h3_ h4_ h5_ h6_ h7_ h8_ h9_ h10_ h11_ h12_ h13_ h14_ h15_ h16_
                 have HO304 := n0_
                 have HO307 := n1_
                 have HO314 := n2_
                 have HO317 := n3_
                 have HO324 := n4_
                 have HO327 := n5_
                 have HO335 := n6_
                 have HO340 := n7_
                 have HO344 := n8_
                 have HO347 := n9_
                 have HO_279002 := n10_
                 have BK266 := n11_
                 have BK278 := n12_
                 have BK309 := n13_
                 have BK319 := n14_
                 have BK329 := n15_
                 have HB := n16_
                 clear n0_ n1_ n2_ n3_ n4_ n5_ n6_ n7_ n8_ n9_ n10_ n11_ n12_ n13_ n14_ n15_ n16_
                 have hHeld : w115.cell? ⟨gb309, 0, none⟩ = some (.int .i64 t300) ∧ w115.cell? ⟨gb309, 1, none⟩ = some (.int .i64 t301) ∧ w115.cell? ⟨gb309, 2, none⟩ = some (.slice Ao82 t302.length co82) ∧ w115.cell? ⟨gb329, 0, none⟩ = some (.int .i64 t320) ∧ w115.cell? ⟨gb329, 1, none⟩ = some (.int .i64 t321) ∧ w115.cell? ⟨gb329, 2, none⟩ = some (.slice Ao101 t322.length co101) := hS_
                 refine norm_ (a' := ?_) ?_ ?_
                 rotate_left
                 ·simp only [putAll, Act.put, List.setIfInBounds_toArray, List.set_cons_zero, List.set_cons_succ]
                  rfl
                 refine one_ (i := 18) (N := some 126) #[true, true, true, true, true, true, true, true, true, true, true, true, true, true, true, true, true, true, true, true, false, false, false, false, false, false, false, false] rfl rfl (one_of HT_.out (by kernel_rfl)) (by decide) (fun K hK => ?_)
                 refine Kd.R_append_rows_step k50 (w0 := w) w.heap.size (by rfl) (.tmp 124) (.tmp 125) 22 50 (.agg #[(.int .i64 0), (.int .i64 0)]) 16 rfl Try.underlying22 info50 rfl (by decide) (by omega) v346 y345 t315 _ _ _ (fun k_ => some k_ ≠ (.slice Ao102 t305.length co102 : Value).ownBlock ∧ some k_ ≠ (.slice Ao103 t315.length co103 : Value).ownBlock ∧ some k_ ≠ (.slice Ao104 t325.length co104 : Value).ownBlock) (fun _ => False) rfl rfl ?aO ?aR (fun _ _ h => h) (fun _ h => h.elim) ?aF ?aB ?aS ?aL ?_
                 (case aR => repeat (first | exact (Kd.R_reads' HO317.out).2.2 | (with_reducible refine Kd.C_alloc ?_ _) | (with_reducible refine Kd.C_drewN ?_ _) | (with_reducible refine Kd.C_drew ?_)))
                 (case aB => exact (zc5 HB GE266 GE278 GE309 GE319 GE329))
                 (case aF => exact (fun k_ hk => ⟨Kd.fresh' (Kd.R_lt (zR HO307)) k_ hk, Kd.fresh' (Kd.R_lt (zR HO317)) k_ hk, Kd.fresh' (Kd.R_lt (zR HO327)) k_ hk⟩))
                 (case aO => exact (zR HO347))
                 (case aS => exact (below_size (zc5 HB GE266 GE278 GE309 GE319 GE329)))
                 (case aL => have := LMc69.out; omega)
                 intro v349 w116 ho hb hg hat
                 rw [← Ny348.out] at ho
                 have n0_ := Aside0.mk (Kd.V_afterv (ok := (fun k_ => some k_ ≠ (.slice Ao102 t305.length co102 : Value).ownBlock ∧ some k_ ≠ (.slice Ao103 t315.length co103 : Value).ownBlock ∧ some k_ ≠ (.slice Ao104 t325.length co104 : Value).ownBlock ∧ some k_ ≠ (.slice Ao109 t333.length co109 : Value).ownBlock ∧ some k_ ≠ (.slice Ao110 t338.length co110 : Value).ownBlock ∧ some k_ ≠ (v343 : Value).ownBlock ∧ k_ ≠ gb266 ∧ k_ ≠ gb278 ∧ k_ ≠ gb309 ∧ k_ ≠ gb319 ∧ k_ ≠ gb329)) (by (with_reducible repeat (first | apply Kd.V_alloc | apply Kd.V_drewN | apply Kd.V_drew)); exact Kd.V_mono HO_279002.out (fun _ hk => ⟨⟨hk.1, ⟨hk.2.1, ⟨hk.2.2.1, ⟨hk.2.2.2.1, ⟨hk.2.2.2.2.1, ⟨hk.2.2.2.2.2.1, ⟨hk.2.2.2.2.2.2.2.1, ⟨hk.2.2.2.2.2.2.2.2.1, ⟨hk.2.2.2.2.2.2.2.2.2.1, ⟨hk.2.2.2.2.2.2.2.2.2.2.1, hk.2.2.2.2.2.2.2.2.2.2.2⟩⟩⟩⟩⟩⟩⟩⟩⟩⟩, hk.2.2.2.2.2.2.1⟩)) hg hat)
                 have n1_ := Aside0.mk (blk_grown (g := gb266) (o := .cells #[.int .i64 a0_0, .int .i64 a0_1, .slice A0_2 l0_2.length c0_2] 24 (0, 0)) (zb BK266) hg (Kd.R_ne HO347.out BK266.out (by decide)))
                 have n2_ := Aside0.mk (blk_grown (g := gb278) (o := .cells #[.int .i64 t269, .int .i64 t270, .slice Ao21 t271.length co21] 24 (0, 0)) (zb BK278) hg (Kd.R_ne HO347.out BK278.out (by decide)))
                 have n3_ := Aside0.mk (Kd.V_afterv (ok := (fun k_ => some k_ ≠ (.slice Ao102 t305.length co102 : Value).ownBlock ∧ some k_ ≠ (.slice Ao103 t315.length co103 : Value).ownBlock ∧ some k_ ≠ (.slice Ao104 t325.length co104 : Value).ownBlock ∧ some k_ ≠ (.slice Ao109 t333.length co109 : Value).ownBlock ∧ some k_ ≠ (.slice Ao110 t338.length co110 : Value).ownBlock ∧ some k_ ≠ (v343 : Value).ownBlock ∧ k_ ≠ gb266 ∧ k_ ≠ gb278 ∧ k_ ≠ gb309 ∧ k_ ≠ gb319 ∧ k_ ≠ gb329)) (by (with_reducible repeat (first | apply Kd.V_alloc | apply Kd.V_drewN | apply Kd.V_drew)); exact Kd.V_mono HO304.out (fun _ hk => ⟨⟨hk.1, ⟨hk.2.1, ⟨hk.2.2.1, ⟨hk.2.2.2.1, ⟨hk.2.2.2.2.1, ⟨hk.2.2.2.2.2.1, ⟨hk.2.2.2.2.2.2.2.1, ⟨hk.2.2.2.2.2.2.2.2.1, ⟨hk.2.2.2.2.2.2.2.2.2.1, ⟨hk.2.2.2.2.2.2.2.2.2.2.1, hk.2.2.2.2.2.2.2.2.2.2.2⟩⟩⟩⟩⟩⟩⟩⟩⟩⟩, hk.2.2.2.2.2.2.1⟩)) hg hat)
                 have n4_ := Aside0.mk (Kd.R_after (ok := (fun k_ => some k_ ≠ (.slice Ao103 t315.length co103 : Value).ownBlock ∧ some k_ ≠ (.slice Ao104 t325.length co104 : Value).ownBlock)) (by (with_reducible repeat (first | apply Kd.R_alloc | apply Kd.R_drewN | apply Kd.R_drew)); exact Kd.R_mono HO307.out (fun _ hk => ⟨⟨hk.1, hk.2.1⟩, hk.2.2⟩)) hg hat)
                 have n5_ := Aside0.mk (blk_grown (g := gb309) (o := .cells #[.int .i64 t300, .int .i64 t301, .slice Ao82 t302.length co82] 24 (0, 0)) (zb BK309) hg (Kd.R_ne HO347.out BK309.out (by decide)))
                 have n6_ := Aside0.mk (Kd.V_afterv (ok := (fun k_ => some k_ ≠ (.slice Ao102 t305.length co102 : Value).ownBlock ∧ some k_ ≠ (.slice Ao103 t315.length co103 : Value).ownBlock ∧ some k_ ≠ (.slice Ao104 t325.length co104 : Value).ownBlock ∧ some k_ ≠ (.slice Ao109 t333.length co109 : Value).ownBlock ∧ some k_ ≠ (.slice Ao110 t338.length co110 : Value).ownBlock ∧ some k_ ≠ (v343 : Value).ownBlock ∧ k_ ≠ gb266 ∧ k_ ≠ gb278 ∧ k_ ≠ gb309 ∧ k_ ≠ gb319 ∧ k_ ≠ gb329)) (by (with_reducible repeat (first | apply Kd.V_alloc | apply Kd.V_drewN | apply Kd.V_drew)); exact Kd.V_mono HO314.out (fun _ hk => ⟨⟨hk.1, ⟨hk.2.1, ⟨hk.2.2.1, ⟨hk.2.2.2.1, ⟨hk.2.2.2.2.1, ⟨hk.2.2.2.2.2.1, ⟨hk.2.2.2.2.2.2.2.1, ⟨hk.2.2.2.2.2.2.2.2.1, ⟨hk.2.2.2.2.2.2.2.2.2.1, ⟨hk.2.2.2.2.2.2.2.2.2.2.1, hk.2.2.2.2.2.2.2.2.2.2.2⟩⟩⟩⟩⟩⟩⟩⟩⟩⟩, hk.2.2.2.2.2.2.1⟩)) hg hat)
                 have n7_ := Aside0.mk (Kd.R_after (ok := (fun k_ => some k_ ≠ (.slice Ao102 t305.length co102 : Value).ownBlock ∧ some k_ ≠ (.slice Ao104 t325.length co104 : Value).ownBlock)) (by (with_reducible repeat (first | apply Kd.R_alloc | apply Kd.R_drewN | apply Kd.R_drew)); exact Kd.R_mono HO317.out (fun _ hk => ⟨⟨hk.1, hk.2.1⟩, hk.2.2⟩)) hg hat)
                 have n8_ := Aside0.mk (blk_grown (g := gb319) (o := .cells #[.int .i64 t310, .int .i64 t311, .slice Ao91 t312.length co91] 24 (0, 0)) (zb BK319) hg (Kd.R_ne HO347.out BK319.out (by decide)))
                 have n9_ := Aside0.mk (Kd.V_afterv (ok := (fun k_ => some k_ ≠ (.slice Ao102 t305.length co102 : Value).ownBlock ∧ some k_ ≠ (.slice Ao103 t315.length co103 : Value).ownBlock ∧ some k_ ≠ (.slice Ao104 t325.length co104 : Value).ownBlock ∧ some k_ ≠ (.slice Ao109 t333.length co109 : Value).ownBlock ∧ some k_ ≠ (.slice Ao110 t338.length co110 : Value).ownBlock ∧ some k_ ≠ (v343 : Value).ownBlock ∧ k_ ≠ gb266 ∧ k_ ≠ gb278 ∧ k_ ≠ gb309 ∧ k_ ≠ gb319 ∧ k_ ≠ gb329)) (by (with_reducible repeat (first | apply Kd.V_alloc | apply Kd.V_drewN | apply Kd.V_drew)); exact Kd.V_mono HO324.out (fun _ hk => ⟨⟨hk.1, ⟨hk.2.1, ⟨hk.2.2.1, ⟨hk.2.2.2.1, ⟨hk.2.2.2.2.1, ⟨hk.2.2.2.2.2.1, ⟨hk.2.2.2.2.2.2.2.1, ⟨hk.2.2.2.2.2.2.2.2.1, ⟨hk.2.2.2.2.2.2.2.2.2.1, ⟨hk.2.2.2.2.2.2.2.2.2.2.1, hk.2.2.2.2.2.2.2.2.2.2.2⟩⟩⟩⟩⟩⟩⟩⟩⟩⟩, hk.2.2.2.2.2.2.1⟩)) hg hat)
                 have n10_ := Aside0.mk (Kd.R_after (ok := (fun k_ => some k_ ≠ (.slice Ao102 t305.length co102 : Value).ownBlock ∧ some k_ ≠ (.slice Ao103 t315.length co103 : Value).ownBlock)) (by (with_reducible repeat (first | apply Kd.R_alloc | apply Kd.R_drewN | apply Kd.R_drew)); exact Kd.R_mono HO327.out (fun _ hk => ⟨⟨hk.1, hk.2.1⟩, hk.2.2⟩)) hg hat)
                 have n11_ := Aside0.mk (blk_grown (g := gb329) (o := .cells #[.int .i64 t320, .int .i64 t321, .slice Ao101 t322.length co101] 24 (0, 0)) (zb BK329) hg (Kd.R_ne HO347.out BK329.out (by decide)))
                 have n12_ := Aside0.mk (Kd.R_over' (zR HO335) (Kd.R_typed (zR HO347)) (by decide) hg)
                 have n13_ := Aside0.mk (Kd.R_over' (zR HO340) (Kd.R_typed (zR HO347)) (by decide) hg)
                 have n14_ := Aside0.mk (Kd.R_over' (zR HO344) (Kd.R_typed (zR HO347)) (by decide) hg)
                 have n15_ := Aside0.mk (hb)
                 have n16_ := Aside0.mk (ho)
                 clear HO_279002
                 clear BK266
                 clear BK278
                 clear HO304
                 clear HO307
                 clear BK309
                 clear HO314
                 clear HO317
                 clear BK319
                 clear HO324
                 clear HO327
                 clear BK329
                 clear HO335
                 clear HO340
                 clear HO344
                 clear HB
                 clear HO347
                 have HO_279002 := n0_
                 have BK266 := n1_
                 have BK278 := n2_
                 have HO304 := n3_
                 have HO307 := n4_
                 have BK309 := n5_
                 have HO314 := n6_
                 have HO317 := n7_
                 have BK319 := n8_
                 have HO324 := n9_
                 have HO327 := n10_
                 have BK329 := n11_
                 have HO335 := n12_
                 have HO340 := n13_
                 have HO344 := n14_
                 have HB := n15_
                 have HO350 := n16_
                 clear n0_ n1_ n2_ n3_ n4_ n5_ n6_ n7_ n8_ n9_ n10_ n11_ n12_ n13_ n14_ n15_ n16_
                 clear ho hb hg hat
                 refine hK.out _ _ ⟨(blk_cell BK309.out 0).trans rfl, (blk_cell BK309.out 1).trans rfl, (blk_cell BK309.out 2).trans rfl, (blk_cell BK329.out 0).trans rfl, (blk_cell BK329.out 1).trans rfl, (blk_cell BK329.out 2).trans rfl⟩ (fun hHeld => ?_)
                 clear hK K
                 refine norm_ (a' := ?_) ?_ ?_
                 rotate_left
                 ·show Act.put _ (some 126) _ = _
                  simp only [Act.put, List.setIfInBounds_toArray, List.set_cons_zero, List.set_cons_succ, i64_w, i32_w]
                  rfl
                 refine one_ (i := 20) (N := some 128) #[true, true, true, true, true, true, true, true, true, true, true, true, true, true, true, true, true, true, true, true, true, false, false, false, false, false, false, false] rfl rfl (one_of HT_.out (by kernel_rfl)) (by decide) (fun K hK => ?_)
                 refine Kd.R_append_rows_step k50 (w0 := w) w.heap.size (by rfl) (.tmp 126) (.tmp 127) 22 50 (.agg #[(.int .i64 0), (.int .i64 0)]) 16 rfl Try.underlying22 info50 rfl (by decide) (by omega) v349 y348 t325 _ _ _ (fun k_ => some k_ ≠ (.slice Ao102 t305.length co102 : Value).ownBlock ∧ some k_ ≠ (.slice Ao103 t315.length co103 : Value).ownBlock ∧ some k_ ≠ (.slice Ao104 t325.length co104 : Value).ownBlock) (fun _ => False) rfl rfl ?aO ?aR (fun _ _ h => h) (fun _ h => h.elim) ?aF ?aB ?aS ?aL ?_
                 (case aR => repeat (first | exact (Kd.R_reads' HO327.out).2.2 | (with_reducible refine Kd.C_alloc ?_ _) | (with_reducible refine Kd.C_drewN ?_ _) | (with_reducible refine Kd.C_drew ?_)))
                 (case aB => exact (zc5 HB GE266 GE278 GE309 GE319 GE329))
                 (case aF => exact (fun k_ hk => ⟨Kd.fresh' (Kd.R_lt (zR HO307)) k_ hk, Kd.fresh' (Kd.R_lt (zR HO317)) k_ hk, Kd.fresh' (Kd.R_lt (zR HO327)) k_ hk⟩))
                 (case aO => exact (zR HO350))
                 (case aS => exact (below_size (zc5 HB GE266 GE278 GE309 GE319 GE329)))
                 (case aL => have := LMc70.out; omega)
                 intro v352 w117 ho hb hg hat
                 rw [← Ny351.out] at ho
                 have n0_ := Aside0.mk (Kd.V_afterv (ok := (fun k_ => some k_ ≠ (.slice Ao102 t305.length co102 : Value).ownBlock ∧ some k_ ≠ (.slice Ao103 t315.length co103 : Value).ownBlock ∧ some k_ ≠ (.slice Ao104 t325.length co104 : Value).ownBlock ∧ some k_ ≠ (.slice Ao109 t333.length co109 : Value).ownBlock ∧ some k_ ≠ (.slice Ao110 t338.length co110 : Value).ownBlock ∧ some k_ ≠ (v343 : Value).ownBlock ∧ k_ ≠ gb266 ∧ k_ ≠ gb278 ∧ k_ ≠ gb309 ∧ k_ ≠ gb319 ∧ k_ ≠ gb329)) (zV HO_279002) hg hat)
                 have n1_ := Aside0.mk (blk_grown (g := gb266) (o := .cells #[.int .i64 a0_0, .int .i64 a0_1, .slice A0_2 l0_2.length c0_2] 24 (0, 0)) (zb BK266) hg (Kd.R_ne HO350.out BK266.out (by decide)))
                 have n2_ := Aside0.mk (blk_grown (g := gb278) (o := .cells #[.int .i64 t269, .int .i64 t270, .slice Ao21 t271.length co21] 24 (0, 0)) (zb BK278) hg (Kd.R_ne HO350.out BK278.out (by decide)))
                 have n3_ := Aside0.mk (Kd.V_afterv (ok := (fun k_ => some k_ ≠ (.slice Ao102 t305.length co102 : Value).ownBlock ∧ some k_ ≠ (.slice Ao103 t315.length co103 : Value).ownBlock ∧ some k_ ≠ (.slice Ao104 t325.length co104 : Value).ownBlock ∧ some k_ ≠ (.slice Ao109 t333.length co109 : Value).ownBlock ∧ some k_ ≠ (.slice Ao110 t338.length co110 : Value).ownBlock ∧ some k_ ≠ (v343 : Value).ownBlock ∧ k_ ≠ gb266 ∧ k_ ≠ gb278 ∧ k_ ≠ gb309 ∧ k_ ≠ gb319 ∧ k_ ≠ gb329)) (zV HO304) hg hat)
                 have n4_ := Aside0.mk (Kd.R_after (ok := (fun k_ => some k_ ≠ (.slice Ao103 t315.length co103 : Value).ownBlock ∧ some k_ ≠ (.slice Ao104 t325.length co104 : Value).ownBlock)) (zR HO307) hg hat)
                 have n5_ := Aside0.mk (blk_grown (g := gb309) (o := .cells #[.int .i64 t300, .int .i64 t301, .slice Ao82 t302.length co82] 24 (0, 0)) (zb BK309) hg (Kd.R_ne HO350.out BK309.out (by decide)))
                 have n6_ := Aside0.mk (Kd.V_afterv (ok := (fun k_ => some k_ ≠ (.slice Ao102 t305.length co102 : Value).ownBlock ∧ some k_ ≠ (.slice Ao103 t315.length co103 : Value).ownBlock ∧ some k_ ≠ (.slice Ao104 t325.length co104 : Value).ownBlock ∧ some k_ ≠ (.slice Ao109 t333.length co109 : Value).ownBlock ∧ some k_ ≠ (.slice Ao110 t338.length co110 : Value).ownBlock ∧ some k_ ≠ (v343 : Value).ownBlock ∧ k_ ≠ gb266 ∧ k_ ≠ gb278 ∧ k_ ≠ gb309 ∧ k_ ≠ gb319 ∧ k_ ≠ gb329)) (zV HO314) hg hat)
                 have n7_ := Aside0.mk (Kd.R_after (ok := (fun k_ => some k_ ≠ (.slice Ao102 t305.length co102 : Value).ownBlock ∧ some k_ ≠ (.slice Ao104 t325.length co104 : Value).ownBlock)) (zR HO317) hg hat)
                 have n8_ := Aside0.mk (blk_grown (g := gb319) (o := .cells #[.int .i64 t310, .int .i64 t311, .slice Ao91 t312.length co91] 24 (0, 0)) (zb BK319) hg (Kd.R_ne HO350.out BK319.out (by decide)))
                 have n9_ := Aside0.mk (Kd.V_afterv (ok := (fun k_ => some k_ ≠ (.slice Ao102 t305.length co102 : Value).ownBlock ∧ some k_ ≠ (.slice Ao103 t315.length co103 : Value).ownBlock ∧ some k_ ≠ (.slice Ao104 t325.length co104 : Value).ownBlock ∧ some k_ ≠ (.slice Ao109 t333.length co109 : Value).ownBlock ∧ some k_ ≠ (.slice Ao110 t338.length co110 : Value).ownBlock ∧ some k_ ≠ (v343 : Value).ownBlock ∧ k_ ≠ gb266 ∧ k_ ≠ gb278 ∧ k_ ≠ gb309 ∧ k_ ≠ gb319 ∧ k_ ≠ gb329)) (zV HO324) hg hat)
                 have n10_ := Aside0.mk (Kd.R_after (ok := (fun k_ => some k_ ≠ (.slice Ao102 t305.length co102 : Value).ownBlock ∧ some k_ ≠ (.slice Ao103 t315.length co103 : Value).ownBlock)) (zR HO327) hg hat)
                 have n11_ := Aside0.mk (blk_grown (g := gb329) (o := .cells #[.int .i64 t320, .int .i64 t321, .slice Ao101 t322.length co101] 24 (0, 0)) (zb BK329) hg (Kd.R_ne HO350.out BK329.out (by decide)))
                 have n12_ := Aside0.mk (Kd.R_over' (zR HO335) (Kd.R_typed (zR HO350)) (by decide) hg)
                 have n13_ := Aside0.mk (Kd.R_over' (zR HO340) (Kd.R_typed (zR HO350)) (by decide) hg)
                 have n14_ := Aside0.mk (Kd.R_over' (zR HO344) (Kd.R_typed (zR HO350)) (by decide) hg)
                 have n15_ := Aside0.mk (hb)
                 have n16_ := Aside0.mk (ho)
                 clear HO_279002
                 clear BK266
                 clear BK278
                 clear HO304
                 clear HO307
                 clear BK309
                 clear HO314
                 clear HO317
                 clear BK319
                 clear HO324
                 clear HO327
                 clear BK329
                 clear HO335
                 clear HO340
                 clear HO344
                 clear HB
                 clear HO350
                 have HO_279002 := n0_
                 have BK266 := n1_
                 have BK278 := n2_
                 have HO304 := n3_
                 have HO307 := n4_
                 have BK309 := n5_
                 have HO314 := n6_
                 have HO317 := n7_
                 have BK319 := n8_
                 have HO324 := n9_
                 have HO327 := n10_
                 have BK329 := n11_
                 have HO335 := n12_
                 have HO340 := n13_
                 have HO344 := n14_
                 have HB := n15_
                 have HO353 := n16_
                 clear n0_ n1_ n2_ n3_ n4_ n5_ n6_ n7_ n8_ n9_ n10_ n11_ n12_ n13_ n14_ n15_ n16_
                 clear ho hb hg hat
                 obtain ⟨Ao118, co118, eo118⟩ := Kd.R_slice HO353.out
                 (first | subst eo118 | (injection eo118 with f1_ f2_ f3_; have f4_ := f1_.symm; have f5_ := f3_.symm; clear f1_ f2_ f3_; subst f4_; subst f5_))
                 refine hK.out _ _ ⟨(blk_cell BK309.out 0).trans rfl, (blk_cell BK309.out 1).trans rfl, (blk_cell BK309.out 2).trans rfl, (blk_cell BK329.out 0).trans rfl, (blk_cell BK329.out 1).trans rfl, (blk_cell BK329.out 2).trans rfl⟩ (fun hHeld => ?_)
                 clear hK K
                 refine norm_ (a' := ?_) ?_ ?_
                 rotate_left
                 ·show Act.put _ (some 128) _ = _
                  simp only [Act.put, List.setIfInBounds_toArray, List.set_cons_zero, List.set_cons_succ, i64_w, i32_w]
                  rfl
                 refine one_ (i := 21) (N := some 129) #[true, true, true, true, true, true, true, true, true, true, true, true, true, true, true, true, true, true, true, true, true, true, false, false, false, false, false, false] rfl rfl (one_of HT_.out (by kernel_rfl)) (by decide) (fun K hK => ?_)
                 refine goes_ Try.func22 (by kernel_rfl) rfl #[.slice Ao118 y351.length co118] (by rfl) rfl rfl zm ?_
                 with_reducible refine (handshakerlaw18_Refs.calls kj36 _ _ y351 t354 _ ?side1 ?side2 A71.out).mono ?_
                 (case side1 => repeat (first | exact (Kd.R_reads' HO353.out).2.2 | (with_reducible refine Kd.C_alloc ?_ _) | (with_reducible refine Kd.C_drewN ?_ _) | (with_reducible refine Kd.C_drew ?_)))
                 (case side2 => exact (Kd.R_reads' HO353.out).2.1)
                 rintro e w119 ⟨v355, rfl, ho0, hb⟩
                 refine ⟨_, rfl, ?_⟩
                 have n0_ := Aside0.mk (Kd.V_elder' (zV HO_279002) (Kd.R_base ho0) hb)
                 have n1_ := Aside0.mk (Kd.V_elder' (zV HO304) (Kd.R_base ho0) hb)
                 have n2_ := Aside0.mk (Kd.R_below (zR HO307) hb)
                 have n3_ := Aside0.mk (Kd.V_elder' (zV HO314) (Kd.R_base ho0) hb)
                 have n4_ := Aside0.mk (Kd.R_below (zR HO317) hb)
                 have n5_ := Aside0.mk (Kd.V_elder' (zV HO324) (Kd.R_base ho0) hb)
                 have n6_ := Aside0.mk (Kd.R_below (zR HO327) hb)
                 have n7_ := Aside0.mk (Kd.R_elder' (zR HO335) (Kd.R_base ho0) hb)
                 have n8_ := Aside0.mk (Kd.R_elder' (zR HO340) (Kd.R_base ho0) hb)
                 have n9_ := Aside0.mk (Kd.R_elder' (zR HO344) (Kd.R_base ho0) hb)
                 have n10_ := Aside0.mk (Kd.R_below (zR HO353) hb)
                 have n11_ := Aside0.mk (Kd.R_lower (Kd.R_new' (Kd.R_new' (Kd.R_new' ho0 (Kd.R_lt (zR HO335))) (Kd.R_lt (zR HO340))) (Kd.R_lt (zR HO344))) (below_size (zc5 HB GE266 GE278 GE309 GE319 GE329)))
                 have n12_ := Aside0.mk (blk_below (g := gb266) (o := .cells #[.int .i64 a0_0, .int .i64 a0_1, .slice A0_2 l0_2.length c0_2] 24 (0, 0)) (zb BK266) hb)
                 have n13_ := Aside0.mk (blk_below (g := gb278) (o := .cells #[.int .i64 t269, .int .i64 t270, .slice Ao21 t271.length co21] 24 (0, 0)) (zb BK278) hb)
                 have n14_ := Aside0.mk (blk_below (g := gb309) (o := .cells #[.int .i64 t300, .int .i64 t301, .slice Ao82 t302.length co82] 24 (0, 0)) (zb BK309) hb)
                 have n15_ := Aside0.mk (blk_below (g := gb319) (o := .cells #[.int .i64 t310, .int .i64 t311, .slice Ao91 t312.length co91] 24 (0, 0)) (zb BK319) hb)
                 have n16_ := Aside0.mk (blk_below (g := gb329) (o := .cells #[.int .i64 t320, .int .i64 t321, .slice Ao101 t322.length co101] 24 (0, 0)) (zb BK329) hb)
                 have n17_ := Aside0.mk (below_step (zc5 HB GE266 GE278 GE309 GE319 GE329) hb)
                 clear HO_279002
                 clear HO304
                 clear HO307
                 clear HO314
                 clear HO317
                 clear HO324
                 clear HO327
                 clear HO335
                 clear HO340
                 clear HO344
                 clear HO353
                 clear BK266
                 clear BK278
                 clear BK309
                 clear BK319
                 clear BK329
                 clear HB
                 have HO_279002 := n0_
                 have HO304 := n1_
                 have HO307 := n2_
                 have HO314 := n3_
                 have HO317 := n4_
                 have HO324 := n5_
                 have HO327 := n6_
                 have HO335 := n7_
                 have HO340 := n8_
                 have HO344 := n9_
                 have HO353 := n10_
                 have HO356 := n11_
                 have BK266 := n12_
                 have BK278 := n13_
                 have BK309 := n14_
                 have BK319 := n15_
                 have BK329 := n16_
                 have HB := n17_
                 clear n0_ n1_ n2_ n3_ n4_ n5_ n6_ n7_ n8_ n9_ n10_ n11_ n12_ n13_ n14_ n15_ n16_ n17_
                 (try clear hb)
                 (try clear hb2)
                 (try clear hk)
                 (try clear hi)
                 (try clear ho0)
                 obtain ⟨Ao120, co120, eo120⟩ := Kd.R_slice HO344.out
                 (first | subst eo120 | (injection eo120 with f1_ f2_ f3_; have f4_ := f1_.symm; have f5_ := f3_.symm; clear f1_ f2_ f3_; subst f4_; subst f5_))
                 obtain ⟨Ao121, co121, eo121⟩ := Kd.R_slice HO356.out
                 (first | subst eo121 | (injection eo121 with f1_ f2_ f3_; have f4_ := f1_.symm; have f5_ := f3_.symm; clear f1_ f2_ f3_; subst f4_; subst f5_))
                 refine hK.out _ _ ⟨(blk_cell BK309.out 0).trans rfl, (blk_cell BK309.out 1).trans rfl, (blk_cell BK309.out 2).trans rfl, (blk_cell BK329.out 0).trans rfl, (blk_cell BK329.out 1).trans rfl, (blk_cell BK329.out 2).trans rfl⟩ (fun hHeld => ?_)
                 clear hK K
                 refine norm_ (a' := ?_) ?_ ?_
                 rotate_left
                 ·show Act.put _ (some 129) _ = _
                  simp only [Act.put, List.setIfInBounds_toArray, List.set_cons_zero, List.set_cons_succ, i64_w, i32_w]
                  rfl
                 refine one_ (i := 22) (N := some 130) #[true, true, true, true, true, true, true, true, true, true, true, true, true, true, true, true, true, true, true, true, true, true, true, false, false, false, false, false] rfl rfl (one_of HT_.out (by kernel_rfl)) (by decide) (fun K hK => ?_)
                 refine goes_ Try.func21 (by kernel_rfl) rfl #[.slice Ao120 t342.length co120, .slice Ao121 t354.length co121] (by rfl) rfl rfl zm ?_
                 with_reducible refine (handshakerref18_List.calls kj36 _ _ t342 _ _ t354 true _ ?side1 ?side2 ?side3 ?side4 A72.out).mono ?_
                 (case side1 => repeat (first | exact (Kd.R_reads' HO344.out).2.2 | (with_reducible refine Kd.C_alloc ?_ _) | (with_reducible refine Kd.C_drewN ?_ _) | (with_reducible refine Kd.C_drew ?_)))
                 (case side2 => exact (Kd.R_reads' HO344.out).2.1)
                 (case side3 => repeat (first | exact (Kd.R_reads' HO356.out).2.2 | (with_reducible refine Kd.C_alloc ?_ _) | (with_reducible refine Kd.C_drewN ?_ _) | (with_reducible refine Kd.C_drew ?_)))
                 (case side4 => exact (Kd.R_reads' HO356.out).2.1)
                 rintro e w' ⟨rfl, ⟨nd, rfl⟩⟩
                 refine ⟨_, rfl, ?_⟩
                 refine hK.out _ _ ⟨(blk_cell BK309.out 0).trans rfl, (blk_cell BK309.out 1).trans rfl, (blk_cell BK309.out 2).trans rfl, (blk_cell BK329.out 0).trans rfl, (blk_cell BK329.out 1).trans rfl, (blk_cell BK329.out 2).trans rfl⟩ (fun hHeld => ?_)
                 clear hK K
                 refine norm_ (a' := ?_) ?_ ?_
                 rotate_left
                 ·show Act.put _ (some 130) _ = _
                  simp only [Act.put, List.setIfInBounds_toArray, List.set_cons_zero, List.set_cons_succ, i64_w, i32_w]
                  rfl
                 refine pure_ (i := 23) (N := some 131) (v := ?_) (a' := ?_) #[true, true, true, true, true, true, true, true, true, true, true, true, true, true, true, true, true, true, true, true, true, true, true, true, false, false, false, false] rfl rfl (any_of HT_.out (by kernel_rfl)) (fun _ _ _ h => h) (Or.inl ⟨by rfl, ?_⟩) ?_ ?_
                 rotate_left
                 ·intro w'
                  go_simp
                  with_reducible rfl
                 rotate_left
                 ·simp only [Act.put, List.setIfInBounds_toArray, List.set_cons_zero, List.set_cons_succ, i64_w, i32_w]
                  rfl
                 refine pure_ (i := 24) (N := some 132) (v := ?_) (a' := ?_) #[true, true, true, true, true, true, true, true, true, true, true, true, true, true, true, true, true, true, true, true, true, true, true, true, true, false, false, false] rfl rfl (any_of HT_.out (by kernel_rfl)) (fun _ _ _ h => h) (Or.inl ⟨by rfl, ?_⟩) ?_ ?_
                 rotate_left
                 ·intro w'
                  go_simp
                  with_reducible rfl
                 rotate_left
                 ·simp only [Act.put, List.setIfInBounds_toArray, List.set_cons_zero, List.set_cons_succ, i64_w, i32_w]
                  rfl
                 refine one_ (i := 25) (N := some 133) #[true, true, true, true, true, true, true, true, true, true, true, true, true, true, true, true, true, true, true, true, true, true, true, true, true, true, false, false] rfl rfl (one_of HT_.out (by kernel_rfl)) (by decide) (fun K hK => ?_)
                 refine goes_ Try.func9 (by kernel_rfl) rfl #[] (by rfl) rfl rfl zm ?_
                 with_reducible refine (handshakerlaw18_awake.calls kj36  t358 _ A74.out).mono ?_
                 rintro e w122 ⟨rfl, hb⟩
                 refine ⟨_, rfl, ?_⟩
                 have n0_ := Aside0.mk (Kd.V_below (zV HO_279002) hb)
                 have n1_ := Aside0.mk (Kd.V_below (zV HO304) hb)
                 have n2_ := Aside0.mk (Kd.R_below (zR HO307) hb)
                 have n3_ := Aside0.mk (Kd.V_below (zV HO314) hb)
                 have n4_ := Aside0.mk (Kd.R_below (zR HO317) hb)
                 have n5_ := Aside0.mk (Kd.V_below (zV HO324) hb)
                 have n6_ := Aside0.mk (Kd.R_below (zR HO327) hb)
                 have n7_ := Aside0.mk (Kd.R_below (zR HO335) hb)
                 have n8_ := Aside0.mk (Kd.R_below (zR HO340) hb)
                 have n9_ := Aside0.mk (Kd.R_below (zR HO344) hb)
                 have n10_ := Aside0.mk (Kd.R_below (zR HO353) hb)
                 have n11_ := Aside0.mk (Kd.R_below (zR HO356) hb)
                 have n12_ := Aside0.mk (blk_below (g := gb266) (o := .cells #[.int .i64 a0_0, .int .i64 a0_1, .slice A0_2 l0_2.length c0_2] 24 (0, 0)) (zb BK266) hb)
                 have n13_ := Aside0.mk (blk_below (g := gb278) (o := .cells #[.int .i64 t269, .int .i64 t270, .slice Ao21 t271.length co21] 24 (0, 0)) (zb BK278) hb)
                 have n14_ := Aside0.mk (blk_below (g := gb309) (o := .cells #[.int .i64 t300, .int .i64 t301, .slice Ao82 t302.length co82] 24 (0, 0)) (zb BK309) hb)
                 have n15_ := Aside0.mk (blk_below (g := gb319) (o := .cells #[.int .i64 t310, .int .i64 t311, .slice Ao91 t312.length co91] 24 (0, 0)) (zb BK319) hb)
                 have n16_ := Aside0.mk (blk_below (g := gb329) (o := .cells #[.int .i64 t320, .int .i64 t321, .slice Ao101 t322.length co101] 24 (0, 0)) (zb BK329) hb)
                 have n17_ := Aside0.mk (below_step (zc5 HB GE266 GE278 GE309 GE319 GE329) hb)
                 clear HO_279002
                 clear HO304
                 clear HO307
                 clear HO314
                 clear HO317
                 clear HO324
                 clear HO327
                 clear HO335
                 clear HO340
                 clear HO344
                 clear HO353
                 clear HO356
                 clear BK266
                 clear BK278
                 clear BK309
                 clear BK319
                 clear BK329
                 clear HB
                 have HO_279002 := n0_
                 have HO304 := n1_
                 have HO307 := n2_
                 have HO314 := n3_
                 have HO317 := n4_
                 have HO324 := n5_
                 have HO327 := n6_
                 have HO335 := n7_
                 have HO340 := n8_
                 have HO344 := n9_
                 have HO353 := n10_
                 have HO356 := n11_
                 have BK266 := n12_
                 have BK278 := n13_
                 have BK309 := n14_
                 have BK319 := n15_
                 have BK329 := n16_
                 have HB := n17_
                 clear n0_ n1_ n2_ n3_ n4_ n5_ n6_ n7_ n8_ n9_ n10_ n11_ n12_ n13_ n14_ n15_ n16_ n17_
                 (try clear hb)
                 (try clear hb2)
                 (try clear hk)
                 (try clear hi)
                 refine hK.out _ _ ⟨(blk_cell BK309.out 0).trans rfl, (blk_cell BK309.out 1).trans rfl, (blk_cell BK309.out 2).trans rfl, (blk_cell BK329.out 0).trans rfl, (blk_cell BK329.out 1).trans rfl, (blk_cell BK329.out 2).trans rfl⟩ (fun hHeld => ?_)
                 clear hK K
                 refine norm_ (a' := ?_) ?_ ?_
                 rotate_left
                 ·show Act.put _ (some 133) _ = _
                  simp only [Act.put, List.setIfInBounds_toArray, List.set_cons_zero, List.set_cons_succ, i64_w, i32_w]
                  rfl
                 refine pure_ (i := 26) (N := some 134) (v := ?_) (a' := ?_) #[true, true, true, true, true, true, true, true, true, true, true, true, true, true, true, true, true, true, true, true, true, true, true, true, true, true, true, false] rfl rfl (any_of HT_.out (by kernel_rfl)) (fun _ _ _ h => h) (Or.inl ⟨by rfl, ?_⟩) ?_ ?_
                 rotate_left
                 ·intro w'
                  go_simp
                  with_reducible rfl
                 rotate_left
                 ·simp only [Act.put, List.setIfInBounds_toArray, List.set_cons_zero, List.set_cons_succ, i64_w, i32_w]
                  rfl
                 refine pure_ (i := 27) (N := some 8) (v := ?_) (a' := ?_) #[true, true, true, true, true, true, true, true, true, true, true, true, true, true, true, true, true, true, true, true, true, true, true, true, true, true, true, true] rfl rfl (any_of HT_.out (by kernel_rfl)) (fun _ _ _ h => h) (Or.inl ⟨by rfl, ?_⟩) ?_ ?_
                 rotate_left
                 ·intro w'
                  go_simp
                  with_reducible rfl
                 rotate_left
                 ·simp only [Act.put, List.setIfInBounds_toArray, List.set_cons_zero, List.set_cons_succ, i64_w, i32_w]
                  rfl
                 refine done_ (done_of HT_.out (by kernel_rfl)) ?_
                 try go_wp2
                 go_ret
                 exact ⟨by first | rfl | (simp [errW_none, errW_some] <;> rfl) | (simp [*, errW_none, errW_some] <;> rfl), by repeat (first | (with_reducible first | exact HB.out | apply below_alloc | apply pw_below_drewN | apply below_drew1 | refine below_set ?_ GE266.out | refine below_set ?_ GE278.out | refine below_set ?_ GE309.out | refine below_set ?_ GE319.out | refine below_set ?_ GE329.out) | exact HB.out)⟩
                ·replace c73 := Bool.eq_false_iff.mpr c73
                 subst c73
                 have H1 : (none) = some r := by rw [if_neg (show ¬ (false = true) by decide)] at H; exact H
                 clear H
                 have H := H1
                 clear H1
                 exact absurd H (by simp)
               ·rw [if_neg c70] at H
                exact absurd H (by simp)
              ·rw [if_neg c69] at H
               exact absurd H (by simp)
             ·replace c67 := Bool.eq_false_iff.mpr c67
              subst c67
              have H1 : (none) = some r := by rw [if_neg (show ¬ (false = true) by decide)] at H; exact H
              clear H
              have H := H1
              clear H1
              exact absurd H (by simp)
            ·rw [if_neg c63] at H
             exact absurd H (by simp)
           ·rw [if_neg c62] at H
            exact absurd H (by simp)
          ·rw [if_neg c61] at H
           have c61b0 : (t308 == 0) = false := beq_eq_false_iff_ne.mpr c61
           have c61b1 : (t308 != 0) = true := bne_iff_ne.mpr c61
           replace H := Option.bind_eq_some_iff.mp H
           obtain ⟨t330, A1230, H⟩ := H
           replace H : (some t330) = some r := H
           have A123 := Aside0.mk A1230
           clear A1230
           obtain rfl := Option.some.inj H
           have hnb124 := NB266_278.out
           have hnc124 := NB278_266.out
           have hcz125_0 : wc.cell? ⟨gb266, 0, none⟩ = some (.int .i64 a0_0) := (blk_cell BK266.out 0).trans rfl
           have hcz125_1 : wc.cell? ⟨gb266, 1, none⟩ = some (.int .i64 a0_1) := (blk_cell BK266.out 1).trans rfl
           have hcz125_2 : wc.cell? ⟨gb266, 2, none⟩ = some (.slice A0_2 l0_2.length c0_2) := (blk_cell BK266.out 2).trans rfl
           have hfz125_0 := blk_frozen BK266.out 0
           have hfz125_1 := blk_frozen BK266.out 1
           have hfz125_2 := blk_frozen BK266.out 2
           go_wp2_with (first | ((with_reducible refine gate_callee (f := 13) rfl ?_); refine goesL_ (some 87) rfl rfl Try.func13 (by kernel_rfl) rfl #[.agg #[.int .i64 a0_0, .int .i64 a0_1, .slice A0_2 l0_2.length c0_2], .int .i64 (wrap64 ((wrap64 (1 + (wrap64 (Int.tmod a2 50)))) + (wrap64 (1 + (wrap64 (Int.tmod a3 50))))))] rfl zm ?_; (with_reducible refine (sema_Give.calls kj36 a0_0 a0_1 (fun k_ => k_ < w.heap.size) _ _ l0_2 (wrap64 ((wrap64 (1 + (wrap64 (Int.tmod a2 50)))) + (wrap64 (1 + (wrap64 (Int.tmod a3 50)))))) t300 t301 t302 t305 t308 _ ?side1 A58.out).mono ?_); (case side1 => exact Kd.V_mk HC0_2.out (Kd.F_below (Kd.C_F k50_heap HR0_2.out) (zc2 HB GE266 GE278))); rintro e w126 ⟨v303, v306, rfl, ho0, ho1, hb⟩; refine ⟨_, rfl, ?_⟩; have n0_ := Aside0.mk (Kd.V_elder' (zV HO_279002) (Kd.R_base ho1) hb); have n1_ := Aside0.mk (Kd.V_lower (Kd.V_mono (ok' := fun k_ => some k_ ≠ (v306 : Value).ownBlock ∧ k_ ≠ gb266 ∧ k_ ≠ gb278) ho0 (fun k_ hk_ => ⟨hk_.2, Or.elim hk_.1 (fun hs_ => fun e_ => Nat.not_le.2 hs_ (by rw [e_]; exact GW266.out)) (fun hn_ => (Kd.freshB (g := gb266) (o := .cells #[.int .i64 a0_0, .int .i64 a0_1, .slice A0_2 l0_2.length c0_2] 24 (0, 0)) (zb BK266) k_ hn_)), Or.elim hk_.1 (fun hs_ => fun e_ => Nat.not_le.2 hs_ (by rw [e_]; exact GW278.out)) (fun hn_ => (Kd.freshB (g := gb278) (o := .cells #[.int .i64 t269, .int .i64 t270, .slice Ao21 t271.length co21] 24 (0, 0)) (zb BK278) k_ hn_))⟩)) (below_size (zc2 HB GE266 GE278))); have n2_ := Aside0.mk (Kd.R_lower (Kd.R_mono (ok' := fun k_ => True) ho1 (fun _ hk_ => trivial)) (below_size (zc2 HB GE266 GE278))); have n3_ := Aside0.mk (blk_below (g := gb266) (o := .cells #[.int .i64 a0_0, .int .i64 a0_1, .slice A0_2 l0_2.length c0_2] 24 (0, 0)) (zb BK266) hb); have n4_ := Aside0.mk (blk_below (g := gb278) (o := .cells #[.int .i64 t269, .int .i64 t270, .slice Ao21 t271.length co21] 24 (0, 0)) (zb BK278) hb); have n5_ := Aside0.mk (below_step (zc2 HB GE266 GE278) hb); clear HO_279002; clear BK266; clear BK278; clear HB; have HO_279002 := n0_; have HO304 := n1_; have HO307 := n2_; have BK266 := n3_; have BK278 := n4_; have HB := n5_; clear n0_ n1_ n2_ n3_ n4_ n5_; (try clear hb); (try clear hb2); (try clear hk); (try clear hi); (try clear ho0); (try clear ho1)) | ((with_reducible refine gate_dst (N := 17) rfl ?_); (try (refine gate_guard (by rfl) ?_; dsimp only)); refine box_event ?hg (N := 17) ?hd (cs := #[.int .i64 0, .int .i64 0, .slice none 0 0]) (t := 24) ?hr ?_; (case hd => rfl); (case hg => rfl); (case hr => first | (go_simp; done) | (go_simp; rfl)); intro gb309 hg w127 hbox hb; have n0_ := Aside0.mk (Kd.V_below (Kd.V_elderB (zV HO_279002) gb309 (Nat.le_of_eq hg.symm)) hb); have n1_ := Aside0.mk (Kd.V_below (Kd.V_elderB (zV HO304) gb309 (Nat.le_of_eq hg.symm)) hb); have n2_ := Aside0.mk (Kd.R_below (zR HO307) hb); have n3_ := Aside0.mk (blk_below (g := gb266) (o := .cells #[.int .i64 a0_0, .int .i64 a0_1, .slice A0_2 l0_2.length c0_2] 24 (0, 0)) (zb BK266) hb); have n4_ := Aside0.mk (blk_below (g := gb278) (o := .cells #[.int .i64 t269, .int .i64 t270, .slice Ao21 t271.length co21] 24 (0, 0)) (zb BK278) hb); have n5_ := Aside0.mk (below_step (zc2 HB GE266 GE278) hb); have n6_ := Aside0.mk (hbox); have n7_ := Aside0.mk ((by rw [hg]; exact (below_size (zc2 HB GE266 GE278)) : w.heap.size ≤ gb309)); have n8_ := Aside0.mk ((by rw [hg]; exact (below_size (zc2 HB GE266 GE278)) : w.heap.size ≤ gb309)); have n9_ := Aside0.mk ((by rw [hg]; exact Nat.ne_of_lt (blk_lt (g := gb266) (o := .cells #[.int .i64 a0_0, .int .i64 a0_1, .slice A0_2 l0_2.length c0_2] 24 (0, 0)) (zb BK266)) : gb266 ≠ gb309)); have n10_ := Aside0.mk ((by rw [hg]; exact Nat.ne_of_gt (blk_lt (g := gb266) (o := .cells #[.int .i64 a0_0, .int .i64 a0_1, .slice A0_2 l0_2.length c0_2] 24 (0, 0)) (zb BK266)) : gb309 ≠ gb266)); have n11_ := Aside0.mk ((by rw [hg]; exact Nat.ne_of_lt (blk_lt (g := gb278) (o := .cells #[.int .i64 t269, .int .i64 t270, .slice Ao21 t271.length co21] 24 (0, 0)) (zb BK278)) : gb278 ≠ gb309)); have n12_ := Aside0.mk ((by rw [hg]; exact Nat.ne_of_gt (blk_lt (g := gb278) (o := .cells #[.int .i64 t269, .int .i64 t270, .slice Ao21 t271.length co21] 24 (0, 0)) (zb BK278)) : gb309 ≠ gb278)); clear HO_279002; clear HO304; clear HO307; clear BK266; clear BK278; clear HB; have HO_279002 := n0_; have HO304 := n1_; have HO307 := n2_; have BK266 := n3_; have BK278 := n4_; have HB := n5_; have BK309 := n6_; have GW309 := n7_; have GE309 := n8_; have NB266_309 := n9_; have NB309_266 := n10_; have NB278_309 := n11_; have NB309_278 := n12_; clear n0_ n1_ n2_ n3_ n4_ n5_ n6_ n7_ n8_ n9_ n10_ n11_ n12_; clear hb hbox hg; have hnb128 := NB309_266.out; have hnc128 := NB266_309.out; have hnb129 := NB309_278.out; have hnc129 := NB278_309.out; have hcz130_0 : w127.cell? ⟨gb309, 0, none⟩ = some (.int .i64 0) := (blk_cell BK309.out 0).trans rfl; have hcz130_1 : w127.cell? ⟨gb309, 1, none⟩ = some (.int .i64 0) := (blk_cell BK309.out 1).trans rfl; have hcz130_2 : w127.cell? ⟨gb309, 2, none⟩ = some (.slice none 0 0) := (blk_cell BK309.out 2).trans rfl; have hfz130_0 := blk_frozen BK309.out 0; have hfz130_1 := blk_frozen BK309.out 1; have hfz130_2 := blk_frozen BK309.out 2; obtain ⟨Ao131, co131, eo131⟩ := Kd.V_slice HO304.out; subst eo131) | ((with_reducible refine gate_store (t := 24) (p := 17) rfl ?_); refine store_event (t := 24) (p := 17) (v := ?vo_w132) (w1 := (((w127.setCell ⟨gb309, 0, none⟩ (.int .i64 t300)).setCell ⟨gb309, 1, none⟩ (.int .i64 t301)).setCell ⟨gb309, 2, none⟩ (.slice Ao131 t302.length co131))) ?hg ?ho ?hn ?hr ?_; (case ho => rfl); (case hg => rfl); (case hn => rfl); (case hr => first | (go_simp; done) | (go_simp; rfl)); intro w132 hw; have n0_ : Aside0 (Kd.V k50 50 w132 w.heap.size (fun k_ => some k_ ≠ (v306 : Value).ownBlock ∧ k_ ≠ gb266 ∧ k_ ≠ gb278 ∧ k_ ≠ gb309) (.slice Ao21 t271.length co21) t271) := ⟨(by rw [hw]; exact (by (with_reducible repeat (first | apply Kd.V_alloc | apply Kd.V_drewN | apply Kd.V_drew)); exact Kd.V_mono (Kd.V_far (p := ⟨gb309, 2, none⟩) (Kd.V_far (p := ⟨gb309, 1, none⟩) (Kd.V_far (p := ⟨gb309, 0, none⟩) (Kd.V_mono HO_279002.out (fun k_ hk => (⟨hk, hk.2⟩ : _ ∧ k_ ≠ gb309))) (fun _ hk => hk.2) (.int .i64 t300)) (fun _ hk => hk.2) (.int .i64 t301)) (fun _ hk => hk.2) (.slice Ao131 t302.length co131)) (fun _ hk => ⟨hk.1.1.2, ⟨hk.1.1.1.1, ⟨hk.1.1.1.2, hk.1.2⟩⟩⟩)))⟩; have n1_ : Aside0 (Kd.V k50 50 w132 w.heap.size (fun k_ => some k_ ≠ (v306 : Value).ownBlock ∧ k_ ≠ gb266 ∧ k_ ≠ gb278 ∧ k_ ≠ gb309) (.slice Ao131 t302.length co131) t302) := ⟨(by rw [hw]; exact (by (with_reducible repeat (first | apply Kd.V_alloc | apply Kd.V_drewN | apply Kd.V_drew)); exact Kd.V_mono (Kd.V_far (p := ⟨gb309, 2, none⟩) (Kd.V_far (p := ⟨gb309, 1, none⟩) (Kd.V_far (p := ⟨gb309, 0, none⟩) (Kd.V_mono HO304.out (fun k_ hk => (⟨hk, hk.2⟩ : _ ∧ k_ ≠ gb309))) (fun _ hk => hk.2) (.int .i64 t300)) (fun _ hk => hk.2) (.int .i64 t301)) (fun _ hk => hk.2) (.slice Ao131 t302.length co131)) (fun _ hk => ⟨hk.1.1.1, ⟨hk.1.1.2.1, ⟨hk.1.1.2.2, hk.1.2⟩⟩⟩)))⟩; have n2_ : Aside0 (Kd.R k50 50 w132 w.heap.size (fun _ => True) v306 t305) := ⟨(by rw [hw]; exact (by (with_reducible repeat (first | apply Kd.R_alloc | apply Kd.R_drewN | apply Kd.R_drew)); exact Kd.R_mono (Kd.R_far (p := ⟨gb309, 2, none⟩) (Kd.R_far (p := ⟨gb309, 1, none⟩) (Kd.R_far (p := ⟨gb309, 0, none⟩) (Kd.R_types HO307.out BK309.out (by decide)) (fun _ hk => hk.2) (.int .i64 t300)) (fun _ hk => hk.2) (.int .i64 t301)) (fun _ hk => hk.2) (.slice Ao131 t302.length co131)) (fun _ hk => trivial)))⟩; have n3_ : Aside0 (w132.heap[gb266]? = some (.cells #[.int .i64 a0_0, .int .i64 a0_1, .slice A0_2 l0_2.length c0_2] 24 (0, 0))) := ⟨(by rw [hw]; exact (by (with_reducible repeat (first | refine blk_drewN ?_ _ | refine blk_drew ?_ | refine blk_alloc ?_ _)); refine blk_far ?_ NB266_309.out _; (with_reducible repeat (first | refine blk_drewN ?_ _ | refine blk_drew ?_ | refine blk_alloc ?_ _)); refine blk_far ?_ NB266_309.out _; (with_reducible repeat (first | refine blk_drewN ?_ _ | refine blk_drew ?_ | refine blk_alloc ?_ _)); refine blk_far ?_ NB266_309.out _; (with_reducible repeat (first | refine blk_drewN ?_ _ | refine blk_drew ?_ | refine blk_alloc ?_ _)); exact BK266.out))⟩; have n4_ : Aside0 (w132.heap[gb278]? = some (.cells #[.int .i64 t269, .int .i64 t270, .slice Ao21 t271.length co21] 24 (0, 0))) := ⟨(by rw [hw]; exact (by (with_reducible repeat (first | refine blk_drewN ?_ _ | refine blk_drew ?_ | refine blk_alloc ?_ _)); refine blk_far ?_ NB278_309.out _; (with_reducible repeat (first | refine blk_drewN ?_ _ | refine blk_drew ?_ | refine blk_alloc ?_ _)); refine blk_far ?_ NB278_309.out _; (with_reducible repeat (first | refine blk_drewN ?_ _ | refine blk_drew ?_ | refine blk_alloc ?_ _)); refine blk_far ?_ NB278_309.out _; (with_reducible repeat (first | refine blk_drewN ?_ _ | refine blk_drew ?_ | refine blk_alloc ?_ _)); exact BK278.out))⟩; have n5_ : Aside0 (w132.heap[gb309]? = some (.cells #[.int .i64 t300, .int .i64 t301, .slice Ao131 t302.length co131] 24 (0, 0))) := ⟨(by rw [hw]; exact (by (with_reducible repeat (first | refine blk_drewN ?_ _ | refine blk_drew ?_ | refine blk_alloc ?_ _)); refine blk_put (cs := #[.int .i64 t300, .int .i64 t301, .slice none 0 0]) ?_ 2 _ rfl; (with_reducible repeat (first | refine blk_drewN ?_ _ | refine blk_drew ?_ | refine blk_alloc ?_ _)); refine blk_put (cs := #[.int .i64 t300, .int .i64 0, .slice none 0 0]) ?_ 1 _ rfl; (with_reducible repeat (first | refine blk_drewN ?_ _ | refine blk_drew ?_ | refine blk_alloc ?_ _)); refine blk_put (cs := #[.int .i64 0, .int .i64 0, .slice none 0 0]) ?_ 0 _ rfl; (with_reducible repeat (first | refine blk_drewN ?_ _ | refine blk_drew ?_ | refine blk_alloc ?_ _)); exact BK309.out))⟩; have n6_ : Aside0 (Below w.heap.size w w132) := ⟨(by rw [hw]; exact (zc3 HB GE266 GE278 GE309))⟩; clear hw; clear HO_279002; clear HO304; clear HO307; clear BK266; clear BK278; clear BK309; clear HB; have HO_279002 := n0_; have HO304 := n1_; have HO307 := n2_; have BK266 := n3_; have BK278 := n4_; have BK309 := n5_; have HB := n6_; clear n0_ n1_ n2_ n3_ n4_ n5_ n6_; have hcz133_0 : w132.cell? ⟨gb266, 0, none⟩ = some (.int .i64 a0_0) := (blk_cell BK266.out 0).trans rfl; have hcz133_1 : w132.cell? ⟨gb266, 1, none⟩ = some (.int .i64 a0_1) := (blk_cell BK266.out 1).trans rfl; have hcz133_2 : w132.cell? ⟨gb266, 2, none⟩ = some (.slice A0_2 l0_2.length c0_2) := (blk_cell BK266.out 2).trans rfl; have hfz133_0 := blk_frozen BK266.out 0; have hfz133_1 := blk_frozen BK266.out 1; have hfz133_2 := blk_frozen BK266.out 2) | ((with_reducible refine gate_callee (f := 13) rfl ?_); refine goesL_ (some 94) rfl rfl Try.func13 (by kernel_rfl) rfl #[.agg #[.int .i64 a0_0, .int .i64 a0_1, .slice A0_2 l0_2.length c0_2], .int .i64 (wrap64 (1 + (wrap64 (Int.tmod a2 50))))] rfl zm ?_; (with_reducible refine (sema_Give.calls kj36 a0_0 a0_1 (fun k_ => k_ < w.heap.size) _ _ l0_2 (wrap64 (1 + (wrap64 (Int.tmod a2 50)))) t310 t311 t312 t315 t318 _ ?side1 A59.out).mono ?_); (case side1 => exact Kd.V_mk HC0_2.out (Kd.F_below (Kd.C_F k50_heap HR0_2.out) (zc3 HB GE266 GE278 GE309))); rintro e w134 ⟨v313, v316, rfl, ho0, ho1, hb⟩; refine ⟨_, rfl, ?_⟩; have n0_ := Aside0.mk (Kd.V_elder' (zV HO_279002) (Kd.R_base ho1) hb); have n1_ := Aside0.mk (Kd.V_elder' (zV HO304) (Kd.R_base ho1) hb); have n2_ := Aside0.mk (Kd.R_elder' (zR HO307) (Kd.R_base ho1) hb); have n3_ := Aside0.mk (Kd.V_lower (Kd.V_mono (ok' := fun k_ => some k_ ≠ (v316 : Value).ownBlock ∧ some k_ ≠ (v306 : Value).ownBlock ∧ k_ ≠ gb266 ∧ k_ ≠ gb278 ∧ k_ ≠ gb309) ho0 (fun k_ hk_ => ⟨hk_.2, Or.elim hk_.1 (fun hs_ => fun e_ => Nat.not_le.2 hs_ (Kd.R_base HO307.out k_ e_.symm)) (fun hn_ => (Kd.fresh' (Kd.R_lt (zR HO307)) k_ hn_)), Or.elim hk_.1 (fun hs_ => fun e_ => Nat.not_le.2 hs_ (by rw [e_]; exact GW266.out)) (fun hn_ => (Kd.freshB (g := gb266) (o := .cells #[.int .i64 a0_0, .int .i64 a0_1, .slice A0_2 l0_2.length c0_2] 24 (0, 0)) (zb BK266) k_ hn_)), Or.elim hk_.1 (fun hs_ => fun e_ => Nat.not_le.2 hs_ (by rw [e_]; exact GW278.out)) (fun hn_ => (Kd.freshB (g := gb278) (o := .cells #[.int .i64 t269, .int .i64 t270, .slice Ao21 t271.length co21] 24 (0, 0)) (zb BK278) k_ hn_)), Or.elim hk_.1 (fun hs_ => fun e_ => Nat.not_le.2 hs_ (by rw [e_]; exact GW309.out)) (fun hn_ => (Kd.freshB (g := gb309) (o := .cells #[.int .i64 t300, .int .i64 t301, .slice Ao131 t302.length co131] 24 (0, 0)) (zb BK309) k_ hn_))⟩)) (below_size (zc3 HB GE266 GE278 GE309))); have n4_ := Aside0.mk (Kd.R_lower (Kd.R_new' (Kd.R_mono (ok' := fun k_ => True) ho1 (fun _ hk_ => trivial)) (Kd.R_lt (zR HO307))) (below_size (zc3 HB GE266 GE278 GE309))); have n5_ := Aside0.mk (blk_below (g := gb266) (o := .cells #[.int .i64 a0_0, .int .i64 a0_1, .slice A0_2 l0_2.length c0_2] 24 (0, 0)) (zb BK266) hb); have n6_ := Aside0.mk (blk_below (g := gb278) (o := .cells #[.int .i64 t269, .int .i64 t270, .slice Ao21 t271.length co21] 24 (0, 0)) (zb BK278) hb); have n7_ := Aside0.mk (blk_below (g := gb309) (o := .cells #[.int .i64 t300, .int .i64 t301, .slice Ao131 t302.length co131] 24 (0, 0)) (zb BK309) hb); have n8_ := Aside0.mk (below_step (zc3 HB GE266 GE278 GE309) hb); clear HO_279002; clear HO304; clear HO307; clear BK266; clear BK278; clear BK309; clear HB; have HO_279002 := n0_; have HO304 := n1_; have HO307 := n2_; have HO314 := n3_; have HO317 := n4_; have BK266 := n5_; have BK278 := n6_; have BK309 := n7_; have HB := n8_; clear n0_ n1_ n2_ n3_ n4_ n5_ n6_ n7_ n8_; (try clear hb); (try clear hb2); (try clear hk); (try clear hi); (try clear ho0); (try clear ho1)) | ((with_reducible refine gate_dst (N := 20) rfl ?_); (try (refine gate_guard (by rfl) ?_; dsimp only)); refine box_event ?hg (N := 20) ?hd (cs := #[.int .i64 0, .int .i64 0, .slice none 0 0]) (t := 24) ?hr ?_; (case hd => rfl); (case hg => rfl); (case hr => first | (go_simp; done) | (go_simp; rfl)); intro gb319 hg w135 hbox hb; have n0_ := Aside0.mk (Kd.V_below (Kd.V_elderB (zV HO_279002) gb319 (Nat.le_of_eq hg.symm)) hb); have n1_ := Aside0.mk (Kd.V_below (Kd.V_elderB (zV HO304) gb319 (Nat.le_of_eq hg.symm)) hb); have n2_ := Aside0.mk (Kd.R_below (zR HO307) hb); have n3_ := Aside0.mk (Kd.V_below (Kd.V_elderB (zV HO314) gb319 (Nat.le_of_eq hg.symm)) hb); have n4_ := Aside0.mk (Kd.R_below (zR HO317) hb); have n5_ := Aside0.mk (blk_below (g := gb266) (o := .cells #[.int .i64 a0_0, .int .i64 a0_1, .slice A0_2 l0_2.length c0_2] 24 (0, 0)) (zb BK266) hb); have n6_ := Aside0.mk (blk_below (g := gb278) (o := .cells #[.int .i64 t269, .int .i64 t270, .slice Ao21 t271.length co21] 24 (0, 0)) (zb BK278) hb); have n7_ := Aside0.mk (blk_below (g := gb309) (o := .cells #[.int .i64 t300, .int .i64 t301, .slice Ao131 t302.length co131] 24 (0, 0)) (zb BK309) hb); have n8_ := Aside0.mk (below_step (zc3 HB GE266 GE278 GE309) hb); have n9_ := Aside0.mk (hbox); have n10_ := Aside0.mk ((by rw [hg]; exact (below_size (zc3 HB GE266 GE278 GE309)) : w.heap.size ≤ gb319)); have n11_ := Aside0.mk ((by rw [hg]; exact (below_size (zc3 HB GE266 GE278 GE309)) : w.heap.size ≤ gb319)); have n12_ := Aside0.mk ((by rw [hg]; exact Nat.ne_of_lt (blk_lt (g := gb266) (o := .cells #[.int .i64 a0_0, .int .i64 a0_1, .slice A0_2 l0_2.length c0_2] 24 (0, 0)) (zb BK266)) : gb266 ≠ gb319)); have n13_ := Aside0.mk ((by rw [hg]; exact Nat.ne_of_gt (blk_lt (g := gb266) (o := .cells #[.int .i64 a0_0, .int .i64 a0_1, .slice A0_2 l0_2.length c0_2] 24 (0, 0)) (zb BK266)) : gb319 ≠ gb266)); have n14_ := Aside0.mk ((by rw [hg]; exact Nat.ne_of_lt (blk_lt (g := gb278) (o := .cells #[.int .i64 t269, .int .i64 t270, .slice Ao21 t271.length co21] 24 (0, 0)) (zb BK278)) : gb278 ≠ gb319)); have n15_ := Aside0.mk ((by rw [hg]; exact Nat.ne_of_gt (blk_lt (g := gb278) (o := .cells #[.int .i64 t269, .int .i64 t270, .slice Ao21 t271.length co21] 24 (0, 0)) (zb BK278)) : gb319 ≠ gb278)); have n16_ := Aside0.mk ((by rw [hg]; exact Nat.ne_of_lt (blk_lt (g := gb309) (o := .cells #[.int .i64 t300, .int .i64 t301, .slice Ao131 t302.length co131] 24 (0, 0)) (zb BK309)) : gb309 ≠ gb319)); have n17_ := Aside0.mk ((by rw [hg]; exact Nat.ne_of_gt (blk_lt (g := gb309) (o := .cells #[.int .i64 t300, .int .i64 t301, .slice Ao131 t302.length co131] 24 (0, 0)) (zb BK309)) : gb319 ≠ gb309)); clear HO_279002; clear HO304; clear HO307; clear HO314; clear HO317; clear BK266; clear BK278; clear BK309; clear HB; have HO_279002 := n0_; have HO304 := n1_; have HO307 := n2_; have HO314 := n3_; have HO317 := n4_; have BK266 := n5_; have BK278 := n6_; have BK309 := n7_; have HB := n8_; have BK319 := n9_; have GW319 := n10_; have GE319 := n11_; have NB266_319 := n12_; have NB319_266 := n13_; have NB278_319 := n14_; have NB319_278 := n15_; have NB309_319 := n16_; have NB319_309 := n17_; clear n0_ n1_ n2_ n3_ n4_ n5_ n6_ n7_ n8_ n9_ n10_ n11_ n12_ n13_ n14_ n15_ n16_ n17_; clear hb hbox hg; have hnb136 := NB319_266.out; have hnc136 := NB266_319.out; have hnb137 := NB319_278.out; have hnc137 := NB278_319.out; have hnb138 := NB319_309.out; have hnc138 := NB309_319.out; have hcz139_0 : w135.cell? ⟨gb319, 0, none⟩ = some (.int .i64 0) := (blk_cell BK319.out 0).trans rfl; have hcz139_1 : w135.cell? ⟨gb319, 1, none⟩ = some (.int .i64 0) := (blk_cell BK319.out 1).trans rfl; have hcz139_2 : w135.cell? ⟨gb319, 2, none⟩ = some (.slice none 0 0) := (blk_cell BK319.out 2).trans rfl; have hfz139_0 := blk_frozen BK319.out 0; have hfz139_1 := blk_frozen BK319.out 1; have hfz139_2 := blk_frozen BK319.out 2; obtain ⟨Ao140, co140, eo140⟩ := Kd.V_slice HO314.out; subst eo140) | ((with_reducible refine gate_store (t := 24) (p := 20) rfl ?_); refine store_event (t := 24) (p := 20) (v := ?vo_w141) (w1 := (((w135.setCell ⟨gb319, 0, none⟩ (.int .i64 t310)).setCell ⟨gb319, 1, none⟩ (.int .i64 t311)).setCell ⟨gb319, 2, none⟩ (.slice Ao140 t312.length co140))) ?hg ?ho ?hn ?hr ?_; (case ho => rfl); (case hg => rfl); (case hn => rfl); (case hr => first | (go_simp; done) | (go_simp; rfl)); intro w141 hw; have n0_ : Aside0 (Kd.V k50 50 w141 w.heap.size (fun k_ => some k_ ≠ (v306 : Value).ownBlock ∧ some k_ ≠ (v316 : Value).ownBlock ∧ k_ ≠ gb266 ∧ k_ ≠ gb278 ∧ k_ ≠ gb309 ∧ k_ ≠ gb319) (.slice Ao21 t271.length co21) t271) := ⟨(by rw [hw]; exact (by (with_reducible repeat (first | apply Kd.V_alloc | apply Kd.V_drewN | apply Kd.V_drew)); exact Kd.V_mono (Kd.V_far (p := ⟨gb319, 2, none⟩) (Kd.V_far (p := ⟨gb319, 1, none⟩) (Kd.V_far (p := ⟨gb319, 0, none⟩) (Kd.V_mono HO_279002.out (fun k_ hk => (⟨hk, hk.2⟩ : _ ∧ k_ ≠ gb319))) (fun _ hk => hk.2) (.int .i64 t310)) (fun _ hk => hk.2) (.int .i64 t311)) (fun _ hk => hk.2) (.slice Ao140 t312.length co140)) (fun _ hk => ⟨hk.1.1.1.1, ⟨hk.1.1.2, ⟨hk.1.1.1.2.1, ⟨hk.1.1.1.2.2.1, ⟨hk.1.1.1.2.2.2, hk.1.2⟩⟩⟩⟩⟩)))⟩; have n1_ : Aside0 (Kd.V k50 50 w141 w.heap.size (fun k_ => some k_ ≠ (v306 : Value).ownBlock ∧ some k_ ≠ (v316 : Value).ownBlock ∧ k_ ≠ gb266 ∧ k_ ≠ gb278 ∧ k_ ≠ gb309 ∧ k_ ≠ gb319) (.slice Ao131 t302.length co131) t302) := ⟨(by rw [hw]; exact (by (with_reducible repeat (first | apply Kd.V_alloc | apply Kd.V_drewN | apply Kd.V_drew)); exact Kd.V_mono (Kd.V_far (p := ⟨gb319, 2, none⟩) (Kd.V_far (p := ⟨gb319, 1, none⟩) (Kd.V_far (p := ⟨gb319, 0, none⟩) (Kd.V_mono HO304.out (fun k_ hk => (⟨hk, hk.2⟩ : _ ∧ k_ ≠ gb319))) (fun _ hk => hk.2) (.int .i64 t310)) (fun _ hk => hk.2) (.int .i64 t311)) (fun _ hk => hk.2) (.slice Ao140 t312.length co140)) (fun _ hk => ⟨hk.1.1.1.1, ⟨hk.1.1.2, ⟨hk.1.1.1.2.1, ⟨hk.1.1.1.2.2.1, ⟨hk.1.1.1.2.2.2, hk.1.2⟩⟩⟩⟩⟩)))⟩; have n2_ : Aside0 (Kd.R k50 50 w141 w.heap.size (fun k_ => some k_ ≠ (v316 : Value).ownBlock) v306 t305) := ⟨(by rw [hw]; exact (by (with_reducible repeat (first | apply Kd.R_alloc | apply Kd.R_drewN | apply Kd.R_drew)); exact Kd.R_mono (Kd.R_far (p := ⟨gb319, 2, none⟩) (Kd.R_far (p := ⟨gb319, 1, none⟩) (Kd.R_far (p := ⟨gb319, 0, none⟩) (Kd.R_types HO307.out BK319.out (by decide)) (fun _ hk => hk.2) (.int .i64 t310)) (fun _ hk => hk.2) (.int .i64 t311)) (fun _ hk => hk.2) (.slice Ao140 t312.length co140)) (fun _ hk => hk.1.2)))⟩; have n3_ : Aside0 (Kd.V k50 50 w141 w.heap.size (fun k_ => some k_ ≠ (v306 : Value).ownBlock ∧ some k_ ≠ (v316 : Value).ownBlock ∧ k_ ≠ gb266 ∧ k_ ≠ gb278 ∧ k_ ≠ gb309 ∧ k_ ≠ gb319) (.slice Ao140 t312.length co140) t312) := ⟨(by rw [hw]; exact (by (with_reducible repeat (first | apply Kd.V_alloc | apply Kd.V_drewN | apply Kd.V_drew)); exact Kd.V_mono (Kd.V_far (p := ⟨gb319, 2, none⟩) (Kd.V_far (p := ⟨gb319, 1, none⟩) (Kd.V_far (p := ⟨gb319, 0, none⟩) (Kd.V_mono HO314.out (fun k_ hk => (⟨hk, hk.2⟩ : _ ∧ k_ ≠ gb319))) (fun _ hk => hk.2) (.int .i64 t310)) (fun _ hk => hk.2) (.int .i64 t311)) (fun _ hk => hk.2) (.slice Ao140 t312.length co140)) (fun _ hk => ⟨hk.1.1.2.1, ⟨hk.1.1.1, ⟨hk.1.1.2.2.1, ⟨hk.1.1.2.2.2.1, ⟨hk.1.1.2.2.2.2, hk.1.2⟩⟩⟩⟩⟩)))⟩; have n4_ : Aside0 (Kd.R k50 50 w141 w.heap.size (fun k_ => some k_ ≠ (v306 : Value).ownBlock) v316 t315) := ⟨(by rw [hw]; exact (by (with_reducible repeat (first | apply Kd.R_alloc | apply Kd.R_drewN | apply Kd.R_drew)); exact Kd.R_mono (Kd.R_far (p := ⟨gb319, 2, none⟩) (Kd.R_far (p := ⟨gb319, 1, none⟩) (Kd.R_far (p := ⟨gb319, 0, none⟩) (Kd.R_types HO317.out BK319.out (by decide)) (fun _ hk => hk.2) (.int .i64 t310)) (fun _ hk => hk.2) (.int .i64 t311)) (fun _ hk => hk.2) (.slice Ao140 t312.length co140)) (fun _ hk => hk.1.2)))⟩; have n5_ : Aside0 (w141.heap[gb266]? = some (.cells #[.int .i64 a0_0, .int .i64 a0_1, .slice A0_2 l0_2.length c0_2] 24 (0, 0))) := ⟨(by rw [hw]; exact (by (with_reducible repeat (first | refine blk_drewN ?_ _ | refine blk_drew ?_ | refine blk_alloc ?_ _)); refine blk_far ?_ NB266_319.out _; (with_reducible repeat (first | refine blk_drewN ?_ _ | refine blk_drew ?_ | refine blk_alloc ?_ _)); refine blk_far ?_ NB266_319.out _; (with_reducible repeat (first | refine blk_drewN ?_ _ | refine blk_drew ?_ | refine blk_alloc ?_ _)); refine blk_far ?_ NB266_319.out _; (with_reducible repeat (first | refine blk_drewN ?_ _ | refine blk_drew ?_ | refine blk_alloc ?_ _)); exact BK266.out))⟩; have n6_ : Aside0 (w141.heap[gb278]? = some (.cells #[.int .i64 t269, .int .i64 t270, .slice Ao21 t271.length co21] 24 (0, 0))) := ⟨(by rw [hw]; exact (by (with_reducible repeat (first | refine blk_drewN ?_ _ | refine blk_drew ?_ | refine blk_alloc ?_ _)); refine blk_far ?_ NB278_319.out _; (with_reducible repeat (first | refine blk_drewN ?_ _ | refine blk_drew ?_ | refine blk_alloc ?_ _)); refine blk_far ?_ NB278_319.out _; (with_reducible repeat (first | refine blk_drewN ?_ _ | refine blk_drew ?_ | refine blk_alloc ?_ _)); refine blk_far ?_ NB278_319.out _; (with_reducible repeat (first | refine blk_drewN ?_ _ | refine blk_drew ?_ | refine blk_alloc ?_ _)); exact BK278.out))⟩; have n7_ : Aside0 (w141.heap[gb309]? = some (.cells #[.int .i64 t300, .int .i64 t301, .slice Ao131 t302.length co131] 24 (0, 0))) := ⟨(by rw [hw]; exact (by (with_reducible repeat (first | refine blk_drewN ?_ _ | refine blk_drew ?_ | refine blk_alloc ?_ _)); refine blk_far ?_ NB309_319.out _; (with_reducible repeat (first | refine blk_drewN ?_ _ | refine blk_drew ?_ | refine blk_alloc ?_ _)); refine blk_far ?_ NB309_319.out _; (with_reducible repeat (first | refine blk_drewN ?_ _ | refine blk_drew ?_ | refine blk_alloc ?_ _)); refine blk_far ?_ NB309_319.out _; (with_reducible repeat (first | refine blk_drewN ?_ _ | refine blk_drew ?_ | refine blk_alloc ?_ _)); exact BK309.out))⟩; have n8_ : Aside0 (w141.heap[gb319]? = some (.cells #[.int .i64 t310, .int .i64 t311, .slice Ao140 t312.length co140] 24 (0, 0))) := ⟨(by rw [hw]; exact (by (with_reducible repeat (first | refine blk_drewN ?_ _ | refine blk_drew ?_ | refine blk_alloc ?_ _)); refine blk_put (cs := #[.int .i64 t310, .int .i64 t311, .slice none 0 0]) ?_ 2 _ rfl; (with_reducible repeat (first | refine blk_drewN ?_ _ | refine blk_drew ?_ | refine blk_alloc ?_ _)); refine blk_put (cs := #[.int .i64 t310, .int .i64 0, .slice none 0 0]) ?_ 1 _ rfl; (with_reducible repeat (first | refine blk_drewN ?_ _ | refine blk_drew ?_ | refine blk_alloc ?_ _)); refine blk_put (cs := #[.int .i64 0, .int .i64 0, .slice none 0 0]) ?_ 0 _ rfl; (with_reducible repeat (first | refine blk_drewN ?_ _ | refine blk_drew ?_ | refine blk_alloc ?_ _)); exact BK319.out))⟩; have n9_ : Aside0 (Below w.heap.size w w141) := ⟨(by rw [hw]; exact (zc4 HB GE266 GE278 GE309 GE319))⟩; clear hw; clear HO_279002; clear HO304; clear HO307; clear HO314; clear HO317; clear BK266; clear BK278; clear BK309; clear BK319; clear HB; have HO_279002 := n0_; have HO304 := n1_; have HO307 := n2_; have HO314 := n3_; have HO317 := n4_; have BK266 := n5_; have BK278 := n6_; have BK309 := n7_; have BK319 := n8_; have HB := n9_; clear n0_ n1_ n2_ n3_ n4_ n5_ n6_ n7_ n8_ n9_; have hcz142_0 : w141.cell? ⟨gb319, 0, none⟩ = some (.int .i64 t310) := (blk_cell BK319.out 0).trans rfl; have hcz142_1 : w141.cell? ⟨gb319, 1, none⟩ = some (.int .i64 t311) := (blk_cell BK319.out 1).trans rfl; have hcz142_2 : w141.cell? ⟨gb319, 2, none⟩ = some (.slice Ao140 t312.length co140) := (blk_cell BK319.out 2).trans rfl; have hfz142_0 := blk_frozen BK319.out 0; have hfz142_1 := blk_frozen BK319.out 1; have hfz142_2 := blk_frozen BK319.out 2) | ((with_reducible refine gate_callee (f := 13) rfl ?_); refine goesL_ (some 101) rfl rfl Try.func13 (by kernel_rfl) rfl #[.agg #[.int .i64 t310, .int .i64 t311, .slice Ao140 t312.length co140], .int .i64 (wrap64 (1 + (wrap64 (Int.tmod a3 50))))] rfl zm ?_; (with_reducible refine (sema_Give.calls kj36 t310 t311 (fun k_ => (some k_ ≠ (v306 : Value).ownBlock ∧ (some k_ ≠ (v316 : Value).ownBlock ∧ (k_ ≠ gb266 ∧ (k_ ≠ gb278 ∧ (k_ ≠ gb309 ∧ k_ ≠ gb319)))))) _ _ t312 (wrap64 (1 + (wrap64 (Int.tmod a3 50)))) t320 t321 t322 t325 t328 _ ?side1 A60.out).mono ?_); (case side1 => exact HO314.out); rintro e w143 ⟨v323, v326, rfl, ho0, ho1, hb⟩; refine ⟨_, rfl, ?_⟩; have n0_ := Aside0.mk (Kd.V_elder' (zV HO_279002) (Kd.R_base ho1) hb); have n1_ := Aside0.mk (Kd.V_elder' (zV HO304) (Kd.R_base ho1) hb); have n2_ := Aside0.mk (Kd.R_elder' (zR HO307) (Kd.R_base ho1) hb); have n3_ := Aside0.mk (Kd.V_elder' (zV HO314) (Kd.R_base ho1) hb); have n4_ := Aside0.mk (Kd.R_elder' (zR HO317) (Kd.R_base ho1) hb); have n5_ := Aside0.mk (Kd.V_lower (Kd.V_mono (ok' := fun k_ => some k_ ≠ (v326 : Value).ownBlock ∧ some k_ ≠ (v306 : Value).ownBlock ∧ some k_ ≠ (v316 : Value).ownBlock ∧ k_ ≠ gb266 ∧ k_ ≠ gb278 ∧ k_ ≠ gb309 ∧ k_ ≠ gb319) ho0 (fun k_ hk_ => ⟨hk_.2, Or.elim hk_.1 (fun hs_ => hs_.1) (fun hn_ => (Kd.fresh' (Kd.R_lt (zR HO307)) k_ hn_)), Or.elim hk_.1 (fun hs_ => hs_.2.1) (fun hn_ => (Kd.fresh' (Kd.R_lt (zR HO317)) k_ hn_)), Or.elim hk_.1 (fun hs_ => hs_.2.2.1) (fun hn_ => (Kd.freshB (g := gb266) (o := .cells #[.int .i64 a0_0, .int .i64 a0_1, .slice A0_2 l0_2.length c0_2] 24 (0, 0)) (zb BK266) k_ hn_)), Or.elim hk_.1 (fun hs_ => hs_.2.2.2.1) (fun hn_ => (Kd.freshB (g := gb278) (o := .cells #[.int .i64 t269, .int .i64 t270, .slice Ao21 t271.length co21] 24 (0, 0)) (zb BK278) k_ hn_)), Or.elim hk_.1 (fun hs_ => hs_.2.2.2.2.1) (fun hn_ => (Kd.freshB (g := gb309) (o := .cells #[.int .i64 t300, .int .i64 t301, .slice Ao131 t302.length co131] 24 (0, 0)) (zb BK309) k_ hn_)), Or.elim hk_.1 (fun hs_ => hs_.2.2.2.2.2) (fun hn_ => (Kd.freshB (g := gb319) (o := .cells #[.int .i64 t310, .int .i64 t311, .slice Ao140 t312.length co140] 24 (0, 0)) (zb BK319) k_ hn_))⟩)) (below_size (zc4 HB GE266 GE278 GE309 GE319))); have n6_ := Aside0.mk (Kd.R_lower (Kd.R_new' (Kd.R_new' (Kd.R_mono (ok' := fun k_ => True) ho1 (fun _ hk_ => trivial)) (Kd.R_lt (zR HO307))) (Kd.R_lt (zR HO317))) (below_size (zc4 HB GE266 GE278 GE309 GE319))); have n7_ := Aside0.mk (blk_below (g := gb266) (o := .cells #[.int .i64 a0_0, .int .i64 a0_1, .slice A0_2 l0_2.length c0_2] 24 (0, 0)) (zb BK266) hb); have n8_ := Aside0.mk (blk_below (g := gb278) (o := .cells #[.int .i64 t269, .int .i64 t270, .slice Ao21 t271.length co21] 24 (0, 0)) (zb BK278) hb); have n9_ := Aside0.mk (blk_below (g := gb309) (o := .cells #[.int .i64 t300, .int .i64 t301, .slice Ao131 t302.length co131] 24 (0, 0)) (zb BK309) hb); have n10_ := Aside0.mk (blk_below (g := gb319) (o := .cells #[.int .i64 t310, .int .i64 t311, .slice Ao140 t312.length co140] 24 (0, 0)) (zb BK319) hb); have n11_ := Aside0.mk (below_step (zc4 HB GE266 GE278 GE309 GE319) hb); clear HO_279002; clear HO304; clear HO307; clear HO314; clear HO317; clear BK266; clear BK278; clear BK309; clear BK319; clear HB; have HO_279002 := n0_; have HO304 := n1_; have HO307 := n2_; have HO314 := n3_; have HO317 := n4_; have HO324 := n5_; have HO327 := n6_; have BK266 := n7_; have BK278 := n8_; have BK309 := n9_; have BK319 := n10_; have HB := n11_; clear n0_ n1_ n2_ n3_ n4_ n5_ n6_ n7_ n8_ n9_ n10_ n11_; (try clear hb); (try clear hb2); (try clear hk); (try clear hi); (try clear ho0); (try clear ho1)) | ((with_reducible refine gate_dst (N := 23) rfl ?_); (try (refine gate_guard (by rfl) ?_; dsimp only)); refine box_event ?hg (N := 23) ?hd (cs := #[.int .i64 0, .int .i64 0, .slice none 0 0]) (t := 24) ?hr ?_; (case hd => rfl); (case hg => rfl); (case hr => first | (go_simp; done) | (go_simp; rfl)); intro gb329 hg w144 hbox hb; have n0_ := Aside0.mk (Kd.V_below (Kd.V_elderB (zV HO_279002) gb329 (Nat.le_of_eq hg.symm)) hb); have n1_ := Aside0.mk (Kd.V_below (Kd.V_elderB (zV HO304) gb329 (Nat.le_of_eq hg.symm)) hb); have n2_ := Aside0.mk (Kd.R_below (zR HO307) hb); have n3_ := Aside0.mk (Kd.V_below (Kd.V_elderB (zV HO314) gb329 (Nat.le_of_eq hg.symm)) hb); have n4_ := Aside0.mk (Kd.R_below (zR HO317) hb); have n5_ := Aside0.mk (Kd.V_below (Kd.V_elderB (zV HO324) gb329 (Nat.le_of_eq hg.symm)) hb); have n6_ := Aside0.mk (Kd.R_below (zR HO327) hb); have n7_ := Aside0.mk (blk_below (g := gb266) (o := .cells #[.int .i64 a0_0, .int .i64 a0_1, .slice A0_2 l0_2.length c0_2] 24 (0, 0)) (zb BK266) hb); have n8_ := Aside0.mk (blk_below (g := gb278) (o := .cells #[.int .i64 t269, .int .i64 t270, .slice Ao21 t271.length co21] 24 (0, 0)) (zb BK278) hb); have n9_ := Aside0.mk (blk_below (g := gb309) (o := .cells #[.int .i64 t300, .int .i64 t301, .slice Ao131 t302.length co131] 24 (0, 0)) (zb BK309) hb); have n10_ := Aside0.mk (blk_below (g := gb319) (o := .cells #[.int .i64 t310, .int .i64 t311, .slice Ao140 t312.length co140] 24 (0, 0)) (zb BK319) hb); have n11_ := Aside0.mk (below_step (zc4 HB GE266 GE278 GE309 GE319) hb); have n12_ := Aside0.mk (hbox); have n13_ := Aside0.mk ((by rw [hg]; exact (below_size (zc4 HB GE266 GE278 GE309 GE319)) : w.heap.size ≤ gb329)); have n14_ := Aside0.mk ((by rw [hg]; exact (below_size (zc4 HB GE266 GE278 GE309 GE319)) : w.heap.size ≤ gb329)); have n15_ := Aside0.mk ((by rw [hg]; exact Nat.ne_of_lt (blk_lt (g := gb266) (o := .cells #[.int .i64 a0_0, .int .i64 a0_1, .slice A0_2 l0_2.length c0_2] 24 (0, 0)) (zb BK266)) : gb266 ≠ gb329)); have n16_ := Aside0.mk ((by rw [hg]; exact Nat.ne_of_gt (blk_lt (g := gb266) (o := .cells #[.int .i64 a0_0, .int .i64 a0_1, .slice A0_2 l0_2.length c0_2] 24 (0, 0)) (zb BK266)) : gb329 ≠ gb266)); have n17_ := Aside0.mk ((by rw [hg]; exact Nat.ne_of_lt (blk_lt (g := gb278) (o := .cells #[.int .i64 t269, .int .i64 t270, .slice Ao21 t271.length co21] 24 (0, 0)) (zb BK278)) : gb278 ≠ gb329)); have n18_ := Aside0.mk ((by rw [hg]; exact Nat.ne_of_gt (blk_lt (g := gb278) (o := .cells #[.int .i64 t269, .int .i64 t270, .slice Ao21 t271.length co21] 24 (0, 0)) (zb BK278)) : gb329 ≠ gb278)); have n19_ := Aside0.mk ((by rw [hg]; exact Nat.ne_of_lt (blk_lt (g := gb309) (o := .cells #[.int .i64 t300, .int .i64 t301, .slice Ao131 t302.length co131] 24 (0, 0)) (zb BK309)) : gb309 ≠ gb329)); have n20_ := Aside0.mk ((by rw [hg]; exact Nat.ne_of_gt (blk_lt (g := gb309) (o := .cells #[.int .i64 t300, .int .i64 t301, .slice Ao131 t302.length co131] 24 (0, 0)) (zb BK309)) : gb329 ≠ gb309)); have n21_ := Aside0.mk ((by rw [hg]; exact Nat.ne_of_lt (blk_lt (g := gb319) (o := .cells #[.int .i64 t310, .int .i64 t311, .slice Ao140 t312.length co140] 24 (0, 0)) (zb BK319)) : gb319 ≠ gb329)); have n22_ := Aside0.mk ((by rw [hg]; exact Nat.ne_of_gt (blk_lt (g := gb319) (o := .cells #[.int .i64 t310, .int .i64 t311, .slice Ao140 t312.length co140] 24 (0, 0)) (zb BK319)) : gb329 ≠ gb319)); clear HO_279002; clear HO304; clear HO307; clear HO314; clear HO317; clear HO324; clear HO327; clear BK266; clear BK278; clear BK309; clear BK319; clear HB; have HO_279002 := n0_; have HO304 := n1_; have HO307 := n2_; have HO314 := n3_; have HO317 := n4_; have HO324 := n5_; have HO327 := n6_; have BK266 := n7_; have BK278 := n8_; have BK309 := n9_; have BK319 := n10_; have HB := n11_; have BK329 := n12_; have GW329 := n13_; have GE329 := n14_; have NB266_329 := n15_; have NB329_266 := n16_; have NB278_329 := n17_; have NB329_278 := n18_; have NB309_329 := n19_; have NB329_309 := n20_; have NB319_329 := n21_; have NB329_319 := n22_; clear n0_ n1_ n2_ n3_ n4_ n5_ n6_ n7_ n8_ n9_ n10_ n11_ n12_ n13_ n14_ n15_ n16_ n17_ n18_ n19_ n20_ n21_ n22_; clear hb hbox hg; have hnb145 := NB329_266.out; have hnc145 := NB266_329.out; have hnb146 := NB329_278.out; have hnc146 := NB278_329.out; have hnb147 := NB329_309.out; have hnc147 := NB309_329.out; have hnb148 := NB329_319.out; have hnc148 := NB319_329.out; have hcz149_0 : w144.cell? ⟨gb329, 0, none⟩ = some (.int .i64 0) := (blk_cell BK329.out 0).trans rfl; have hcz149_1 : w144.cell? ⟨gb329, 1, none⟩ = some (.int .i64 0) := (blk_cell BK329.out 1).trans rfl; have hcz149_2 : w144.cell? ⟨gb329, 2, none⟩ = some (.slice none 0 0) := (blk_cell BK329.out 2).trans rfl; have hfz149_0 := blk_frozen BK329.out 0; have hfz149_1 := blk_frozen BK329.out 1; have hfz149_2 := blk_frozen BK329.out 2; obtain ⟨Ao150, co150, eo150⟩ := Kd.V_slice HO324.out; subst eo150) | ((with_reducible refine gate_callee (f := 9) rfl ?_); refine goesL_ (some 107) rfl rfl Try.func9 (by kernel_rfl) rfl #[] rfl zm ?_; (with_reducible refine (handshakerlaw18_awake.calls kj36  t330 _ A123.out).mono ?_); rintro e w151 ⟨rfl, hb⟩; refine ⟨_, rfl, ?_⟩; have n0_ := Aside0.mk (Kd.V_below (by (with_reducible repeat (first | apply Kd.V_alloc | apply Kd.V_drewN | apply Kd.V_drew)); exact (Kd.V_mono (Kd.V_far (p := ⟨gb329, 2, none⟩) (Kd.V_far (p := ⟨gb329, 1, none⟩) (Kd.V_far (p := ⟨gb329, 0, none⟩) (Kd.V_mono HO_279002.out (fun k_ hk => (⟨hk, hk.2⟩ : _ ∧ k_ ≠ gb329))) (fun _ hk => hk.2) (.int .i64 t320)) (fun _ hk => hk.2) (.int .i64 t321)) (fun _ hk => hk.2) (.slice Ao150 t322.length co150)) (fun _ h_ => h_.1))) hb); have n1_ := Aside0.mk (Kd.V_below (by (with_reducible repeat (first | apply Kd.V_alloc | apply Kd.V_drewN | apply Kd.V_drew)); exact (Kd.V_mono (Kd.V_far (p := ⟨gb329, 2, none⟩) (Kd.V_far (p := ⟨gb329, 1, none⟩) (Kd.V_far (p := ⟨gb329, 0, none⟩) (Kd.V_mono HO304.out (fun k_ hk => (⟨hk, hk.2⟩ : _ ∧ k_ ≠ gb329))) (fun _ hk => hk.2) (.int .i64 t320)) (fun _ hk => hk.2) (.int .i64 t321)) (fun _ hk => hk.2) (.slice Ao150 t322.length co150)) (fun _ h_ => h_.1))) hb); have n2_ := Aside0.mk (Kd.R_below (by (with_reducible repeat (first | apply Kd.R_alloc | apply Kd.R_drewN | apply Kd.R_drew)); exact (Kd.R_mono (Kd.R_far (p := ⟨gb329, 2, none⟩) (Kd.R_far (p := ⟨gb329, 1, none⟩) (Kd.R_far (p := ⟨gb329, 0, none⟩) (Kd.R_types HO307.out BK329.out (by decide)) (fun _ hk => hk.2) (.int .i64 t320)) (fun _ hk => hk.2) (.int .i64 t321)) (fun _ hk => hk.2) (.slice Ao150 t322.length co150)) (fun _ h_ => h_.1))) hb); have n3_ := Aside0.mk (Kd.V_below (by (with_reducible repeat (first | apply Kd.V_alloc | apply Kd.V_drewN | apply Kd.V_drew)); exact (Kd.V_mono (Kd.V_far (p := ⟨gb329, 2, none⟩) (Kd.V_far (p := ⟨gb329, 1, none⟩) (Kd.V_far (p := ⟨gb329, 0, none⟩) (Kd.V_mono HO314.out (fun k_ hk => (⟨hk, hk.2⟩ : _ ∧ k_ ≠ gb329))) (fun _ hk => hk.2) (.int .i64 t320)) (fun _ hk => hk.2) (.int .i64 t321)) (fun _ hk => hk.2) (.slice Ao150 t322.length co150)) (fun _ h_ => h_.1))) hb); have n4_ := Aside0.mk (Kd.R_below (by (with_reducible repeat (first | apply Kd.R_alloc | apply Kd.R_drewN | apply Kd.R_drew)); exact (Kd.R_mono (Kd.R_far (p := ⟨gb329, 2, none⟩) (Kd.R_far (p := ⟨gb329, 1, none⟩) (Kd.R_far (p := ⟨gb329, 0, none⟩) (Kd.R_types HO317.out BK329.out (by decide)) (fun _ hk => hk.2) (.int .i64 t320)) (fun _ hk => hk.2) (.int .i64 t321)) (fun _ hk => hk.2) (.slice Ao150 t322.length co150)) (fun _ h_ => h_.1))) hb); have n5_ := Aside0.mk (Kd.V_below (by (with_reducible repeat (first | apply Kd.V_alloc | apply Kd.V_drewN | apply Kd.V_drew)); exact (Kd.V_mono (Kd.V_far (p := ⟨gb329, 2, none⟩) (Kd.V_far (p := ⟨gb329, 1, none⟩) (Kd.V_far (p := ⟨gb329, 0, none⟩) (Kd.V_mono HO324.out (fun k_ hk => (⟨hk, hk.2⟩ : _ ∧ k_ ≠ gb329))) (fun _ hk => hk.2) (.int .i64 t320)) (fun _ hk => hk.2) (.int .i64 t321)) (fun _ hk => hk.2) (.slice Ao150 t322.length co150)) (fun _ h_ => h_.1))) hb); have n6_ := Aside0.mk (Kd.R_below (by (with_reducible repeat (first | apply Kd.R_alloc | apply Kd.R_drewN | apply Kd.R_drew)); exact (Kd.R_mono (Kd.R_far (p := ⟨gb329, 2, none⟩) (Kd.R_far (p := ⟨gb329, 1, none⟩) (Kd.R_far (p := ⟨gb329, 0, none⟩) (Kd.R_types HO327.out BK329.out (by decide)) (fun _ hk => hk.2) (.int .i64 t320)) (fun _ hk => hk.2) (.int .i64 t321)) (fun _ hk => hk.2) (.slice Ao150 t322.length co150)) (fun _ h_ => h_.1))) hb); have n7_ := Aside0.mk (blk_below (g := gb266) (o := .cells #[.int .i64 a0_0, .int .i64 a0_1, .slice A0_2 l0_2.length c0_2] 24 (0, 0)) (by (with_reducible repeat (first | refine blk_drewN ?_ _ | refine blk_drew ?_ | refine blk_alloc ?_ _)); refine blk_far ?_ NB266_329.out _; (with_reducible repeat (first | refine blk_drewN ?_ _ | refine blk_drew ?_ | refine blk_alloc ?_ _)); refine blk_far ?_ NB266_329.out _; (with_reducible repeat (first | refine blk_drewN ?_ _ | refine blk_drew ?_ | refine blk_alloc ?_ _)); refine blk_far ?_ NB266_329.out _; (with_reducible repeat (first | refine blk_drewN ?_ _ | refine blk_drew ?_ | refine blk_alloc ?_ _)); exact BK266.out) hb); have n8_ := Aside0.mk (blk_below (g := gb278) (o := .cells #[.int .i64 t269, .int .i64 t270, .slice Ao21 t271.length co21] 24 (0, 0)) (by (with_reducible repeat (first | refine blk_drewN ?_ _ | refine blk_drew ?_ | refine blk_alloc ?_ _)); refine blk_far ?_ NB278_329.out _; (with_reducible repeat (first | refine blk_drewN ?_ _ | refine blk_drew ?_ | refine blk_alloc ?_ _)); refine blk_far ?_ NB278_329.out _; (with_reducible repeat (first | refine blk_drewN ?_ _ | refine blk_drew ?_ | refine blk_alloc ?_ _)); refine blk_far ?_ NB278_329.out _; (with_reducible repeat (first | refine blk_drewN ?_ _ | refine blk_drew ?_ | refine blk_alloc ?_ _)); exact BK278.out) hb); have n9_ := Aside0.mk (blk_below (g := gb309) (o := .cells #[.int .i64 t300, .int .i64 t301, .slice Ao131 t302.length co131] 24 (0, 0)) (by (with_reducible repeat (first | refine blk_drewN ?_ _ | refine blk_drew ?_ | refine blk_alloc ?_ _)); refine blk_far ?_ NB309_329.out _; (with_reducible repeat (first | refine blk_drewN ?_ _ | refine blk_drew ?_ | refine blk_alloc ?_ _)); refine blk_far ?_ NB309_329.out _; (with_reducible repeat (first | refine blk_drewN ?_ _ | refine blk_drew ?_ | refine blk_alloc ?_ _)); refine blk_far ?_ NB309_329.out _; (with_reducible repeat (first | refine blk_drewN ?_ _ | refine blk_drew ?_ | refine blk_alloc ?_ _)); exact BK309.out) hb); have n10_ := Aside0.mk (blk_below (g := gb319) (o := .cells #[.int .i64 t310, .int .i64 t311, .slice Ao140 t312.length co140] 24 (0, 0)) (by (with_reducible repeat (first | refine blk_drewN ?_ _ | refine blk_drew ?_ | refine blk_alloc ?_ _)); refine blk_far ?_ NB319_329.out _; (with_reducible repeat (first | refine blk_drewN ?_ _ | refine blk_drew ?_ | refine blk_alloc ?_ _)); refine blk_far ?_ NB319_329.out _; (with_reducible repeat (first | refine blk_drewN ?_ _ | refine blk_drew ?_ | refine blk_alloc ?_ _)); refine blk_far ?_ NB319_329.out _; (with_reducible repeat (first | refine blk_drewN ?_ _ | refine blk_drew ?_ | refine blk_alloc ?_ _)); exact BK319.out) hb); have n11_ := Aside0.mk (blk_below (g := gb329) (o := .cells #[.int .i64 t320, .int .i64 t321, .slice Ao150 t322.length co150] 24 (0, 0)) (by (with_reducible repeat (first | refine blk_drewN ?_ _ | refine blk_drew ?_ | refine blk_alloc ?_ _)); refine blk_put (cs := #[.int .i64 t320, .int .i64 t321, .slice none 0 0]) ?_ 2 _ rfl; (with_reducible repeat (first | refine blk_drewN ?_ _ | refine blk_drew ?_ | refine blk_alloc ?_ _)); refine blk_put (cs := #[.int .i64 t320, .int .i64 0, .slice none 0 0]) ?_ 1 _ rfl; (with_reducible repeat (first | refine blk_drewN ?_ _ | refine blk_drew ?_ | refine blk_alloc ?_ _)); refine blk_put (cs := #[.int .i64 0, .int .i64 0, .slice none 0 0]) ?_ 0 _ rfl; (with_reducible repeat (first | refine blk_drewN ?_ _ | refine blk_drew ?_ | refine blk_alloc ?_ _)); exact BK329.out) hb); have n12_ := Aside0.mk (below_step (zc5 HB GE266 GE278 GE309 GE319 GE329) hb); clear HO_279002; clear HO304; clear HO307; clear HO314; clear HO317; clear HO324; clear HO327; clear BK266; clear BK278; clear BK309; clear BK319; clear BK329; clear HB; have HO_279002 := n0_; have HO304 := n1_; have HO307 := n2_; have HO314 := n3_; have HO317 := n4_; have HO324 := n5_; have HO327 := n6_; have BK266 := n7_; have BK278 := n8_; have BK309 := n9_; have BK319 := n10_; have BK329 := n11_; have HB := n12_; clear n0_ n1_ n2_ n3_ n4_ n5_ n6_ n7_ n8_ n9_ n10_ n11_ n12_; (try clear hb); (try clear hb2); (try clear hk); (try clear hi)))
           go_ret
           exact ⟨by first | rfl | (simp [errW_none, errW_some] <;> rfl) | (simp [*, errW_none, errW_some] <;> rfl), by repeat (first | (with_reducible first | exact HB.out | apply below_alloc | apply pw_below_drewN | apply below_drew1 | refine below_set ?_ GE266.out | refine below_set ?_ GE278.out | refine below_set ?_ GE309.out | refine below_set ?_ GE319.out | refine below_set ?_ GE329.out) | exact HB.out)⟩

end Go.Proofs.Ythbcajkphkdnmaa.PSemaOthers
