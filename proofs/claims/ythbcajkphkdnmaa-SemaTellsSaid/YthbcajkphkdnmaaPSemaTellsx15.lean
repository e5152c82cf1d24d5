/- Lean functions that say what functions of the given program compute, and proofs by walking the code that each call does just that; no condition but those that each statement names. -/
import Derived.Test.YthbcajkphkdnmaaPSemaTellsx0
import Derived.Test.YthbcajkphkdnmaaPSemaTellsx4
import Derived.Test.YthbcajkphkdnmaaPSemaTellsx6
import Derived.Test.YthbcajkphkdnmaaPSemaTellsx8
import Derived.Test.YthbcajkphkdnmaaPSemaTellsx9
import Derived.Test.YthbcajkphkdnmaaPSemaTellsx10
import Derived.Test.YthbcajkphkdnmaaPSemaTellsx11
import Derived.Test.YthbcajkphkdnmaaPSemaTellsx13
import Derived.Test.YthbcajkphkdnmaaPSemaTellsx14
namespace Go.Proofs.Ythbcajkphkdnmaa.PSemaTells
open Go.RowKit Go.Proofs.YthbcajkphkdnmaaW.PrintWords Go.Proofs.YthbcajkphkdnmaaW.PrintLast Go.Proofs.YthbcajkphkdnmaaW.PrintMore
attribute [local go_sem] max2_int min2_int max_two min_two max_three min_three max_four min_four   -- for this text's walks alone
set_option linter.unusedVariables false
set_option linter.unusedSimpArgs false

/-! ### handshakerlaw18_SemaTells: function 3 -/
def handshakerlaw18_SemaTells.j0 : Nat → Bool → Int → Bool → Int → List (S50) → Int → List (S61) → Int → List (S50) → Int → List (S61) → Int → Bool → Int → Int → List (S50) → Int → Int → List (S61) → Int → Int → List (S50) → Int → Int → List (S61) → Int → Int → List (S50) → Int → Int → List (S61) → Int → Int → List (S50) → Int → Int → List (S61) → Option (Bool)
 | 0, _, _, _, _, _, _, _, _, _, _, _, _, _, _, _, _, _, _, _, _, _, _, _, _, _, _, _, _, _, _, _, _, _, _, _, _, _ => none
 | k + 1, x9, x10, x12, x13, x15, x16, x18, x19, x21, x22, x24, x25, x122, x353000, x353001, x353002, x360000, x360001, x360002, x368000, x368001, x368002, x376000, x376001, x376002, x386000, x386001, x386002, x396000, x396001, x396002, x406000, x406001, x406002, x416000, x416001, x416002 => if x122 = true then (none) else ((sema_Right.f k x353000 x353001 x353002).bind fun t424 => ((handshakerref18_Right.f k x360000 x360001 x360002).bind fun t425 => (if (t424 == t425) = true then ((handshakerlaw18_Ref.f k x368000 x368001 x368002).bind fun bt426 => ((handshakerref18_Same.f k bt426.1 bt426.2.1 bt426.2.2 x376000 x376001 x376002).bind fun t431 => (if t431 = true then (if (x9 == x12) = true then (if x10 = x13 then ((handshakerlaw18_Ref.f k x386000 x386001 x386002).bind fun bt432 => ((handshakerref18_Same.f k bt432.1 bt432.2.1 bt432.2.2 x396000 x396001 x396002).bind fun t437 => (if t437 = true then ((handshakerlaw18_Refs.f k x15).bind fun t438 => ((handshakerref18_List.f k t438 x18).bind fun t441 => (if t441 = true then (if x16 = x19 then ((handshakerlaw18_Ref.f k x406000 x406001 x406002).bind fun bt442 => ((handshakerref18_Same.f k bt442.1 bt442.2.1 bt442.2.2 x416000 x416001 x416002).bind fun t447 => (if t447 = true then ((handshakerlaw18_Refs.f k x21).bind fun t448 => ((handshakerref18_List.f k t448 x24).bind fun t451 => (if t451 = true then (if x22 = x25 then ((handshakerlaw18_awake.f k).bind fun t452 => (some t452)) else (none)) else (none)))) else (none)))) else (none)) else (none)))) else (none)))) else (none)) else (none)) else (none)))) else (none))))
def handshakerlaw18_SemaTells.f (k : Nat) (a0_0 : Int) (a0_1 : Int) (l0_2 : List (S50)) (a1 : Int) (a2 : Int) : Option (Bool) := if (l0_2.length : Int) > 30 then ((handshakerlaw18_awake.f k).bind fun t353 => (some t353)) else ((handshakerlaw18_Ref.f k a0_0 a0_1 l0_2).bind fun bt354 => ((sema_Take.f k a0_0 a0_1 l0_2 a1 a2).bind fun bt360 => ((handshakerref18_Take.f k bt354.1 bt354.2.1 bt354.2.2 a1 a2).bind fun bt368 => ((sema_Give.f k a0_0 a0_1 l0_2 a2).bind fun bt376 => ((handshakerref18_Give.f k bt354.1 bt354.2.1 bt354.2.2 a2).bind fun bt386 => ((sema_Leave.f k a0_0 a0_1 l0_2 a1).bind fun bt396 => ((handshakerref18_Leave.f k bt354.1 bt354.2.1 bt354.2.2 a1).bind fun bt406 => ((sema_New.f k a1 a2).bind fun bt416 => ((handshakerref18_Right.f k a1 a2 ([] : List (S61))).bind fun t423 => (if bt416.2.2.2 = 0 then (if t423 = true then (if bt416.1 = a1 then (if bt416.2.1 = a2 then (if (bt416.2.2.1.length : Int) = 0 then (handshakerlaw18_SemaTells.j0 k bt360.2.2.2.1 bt360.2.2.2.2 bt368.2.2.2.1 bt368.2.2.2.2 bt376.2.2.2.1 bt376.2.2.2.2 bt386.2.2.2.1 bt386.2.2.2.2 bt396.2.2.2.1 bt396.2.2.2.2 bt406.2.2.2.1 bt406.2.2.2.2 false a0_0 a0_1 l0_2 bt354.1 bt354.2.1 bt354.2.2 bt360.1 bt360.2.1 bt360.2.2.1 bt368.1 bt368.2.1 bt368.2.2.1 bt376.1 bt376.2.1 bt376.2.2.1 bt386.1 bt386.2.1 bt386.2.2.1 bt396.1 bt396.2.1 bt396.2.2.1 bt406.1 bt406.2.1 bt406.2.2.1) else (none)) else (none)) else (none)) else (none)) else (if t423 = true then (none) else (handshakerlaw18_SemaTells.j0 k bt360.2.2.2.1 bt360.2.2.2.2 bt368.2.2.2.1 bt368.2.2.2.2 bt376.2.2.2.1 bt376.2.2.2.2 bt386.2.2.2.1 bt386.2.2.2.2 bt396.2.2.2.1 bt396.2.2.2.2 bt406.2.2.2.1 bt406.2.2.2.2 (bt416.2.2.2 != 1) a0_0 a0_1 l0_2 bt354.1 bt354.2.1 bt354.2.2 bt360.1 bt360.2.1 bt360.2.2.1 bt368.1 bt368.2.1 bt368.2.2.1 bt376.1 bt376.2.1 bt376.2.2.1 bt386.1 bt386.2.1 bt386.2.2.1 bt396.1 bt396.2.1 bt396.2.2.1 bt406.1 bt406.2.1 bt406.2.2.1))))))))))))
theorem handshakerlaw18_SemaTells.mono_l : ∀ k, (∀ y0 y1 y2 y3 y4 y5 y6 y7 y8 y9 y10 y11 y12 y13 y14 y15 y16 y17 y18 y19 y20 y21 y22 y23 y24 y25 y26 y27 y28 y29 y30 y31 y32 y33 y34 y35 y36, LeO (handshakerlaw18_SemaTells.j0 k y0 y1 y2 y3 y4 y5 y6 y7 y8 y9 y10 y11 y12 y13 y14 y15 y16 y17 y18 y19 y20 y21 y22 y23 y24 y25 y26 y27 y28 y29 y30 y31 y32 y33 y34 y35 y36) (handshakerlaw18_SemaTells.j0 (k + 1) y0 y1 y2 y3 y4 y5 y6 y7 y8 y9 y10 y11 y12 y13 y14 y15 y16 y17 y18 y19 y20 y21 y22 y23 y24 y25 y26 y27 y28 y29 y30 y31 y32 y33 y34 y35 y36))
 | 0 => fun _ _ _ _ _ _ _ _ _ _ _ _ _ _ _ _ _ _ _ _ _ _ _ _ _ _ _ _ _ _ _ _ _ _ _ _ _ r h => by simp [handshakerlaw18_SemaTells.j0] at h
 | k + 1 => by
  have ih0 := handshakerlaw18_SemaTells.mono_l k
  ·intro y0 y1 y2 y3 y4 y5 y6 y7 y8 y9 y10 y11 y12 y13 y14 y15 y16 y17 y18 y19 y20 y21 y22 y23 y24 y25 y26 y27 y28 y29 y30 y31 y32 y33 y34 y35 y36
   unfold handshakerlaw18_SemaTells.j0
   repeat' first
   | (with_reducible exact ih0 _ _ _ _ _ _ _ _ _ _ _ _ _ _ _ _ _ _ _ _ _ _ _ _ _ _ _ _ _ _ _ _ _ _ _ _ _)
   | (with_reducible exact handshakerlaw18_Ref.mono _ _ _ _)
   | (with_reducible exact handshakerlaw18_Refs.mono _ _)
   | (with_reducible exact handshakerlaw18_awake.mono _)
   | (with_reducible exact handshakerref18_Give.mono _ _ _ _ _)
   | (with_reducible exact handshakerref18_Leave.mono _ _ _ _ _)
   | (with_reducible exact handshakerref18_List.mono _ _ _)
   | (with_reducible exact handshakerref18_Right.mono _ _ _ _)
   | (with_reducible exact handshakerref18_Same.mono _ _ _ _ _ _ _)
   | (with_reducible exact handshakerref18_Take.mono _ _ _ _ _ _)
   | (with_reducible exact sema_Give.mono _ _ _ _ _)
   | (with_reducible exact sema_Leave.mono _ _ _ _ _)
   | (with_reducible exact sema_New.mono _ _ _)
   | (with_reducible exact sema_Right.mono _ _ _ _)
   | (with_reducible exact sema_Take.mono _ _ _ _ _ _)
   | (with_reducible exact LeO.refl _)
   | (with_reducible exact LeO.none _)
   | (with_reducible refine LeO.ite ?_ ?_)
   | (with_reducible refine LeO.bind ?_ (fun _ => ?_))
   | exact ih0 _ _ _ _ _ _ _ _ _ _ _ _ _ _ _ _ _ _ _ _ _ _ _ _ _ _ _ _ _ _ _ _ _ _ _ _ _
   | exact handshakerlaw18_Ref.mono _ _ _ _
   | exact handshakerlaw18_Refs.mono _ _
   | exact handshakerlaw18_awake.mono _
   | exact handshakerref18_Give.mono _ _ _ _ _
   | exact handshakerref18_Leave.mono _ _ _ _ _
   | exact handshakerref18_List.mono _ _ _
   | exact handshakerref18_Right.mono _ _ _ _
   | exact handshakerref18_Same.mono _ _ _ _ _ _ _
   | exact handshakerref18_Take.mono _ _ _ _ _ _
   | exact sema_Give.mono _ _ _ _ _
   | exact sema_Leave.mono _ _ _ _ _
   | exact sema_New.mono _ _ _
   | exact sema_Right.mono _ _ _ _
   | exact sema_Take.mono _ _ _ _ _ _
   | exact LeO.none _
   | refine LeO.ite ?_ ?_
   | refine LeO.bind ?_ (fun _ => ?_)
theorem handshakerlaw18_SemaTells.mono : ∀ a0 a1 a2 a3 a4 k, LeO (handshakerlaw18_SemaTells.f k a0 a1 a2 a3 a4) (handshakerlaw18_SemaTells.f (k + 1) a0 a1 a2 a3 a4) := by
 intro a0 a1 a2 a3 a4 k
 have ih0 := handshakerlaw18_SemaTells.mono_l k
 unfold handshakerlaw18_SemaTells.f
 repeat' first
   | (with_reducible exact ih0 _ _ _ _ _ _ _ _ _ _ _ _ _ _ _ _ _ _ _ _ _ _ _ _ _ _ _ _ _ _ _ _ _ _ _ _ _)
   | (with_reducible exact handshakerlaw18_Ref.mono _ _ _ _)
   | (with_reducible exact handshakerlaw18_Refs.mono _ _)
   | (with_reducible exact handshakerlaw18_awake.mono _)
   | (with_reducible exact handshakerref18_Give.mono _ _ _ _ _)
   | (with_reducible exact handshakerref18_Leave.mono _ _ _ _ _)
   | (with_reducible exact handshakerref18_List.mono _ _ _)
   | (with_reducible exact handshakerref18_Right.mono _ _ _ _)
   | (with_reducible exact handshakerref18_Same.mono _ _ _ _ _ _ _)
   | (with_reducible exact handshakerref18_Take.mono _ _ _ _ _ _)
   | (with_reducible exact sema_Give.mono _ _ _ _ _)
   | (with_reducible exact sema_Leave.mono _ _ _ _ _)
   | (with_reducible exact sema_New.mono _ _ _)
   | (with_reducible exact sema_Right.mono _ _ _ _)
   | (with_reducible exact sema_Take.mono _ _ _ _ _ _)
   | (with_reducible exact LeO.refl _)
   | (with_reducible exact LeO.none _)
   | (with_reducible refine LeO.ite ?_ ?_)
   | (with_reducible refine LeO.bind ?_ (fun _ => ?_))
   | exact ih0 _ _ _ _ _ _ _ _ _ _ _ _ _ _ _ _ _ _ _ _ _ _ _ _ _ _ _ _ _ _ _ _ _ _ _ _ _
   | exact handshakerlaw18_Ref.mono _ _ _ _
   | exact handshakerlaw18_Refs.mono _ _
   | exact handshakerlaw18_awake.mono _
   | exact handshakerref18_Give.mono _ _ _ _ _
   | exact handshakerref18_Leave.mono _ _ _ _ _
   | exact handshakerref18_List.mono _ _ _
   | exact handshakerref18_Right.mono _ _ _ _
   | exact handshakerref18_Same.mono _ _ _ _ _ _ _
   | exact handshakerref18_Take.mono _ _ _ _ _ _
   | exact sema_Give.mono _ _ _ _ _
   | exact sema_Leave.mono _ _ _ _ _
   | exact sema_New.mono _ _ _
   | exact sema_Right.mono _ _ _ _
   | exact sema_Take.mono _ _ _ _ _ _
   | exact LeO.none _
   | refine LeO.ite ?_ ?_
   | refine LeO.bind ?_ (fun _ => ?_)
def handshakerlaw18_SemaTells.T14 : Bool × List (List Nat × List Nat) := (true, [([], []), ([0], [0]), ([], []), ([2, 1], [2]), ([1, 3], [1, 3]), ([4, 3], [4]), ([5], [5]), ([6, 5, 5], [5, 6]), ([5], [5]), ([7, 8, 7, 5], [5, 7, 8]), ([5, 9], [5, 9]), ([10, 9], [10]), ([11], [11]), ([11], [11]), ([12, 13, 11], [11, 12, 13]), ([11, 14], [11, 14]), ([15, 11], [15]), ([16], [16]), ([16], [16]), ([17, 18, 16], [16, 17, 18]), ([16, 19], [16, 19]), ([20, 16], [20]), ([21], [21]), ([22, 21, 21], [21, 22]), ([21], [21]), ([23, 24, 23, 21], [21, 23, 24]), ([21, 25], [21, 25]), ([26, 25], [26]), ([27], [27]), ([28, 27, 27], [27, 28]), ([27], [27]), ([29, 30, 29, 27], [27, 29, 30]), ([27, 31], [27, 31]), ([32, 31], [32]), ([33], [33]), ([33], [33]), ([34, 35, 33], [33, 34, 35]), ([33, 36], [33, 36]), ([37, 33], [37]), ([38], [38]), ([39, 38, 38], [38, 39]), ([38], [38]), ([40, 41, 40, 38], [38, 40, 41]), ([38, 42], [38, 42]), ([43, 42], [43]), ([44], [44]), ([45, 44, 44], [44, 45]), ([44], [44]), ([46, 47, 46, 44], [44, 46, 47]), ([44, 48], [44, 48]), ([49, 48], [49]), ([50], [50]), ([50], [50]), ([51, 52, 50], [50, 51, 52]), ([50, 53], [50, 53]), ([54, 50], [54]), ([55, 55], [55]), ([55, 56], [55, 56]), ([57, 56, 0, 1, 2, 3, 4, 5, 6, 7, 8, 9, 10, 11, 12, 13, 14, 15, 16, 17, 18, 19, 20, 21, 22, 23, 24, 25, 26, 27, 28, 29, 30, 31, 32, 33, 34, 35, 36, 37, 38, 39, 40, 41, 42, 43, 44, 45, 46, 47, 48, 49, 50, 51, 52, 53, 54, 55, 56, 57], [57])])
def handshakerlaw18_SemaTells.B14 : List Nat := [0, 1, 0, 7, 15, 31, 63, 127, 63, 511, 1023, 2047, 4095, 4095, 16383, 32767, 65535, 131071, 131071, 524287, 1048575, 2097151, 4194303, 8388607, 4194303, 33554431, 67108863, 134217727, 268435455, 536870911, 268435455, 2147483647, 4294967295, 8589934591, 17179869183, 17179869183, 68719476735, 137438953471, 274877906943, 549755813887, 1099511627775, 549755813887, 4398046511103, 8796093022207, 17592186044415, 35184372088831, 70368744177663, 35184372088831, 281474976710655, 562949953421311, 1125899906842623, 2251799813685247, 2251799813685247, 9007199254740991, 18014398509481983, 36028797018963967, 72057594037927935, 144115188075855871, 288230376151711743]
theorem handshakerlaw18_SemaTells.tab14 : rtab .any (opsOf Try.f3 14) = handshakerlaw18_SemaTells.T14 := by kernel_rfl
theorem handshakerlaw18_SemaTells.bits14 : waitsOk handshakerlaw18_SemaTells.T14.2 handshakerlaw18_SemaTells.B14 = true := by kernel_rfl
set_option maxHeartbeats 8000000 in
set_option maxRecDepth 100000 in
theorem handshakerlaw18_SemaTells.calls (k : Nat) (a0_0 : Int) (a0_1 : Int) (A0_2 : Option Addr) (c0_2 : Nat) (l0_2 : List (S50)) (a1 : Int) (a2 : Int) (r : Bool) (w : World) (hr0_2 : Kd.C k50 w A0_2 l0_2.length l0_2) (hc0_2 : l0_2.length ≤ c0_2) (h : handshakerlaw18_SemaTells.f k a0_0 a0_1 l0_2 a1 a2 = some r) :
  Calls Try.prog 3 #[.agg #[.int .i64 a0_0, .int .i64 a0_1, .slice A0_2 l0_2.length c0_2], .int .i64 a1, .int .i64 a2] w fun e w' => e = .returned (.bool r) ∧ Below w.heap.size w w' := by
 have hu24 := Try.underlying24
 have hu28 := Try.underlying28
 have HR0_2 := am hr0_2
 have HC0_2 := am hc0_2
 clear hr0_2 hc0_2
 have HB := am (Below.refl w.heap.size w)
 have H : (if (l0_2.length : Int) > 30 then ((handshakerlaw18_awake.f k).bind fun t353 => (some t353)) else ((handshakerlaw18_Ref.f k a0_0 a0_1 l0_2).bind fun bt354 => ((sema_Take.f k a0_0 a0_1 l0_2 a1 a2).bind fun bt360 => ((handshakerref18_Take.f k bt354.1 bt354.2.1 bt354.2.2 a1 a2).bind fun bt368 => ((sema_Give.f k a0_0 a0_1 l0_2 a2).bind fun bt376 => ((handshakerref18_Give.f k bt354.1 bt354.2.1 bt354.2.2 a2).bind fun bt386 => ((sema_Leave.f k a0_0 a0_1 l0_2 a1).bind fun bt396 => ((handshakerref18_Leave.f k bt354.1 bt354.2.1 bt354.2.2 a1).bind fun bt406 => ((sema_New.f k a1 a2).bind fun bt416 => ((handshakerref18_Right.f k a1 a2 ([] : List (S61))).bind fun t423 => (if bt416.2.2.2 = 0 then (if t423 = true then (if bt416.1 = a1 then (if bt416.2.1 = a2 then (if (bt416.2.2.1.length : Int) = 0 then (handshakerlaw18_SemaTells.j0 k bt360.2.2.2.1 bt360.2.2.2.2 bt368.2.2.2.1 bt368.2.2.2.2 bt376.2.2.2.1 bt376.2.2.2.2 bt386.2.2.2.1 bt386.2.2.2.2 bt396.2.2.2.1 bt396.2.2.2.2 bt406.2.2.2.1 bt406.2.2.2.2 false a0_0 a0_1 l0_2 bt354.1 bt354.2.1 bt354.2.2 bt360.1 bt360.2.1 bt360.2.2.1 bt368.1 bt368.2.1 bt368.2.2.1 bt376.1 bt376.2.1 bt376.2.2.1 bt386.1 bt386.2.1 bt386.2.2.1 bt396.1 bt396.2.1 bt396.2.2.1 bt406.1 bt406.2.1 bt406.2.2.1) else (none)) else (none)) else (none)) else (none)) else (if t423 = true then (none) else (handshakerlaw18_SemaTells.j0 k bt360.2.2.2.1 bt360.2.2.2.2 bt368.2.2.2.1 bt368.2.2.2.2 bt376.2.2.2.1 bt376.2.2.2.2 bt386.2.2.2.1 bt386.2.2.2.2 bt396.2.2.2.1 bt396.2.2.2.2 bt406.2.2.2.1 bt406.2.2.2.2 (bt416.2.2.2 != 1) a0_0 a0_1 l0_2 bt354.1 bt354.2.1 bt354.2.2 bt360.1 bt360.2.1 bt360.2.2.1 bt368.1 bt368.2.1 bt368.2.2.1 bt376.1 bt376.2.1 bt376.2.2.1 bt386.1 bt386.2.1 bt386.2.2.1 bt396.1 bt396.2.1 bt396.2.2.1 bt406.1 bt406.2.1 bt406.2.2.1))))))))))))) = some r := h
 clear h
 by_cases c4 : (l0_2.length : Int) > 30
 ·rw [if_pos c4] at H
  have c4b0 : decide (30 < (l0_2.length : Int)) = true := decide_eq_true c4
  have c4b1 : decide (30 < l0_2.length) = true := decide_eq_true (by omega)
  clear c4
  replace H := Option.bind_eq_some_iff.mp H
  obtain ⟨t353, A50, H⟩ := H
  try dsimp only at H
  have A5 := am A50
  clear A50
  obtain rfl := Option.some.inj H
  go_enter Try.func3, Try.ntmps3
  go_wp2_with (first | ((with_reducible refine gate_dst (N := 3) rfl ?_); (try (refine gate_guard (by rfl) ?_; dsimp only)); refine box_event ?hg (N := 3) ?hd (cs := #[.int .i64 a0_0, .int .i64 a0_1, .slice A0_2 l0_2.length c0_2]) (t := 24) ?hr ?_; (case hd => rfl); (case hg => rfl); (case hr => first | (go_simp; done) | (go_simp; rfl)); intro gb352 hg w6 hbox hb; have BK352 := am (hbox); have GW352 := zsz hg (zc0 HB); have GE352 := zsz hg (zc0 HB); replace HB := am (below_step (zc0 HB) hb); clear hb hbox hg; have hcz7_0 : w6.cell? ⟨gb352, 0, none⟩ = some (.int .i64 a0_0) := (blk_cell BK352.out 0).trans rfl; have hcz7_1 : w6.cell? ⟨gb352, 1, none⟩ = some (.int .i64 a0_1) := (blk_cell BK352.out 1).trans rfl; have hcz7_2 : w6.cell? ⟨gb352, 2, none⟩ = some (.slice A0_2 l0_2.length c0_2) := (blk_cell BK352.out 2).trans rfl; have hfz7_0 := blk_frozen BK352.out 0; have hfz7_1 := blk_frozen BK352.out 1; have hfz7_2 := blk_frozen BK352.out 2) | ((with_reducible refine gate_callee (f := 9) rfl ?_); refine goesL_ (some 33) rfl rfl Try.func9 (by kernel_rfl) rfl #[] rfl zm ?_; (with_reducible refine (handshakerlaw18_awake.calls k  t353 _ A5.out).mono ?_); rintro e w8 ⟨rfl, hb⟩; refine ⟨_, rfl, ?_⟩; replace BK352 := zbb BK352 hb; replace HB := am (below_step (zc1 HB GE352) hb); (try clear hb); (try clear hb2); (try clear hk); (try clear hi)))
  go_ret
  exact ⟨by first | rfl | (simp [errW_none, errW_some] <;> rfl) | (simp [*, errW_none, errW_some] <;> rfl), by repeat (first | (with_reducible first | exact HB.out | apply below_alloc | apply pw_below_drewN | apply below_drew1 | refine below_set ?_ GE352.out) | exact HB.out)⟩
 ·rw [if_neg c4] at H
  have c4b0 : decide (30 < (l0_2.length : Int)) = false := decide_eq_false c4
  have c4b1 : decide (30 < l0_2.length) = false := decide_eq_false (by omega)
  clear c4
  replace H := Option.bind_eq_some_iff.mp H
  obtain ⟨⟨t354, t355, t356⟩, A90, H⟩ := H
  try dsimp only at H
  have A9 := am A90
  clear A90
  replace H := Option.bind_eq_some_iff.mp H
  obtain ⟨⟨t360, t361, t362, t365, t366⟩, A100, H⟩ := H
  try dsimp only at H
  have A10 := am A100
  clear A100
  replace H := Option.bind_eq_some_iff.mp H
  obtain ⟨⟨t368, t369, t370, t373, t374⟩, A110, H⟩ := H
  try dsimp only at H
  have A11 := am A110
  clear A110
  replace H := Option.bind_eq_some_iff.mp H
  obtain ⟨⟨t376, t377, t378, t381, t384⟩, A120, H⟩ := H
  try dsimp only at H
  have A12 := am A120
  clear A120
  replace H := Option.bind_eq_some_iff.mp H
  obtain ⟨⟨t386, t387, t388, t391, t394⟩, A130, H⟩ := H
  try dsimp only at H
  have A13 := am A130
  clear A130
  replace H := Option.bind_eq_some_iff.mp H
  obtain ⟨⟨t396, t397, t398, t401, t404⟩, A140, H⟩ := H
  try dsimp only at H
  have A14 := am A140
  clear A140
  replace H := Option.bind_eq_some_iff.mp H
  obtain ⟨⟨t406, t407, t408, t411, t414⟩, A150, H⟩ := H
  try dsimp only at H
  have A15 := am A150
  clear A150
  replace H := Option.bind_eq_some_iff.mp H
  obtain ⟨⟨t416, t417, t418, t421⟩, A160, H⟩ := H
  try dsimp only at H
  have A16 := am A160
  clear A160
  replace H := Option.bind_eq_some_iff.mp H
  obtain ⟨t423, A170, H⟩ := H
  try dsimp only at H
  have A17 := am A170
  clear A170
  have HC18 := am H
  clear H
  go_enter Try.func3, Try.ntmps3
  go_upto_region 12 with (first | ((with_reducible refine gate_dst (N := 3) rfl ?_); (try (refine gate_guard (by rfl) ?_; dsimp only)); refine box_event ?hg (N := 3) ?hd (cs := #[.int .i64 a0_0, .int .i64 a0_1, .slice A0_2 l0_2.length c0_2]) (t := 24) ?hr ?_; (case hd => rfl); (case hg => rfl); (case hr => first | (go_simp; done) | (go_simp; rfl)); intro gb352 hg w19 hbox hb; have BK352 := am (hbox); have GW352 := zsz hg (zc0 HB); have GE352 := zsz hg (zc0 HB); replace HB := am (below_step (zc0 HB) hb); clear hb hbox hg; have hcz20_0 : w19.cell? ⟨gb352, 0, none⟩ = some (.int .i64 a0_0) := (blk_cell BK352.out 0).trans rfl; have hcz20_1 : w19.cell? ⟨gb352, 1, none⟩ = some (.int .i64 a0_1) := (blk_cell BK352.out 1).trans rfl; have hcz20_2 : w19.cell? ⟨gb352, 2, none⟩ = some (.slice A0_2 l0_2.length c0_2) := (blk_cell BK352.out 2).trans rfl; have hfz20_0 := blk_frozen BK352.out 0; have hfz20_1 := blk_frozen BK352.out 1; have hfz20_2 := blk_frozen BK352.out 2) | ((with_reducible refine gate_callee (f := 10) rfl ?_); refine goesL_ (some 35) rfl rfl Try.func10 (by kernel_rfl) rfl #[.agg #[.int .i64 a0_0, .int .i64 a0_1, .slice A0_2 l0_2.length c0_2]] rfl zm ?_; (with_reducible refine (handshakerlaw18_Ref.calls k a0_0 a0_1 _ _ l0_2 t354 t355 t356 _ ?side1 ?side2 A9.out).mono ?_); (case side1 => repeat (first | exact (Kd.C_below HR0_2.out HB.out) | (with_reducible refine Kd.C_alloc ?_ _) | (with_reducible refine Kd.C_drewN ?_ _) | (with_reducible refine Kd.C_drew ?_))); (case side2 => exact HC0_2.out); rintro e w21 ⟨v357, rfl, ho0, hb⟩; refine ⟨_, rfl, ?_⟩; have HO358 := am (Kd.R_lower ho0 (below_size (zc1 HB GE352))); replace BK352 := zbb BK352 hb; replace HB := am (below_step (zc1 HB GE352) hb); (try clear hb); (try clear hb2); (try clear hk); (try clear hi); (try clear ho0)) | ((with_reducible refine gate_dst (N := 7) rfl ?_); (try (refine gate_guard (by rfl) ?_; dsimp only)); refine box_event ?hg (N := 7) ?hd (cs := #[.int .i64 0, .int .i64 0, .slice none 0 0]) (t := 28) ?hr ?_; (case hd => rfl); (case hg => rfl); (case hr => first | (go_simp; done) | (go_simp; rfl)); intro gb359 hg w22 hbox hb; replace HO358 := zRb HO358 hb; have BK359 := am (hbox); have GW359 := zsz hg (zc1 HB GE352); have GE359 := zsz hg (zc1 HB GE352); replace HB := am (below_step (zc1 HB GE352) hb); have NB352_359 := znt BK352 hg; have NB359_352 := zng BK352 hg; replace BK352 := zbb BK352 hb; clear hb hbox hg; have hnb23 := NB359_352.out; have hnc23 := NB352_359.out; have hcz24_0 : w22.cell? ⟨gb359, 0, none⟩ = some (.int .i64 0) := (blk_cell BK359.out 0).trans rfl; have hcz24_1 : w22.cell? ⟨gb359, 1, none⟩ = some (.int .i64 0) := (blk_cell BK359.out 1).trans rfl; have hcz24_2 : w22.cell? ⟨gb359, 2, none⟩ = some (.slice none 0 0) := (blk_cell BK359.out 2).trans rfl; have hfz24_0 := blk_frozen BK359.out 0; have hfz24_1 := blk_frozen BK359.out 1; have hfz24_2 := blk_frozen BK359.out 2; obtain ⟨Ao25, co25, eo25⟩ := Kd.R_slice HO358.out; subst eo25) | ((with_reducible refine gate_store (t := 28) (p := 7) rfl ?_); refine store_event (t := 28) (p := 7) (v := ?vo_w26) (w1 := (((w22.setCell ⟨gb359, 0, none⟩ (.int .i64 t354)).setCell ⟨gb359, 1, none⟩ (.int .i64 t355)).setCell ⟨gb359, 2, none⟩ (.slice Ao25 t356.length co25))) ?hg ?ho ?hn ?hr ?_; (case ho => rfl); (case hg => rfl); (case hn => rfl); (case hr => first | (go_simp; done) | (go_simp; rfl)); intro w26 hw; replace HO358 : Aside0 (Kd.R k61 61 w26 w.heap.size (fun _ => True) (.slice Ao25 t356.length co25) t356) := ⟨(by rw [hw]; exact (by (with_reducible repeat (first | apply Kd.R_alloc | apply Kd.R_drewN | apply Kd.R_drew)); exact Kd.R_mono (Kd.R_far (p := ⟨gb359, 2, none⟩) (Kd.R_far (p := ⟨gb359, 1, none⟩) (Kd.R_far (p := ⟨gb359, 0, none⟩) (Kd.R_types HO358.out BK359.out (by decide)) (fun _ hk => hk.2) (.int .i64 t354)) (fun _ hk => hk.2) (.int .i64 t355)) (fun _ hk => hk.2) (.slice Ao25 t356.length co25)) (fun _ hk => trivial)))⟩; replace BK352 := zks hw BK352 NB352_359; replace BK359 : Aside0 (w26.heap[gb359]? = some (.cells #[.int .i64 t354, .int .i64 t355, .slice Ao25 t356.length co25] 28 (0, 0))) := ⟨(by rw [hw]; exact (by (with_reducible repeat (first | refine blk_drewN ?_ _ | refine blk_drew ?_ | refine blk_alloc ?_ _)); refine blk_put (cs := #[.int .i64 t354, .int .i64 t355, .slice none 0 0]) ?_ 2 _ rfl; (with_reducible repeat (first | refine blk_drewN ?_ _ | refine blk_drew ?_ | refine blk_alloc ?_ _)); refine blk_put (cs := #[.int .i64 t354, .int .i64 0, .slice none 0 0]) ?_ 1 _ rfl; (with_reducible repeat (first | refine blk_drewN ?_ _ | refine blk_drew ?_ | refine blk_alloc ?_ _)); refine blk_put (cs := #[.int .i64 0, .int .i64 0, .slice none 0 0]) ?_ 0 _ rfl; (with_reducible repeat (first | refine blk_drewN ?_ _ | refine blk_drew ?_ | refine blk_alloc ?_ _)); exact BK359.out))⟩; replace HB : Aside0 (Below w.heap.size w w26) := ⟨(by rw [hw]; exact (zc2 HB GE352 GE359))⟩; clear hw; have hcz27_0 : w26.cell? ⟨gb352, 0, none⟩ = some (.int .i64 a0_0) := (blk_cell BK352.out 0).trans rfl; have hcz27_1 : w26.cell? ⟨gb352, 1, none⟩ = some (.int .i64 a0_1) := (blk_cell BK352.out 1).trans rfl; have hcz27_2 : w26.cell? ⟨gb352, 2, none⟩ = some (.slice A0_2 l0_2.length c0_2) := (blk_cell BK352.out 2).trans rfl; have hfz27_0 := blk_frozen BK352.out 0; have hfz27_1 := blk_frozen BK352.out 1; have hfz27_2 := blk_frozen BK352.out 2) | ((with_reducible refine gate_callee (f := 11) rfl ?_); refine goesL_ (some 40) rfl rfl Try.func11 (by kernel_rfl) rfl #[.agg #[.int .i64 a0_0, .int .i64 a0_1, .slice A0_2 l0_2.length c0_2], .int .i64 a1, .int .i64 a2] rfl zm ?_; (with_reducible refine (sema_Take.calls k a0_0 a0_1 (fun k_ => k_ < w.heap.size) _ _ l0_2 a1 a2 t360 t361 t362 t365 t366 _ ?side1 A10.out).mono ?_); (case side1 => exact Kd.V_mk HC0_2.out (Kd.F_below (Kd.C_F k50_heap HR0_2.out) (zc2 HB GE352 GE359))); rintro e w28 ⟨v363, rfl, ho0, hb⟩; refine ⟨_, rfl, ?_⟩; have HO364 := am (Kd.V_lower (Kd.V_mono (ok' := fun k_ => some k_ ≠ (.slice Ao25 t356.length co25 : Value).ownBlock ∧ k_ ≠ gb352 ∧ k_ ≠ gb359) ho0 (fun k_ hk_ => ⟨Or.elim hk_ (fun hs_ => fun e_ => Nat.not_le.2 hs_ (Kd.R_base HO358.out k_ e_.symm)) (fun hn_ => (Kd.fresh' (Kd.R_lt (zR HO358)) k_ hn_)), Or.elim hk_ (znl GW352) (fun hn_ => (zfr gb352 BK352 hn_)), Or.elim hk_ (znl GW359) (fun hn_ => (zfr gb359 BK359 hn_))⟩)) (below_size (zc2 HB GE352 GE359))); replace HO358 := zRb HO358 hb; replace BK352 := zbb BK352 hb; replace BK359 := zbb BK359 hb; replace HB := am (below_step (zc2 HB GE352 GE359) hb); (try clear hb); (try clear hb2); (try clear hk); (try clear hi); (try clear ho0)) | ((with_reducible refine gate_dst (N := 8) rfl ?_); (try (refine gate_guard (by rfl) ?_; dsimp only)); refine box_event ?hg (N := 8) ?hd (cs := #[.int .i64 0, .int .i64 0, .slice none 0 0]) (t := 24) ?hr ?_; (case hd => rfl); (case hg => rfl); (case hr => first | (go_simp; done) | (go_simp; rfl)); intro gb367 hg w29 hbox hb; replace HO358 := zRb HO358 hb; replace HO364 := zVe HO364 hg hb; have BK367 := am (hbox); have GW367 := zsz hg (zc2 HB GE352 GE359); have GE367 := zsz hg (zc2 HB GE352 GE359); replace HB := am (below_step (zc2 HB GE352 GE359) hb); have NB352_367 := znt BK352 hg; have NB367_352 := zng BK352 hg; replace BK352 := zbb BK352 hb; have NB359_367 := znt BK359 hg; have NB367_359 := zng BK359 hg; replace BK359 := zbb BK359 hb; clear hb hbox hg; have hnb30 := NB367_352.out; have hnc30 := NB352_367.out; have hnb31 := NB367_359.out; have hnc31 := NB359_367.out; have hcz32_0 : w29.cell? ⟨gb367, 0, none⟩ = some (.int .i64 0) := (blk_cell BK367.out 0).trans rfl; have hcz32_1 : w29.cell? ⟨gb367, 1, none⟩ = some (.int .i64 0) := (blk_cell BK367.out 1).trans rfl; have hcz32_2 : w29.cell? ⟨gb367, 2, none⟩ = some (.slice none 0 0) := (blk_cell BK367.out 2).trans rfl; have hfz32_0 := blk_frozen BK367.out 0; have hfz32_1 := blk_frozen BK367.out 1; have hfz32_2 := blk_frozen BK367.out 2; obtain ⟨Ao33, co33, eo33⟩ := Kd.V_slice HO364.out; subst eo33) | ((with_reducible refine gate_store (t := 24) (p := 8) rfl ?_); refine store_event (t := 24) (p := 8) (v := ?vo_w34) (w1 := (((w29.setCell ⟨gb367, 0, none⟩ (.int .i64 t360)).setCell ⟨gb367, 1, none⟩ (.int .i64 t361)).setCell ⟨gb367, 2, none⟩ (.slice Ao33 t362.length co33))) ?hg ?ho ?hn ?hr ?_; (case ho => rfl); (case hg => rfl); (case hn => rfl); (case hr => first | (go_simp; done) | (go_simp; rfl)); intro w34 hw; replace HO358 : Aside0 (Kd.R k61 61 w34 w.heap.size (fun _ => True) (.slice Ao25 t356.length co25) t356) := ⟨(by rw [hw]; exact (by (with_reducible repeat (first | apply Kd.R_alloc | apply Kd.R_drewN | apply Kd.R_drew)); exact Kd.R_mono (Kd.R_far (p := ⟨gb367, 2, none⟩) (Kd.R_far (p := ⟨gb367, 1, none⟩) (Kd.R_far (p := ⟨gb367, 0, none⟩) (Kd.R_types HO358.out BK367.out (by decide)) (fun _ hk => hk.2) (.int .i64 t360)) (fun _ hk => hk.2) (.int .i64 t361)) (fun _ hk => hk.2) (.slice Ao33 t362.length co33)) (fun _ hk => trivial)))⟩; replace HO364 := zVm hw HO364 (fun k_ => some k_ ≠ (.slice Ao25 t356.length co25 : Value).ownBlock ∧ k_ ≠ gb352 ∧ k_ ≠ gb359 ∧ k_ ≠ gb367) (fun _ hk => hk.2) (fun _ hk => ⟨hk.1.1.1, ⟨hk.1.1.2.1, ⟨hk.1.1.2.2, hk.1.2⟩⟩⟩); replace BK352 := zks hw BK352 NB352_367; replace BK359 := zks hw BK359 NB359_367; replace BK367 : Aside0 (w34.heap[gb367]? = some (.cells #[.int .i64 t360, .int .i64 t361, .slice Ao33 t362.length co33] 24 (0, 0))) := ⟨(by rw [hw]; exact (by (with_reducible repeat (first | refine blk_drewN ?_ _ | refine blk_drew ?_ | refine blk_alloc ?_ _)); refine blk_put (cs := #[.int .i64 t360, .int .i64 t361, .slice none 0 0]) ?_ 2 _ rfl; (with_reducible repeat (first | refine blk_drewN ?_ _ | refine blk_drew ?_ | refine blk_alloc ?_ _)); refine blk_put (cs := #[.int .i64 t360, .int .i64 0, .slice none 0 0]) ?_ 1 _ rfl; (with_reducible repeat (first | refine blk_drewN ?_ _ | refine blk_drew ?_ | refine blk_alloc ?_ _)); refine blk_put (cs := #[.int .i64 0, .int .i64 0, .slice none 0 0]) ?_ 0 _ rfl; (with_reducible repeat (first | refine blk_drewN ?_ _ | refine blk_drew ?_ | refine blk_alloc ?_ _)); exact BK367.out))⟩; replace HB : Aside0 (Below w.heap.size w w34) := ⟨(by rw [hw]; exact (zc3 HB GE352 GE359 GE367))⟩; clear hw; have hcz35_0 : w34.cell? ⟨gb359, 0, none⟩ = some (.int .i64 t354) := (blk_cell BK359.out 0).trans rfl; have hcz35_1 : w34.cell? ⟨gb359, 1, none⟩ = some (.int .i64 t355) := (blk_cell BK359.out 1).trans rfl; have hcz35_2 : w34.cell? ⟨gb359, 2, none⟩ = some (.slice Ao25 t356.length co25) := (blk_cell BK359.out 2).trans rfl; have hfz35_0 := blk_frozen BK359.out 0; have hfz35_1 := blk_frozen BK359.out 1; have hfz35_2 := blk_frozen BK359.out 2) | ((with_reducible refine gate_callee (f := 12) rfl ?_); refine goesL_ (some 48) rfl rfl Try.func12 (by kernel_rfl) rfl #[.agg #[.int .i64 t354, .int .i64 t355, .slice Ao25 t356.length co25], .int .i64 a1, .int .i64 a2] rfl zm ?_; (with_reducible refine (handshakerref18_Take.calls k t354 t355 (fun k_ => some k_ = (.slice Ao25 t356.length co25 : Value).ownBlock) _ _ t356 a1 a2 t368 t369 t370 t373 t374 _ ?side1 A11.out).mono ?_); (case side1 => exact Kd.R_V (Kd.R_tight rfl (Kd.R_types (Kd.R_types (Kd.R_types (HO358.out) BK352.out (by decide)) BK359.out (by decide)) BK367.out (by decide)))); rintro e w36 ⟨v371, rfl, ho0, hb⟩; refine ⟨_, rfl, ?_⟩; replace HO364 := zVb HO364 hb; have HO372 := am (Kd.V_lower (Kd.V_mono (ok' := fun k_ => k_ ≠ gb352 ∧ k_ ≠ gb359 ∧ k_ ≠ gb367) ho0 (fun k_ hk_ => ⟨Or.elim hk_ (fun hs_ => ((Kd.R_types (Kd.R_types (Kd.R_types (HO358.out) BK352.out (by decide)) BK359.out (by decide)) BK367.out (by decide)).1 k_ hs_.symm).1.1.2) (fun hn_ => (zfr gb352 BK352 hn_)), Or.elim hk_ (fun hs_ => ((Kd.R_types (Kd.R_types (Kd.R_types (HO358.out) BK352.out (by decide)) BK359.out (by decide)) BK367.out (by decide)).1 k_ hs_.symm).1.2) (fun hn_ => (zfr gb359 BK359 hn_)), Or.elim hk_ (fun hs_ => ((Kd.R_types (Kd.R_types (Kd.R_types (HO358.out) BK352.out (by decide)) BK359.out (by decide)) BK367.out (by decide)).1 k_ hs_.symm).2) (fun hn_ => (zfr gb367 BK367 hn_))⟩)) (below_size (zc3 HB GE352 GE359 GE367))); replace HO358 := zRb HO358 hb; replace BK352 := zbb BK352 hb; replace BK359 := zbb BK359 hb; replace BK367 := zbb BK367 hb; replace HB := am (below_step (zc3 HB GE352 GE359 GE367) hb); (try clear hb); (try clear hb2); (try clear hk); (try clear hi); (try clear ho0)) | ((with_reducible refine gate_dst (N := 11) rfl ?_); (try (refine gate_guard (by rfl) ?_; dsimp only)); refine box_event ?hg (N := 11) ?hd (cs := #[.int .i64 0, .int .i64 0, .slice none 0 0]) (t := 28) ?hr ?_; (case hd => rfl); (case hg => rfl); (case hr => first | (go_simp; done) | (go_simp; rfl)); intro gb375 hg w37 hbox hb; replace HO358 := zRb HO358 hb; replace HO364 := zVe HO364 hg hb; replace HO372 := zVe HO372 hg hb; have BK375 := am (hbox); have GW375 := zsz hg (zc3 HB GE352 GE359 GE367); have GE375 := zsz hg (zc3 HB GE352 GE359 GE367); replace HB := am (below_step (zc3 HB GE352 GE359 GE367) hb); have NB352_375 := znt BK352 hg; have NB375_352 := zng BK352 hg; replace BK352 := zbb BK352 hb; have NB359_375 := znt BK359 hg; have NB375_359 := zng BK359 hg; replace BK359 := zbb BK359 hb; have NB367_375 := znt BK367 hg; have NB375_367 := zng BK367 hg; replace BK367 := zbb BK367 hb; clear hb hbox hg; have hnb38 := NB375_352.out; have hnc38 := NB352_375.out; have hnb39 := NB375_359.out; have hnc39 := NB359_375.out; have hnb40 := NB375_367.out; have hnc40 := NB367_375.out; have hcz41_0 : w37.cell? ⟨gb375, 0, none⟩ = some (.int .i64 0) := (blk_cell BK375.out 0).trans rfl; have hcz41_1 : w37.cell? ⟨gb375, 1, none⟩ = some (.int .i64 0) := (blk_cell BK375.out 1).trans rfl; have hcz41_2 : w37.cell? ⟨gb375, 2, none⟩ = some (.slice none 0 0) := (blk_cell BK375.out 2).trans rfl; have hfz41_0 := blk_frozen BK375.out 0; have hfz41_1 := blk_frozen BK375.out 1; have hfz41_2 := blk_frozen BK375.out 2; obtain ⟨Ao42, co42, eo42⟩ := Kd.V_slice HO372.out; subst eo42) | ((with_reducible refine gate_store (t := 28) (p := 11) rfl ?_); refine store_event (t := 28) (p := 11) (v := ?vo_w43) (w1 := (((w37.setCell ⟨gb375, 0, none⟩ (.int .i64 t368)).setCell ⟨gb375, 1, none⟩ (.int .i64 t369)).setCell ⟨gb375, 2, none⟩ (.slice Ao42 t370.length co42))) ?hg ?ho ?hn ?hr ?_; (case ho => rfl); (case hg => rfl); (case hn => rfl); (case hr => first | (go_simp; done) | (go_simp; rfl)); intro w43 hw; replace HO358 : Aside0 (Kd.R k61 61 w43 w.heap.size (fun _ => True) (.slice Ao25 t356.length co25) t356) := ⟨(by rw [hw]; exact (by (with_reducible repeat (first | apply Kd.R_alloc | apply Kd.R_drewN | apply Kd.R_drew)); exact Kd.R_mono (Kd.R_far (p := ⟨gb375, 2, none⟩) (Kd.R_far (p := ⟨gb375, 1, none⟩) (Kd.R_far (p := ⟨gb375, 0, none⟩) (Kd.R_types HO358.out BK375.out (by decide)) (fun _ hk => hk.2) (.int .i64 t368)) (fun _ hk => hk.2) (.int .i64 t369)) (fun _ hk => hk.2) (.slice Ao42 t370.length co42)) (fun _ hk => trivial)))⟩; replace HO364 := zVm hw HO364 (fun k_ => some k_ ≠ (.slice Ao25 t356.length co25 : Value).ownBlock ∧ k_ ≠ gb352 ∧ k_ ≠ gb359 ∧ k_ ≠ gb367 ∧ k_ ≠ gb375) (fun _ hk => hk.2) (fun _ hk => ⟨hk.1.1.1, ⟨hk.1.1.2.1, ⟨hk.1.1.2.2.1, ⟨hk.1.1.2.2.2, hk.1.2⟩⟩⟩⟩); replace HO372 := zVm hw HO372 (fun k_ => k_ ≠ gb352 ∧ k_ ≠ gb359 ∧ k_ ≠ gb367 ∧ k_ ≠ gb375) (fun _ hk => hk.2) (fun _ hk => ⟨hk.1.1.1, ⟨hk.1.1.2.1, ⟨hk.1.1.2.2, hk.1.2⟩⟩⟩); replace BK352 := zks hw BK352 NB352_375; replace BK359 := zks hw BK359 NB359_375; replace BK367 := zks hw BK367 NB367_375; replace BK375 : Aside0 (w43.heap[gb375]? = some (.cells #[.int .i64 t368, .int .i64 t369, .slice Ao42 t370.length co42] 28 (0, 0))) := ⟨(by rw [hw]; exact (by (with_reducible repeat (first | refine blk_drewN ?_ _ | refine blk_drew ?_ | refine blk_alloc ?_ _)); refine blk_put (cs := #[.int .i64 t368, .int .i64 t369, .slice none 0 0]) ?_ 2 _ rfl; (with_reducible repeat (first | refine blk_drewN ?_ _ | refine blk_drew ?_ | refine blk_alloc ?_ _)); refine blk_put (cs := #[.int .i64 t368, .int .i64 0, .slice none 0 0]) ?_ 1 _ rfl; (with_reducible repeat (first | refine blk_drewN ?_ _ | refine blk_drew ?_ | refine blk_alloc ?_ _)); refine blk_put (cs := #[.int .i64 0, .int .i64 0, .slice none 0 0]) ?_ 0 _ rfl; (with_reducible repeat (first | refine blk_drewN ?_ _ | refine blk_drew ?_ | refine blk_alloc ?_ _)); exact BK375.out))⟩; replace HB : Aside0 (Below w.heap.size w w43) := ⟨(by rw [hw]; exact (zc4 HB GE352 GE359 GE367 GE375))⟩; clear hw; have hcz44_0 : w43.cell? ⟨gb352, 0, none⟩ = some (.int .i64 a0_0) := (blk_cell BK352.out 0).trans rfl; have hcz44_1 : w43.cell? ⟨gb352, 1, none⟩ = some (.int .i64 a0_1) := (blk_cell BK352.out 1).trans rfl; have hcz44_2 : w43.cell? ⟨gb352, 2, none⟩ = some (.slice A0_2 l0_2.length c0_2) := (blk_cell BK352.out 2).trans rfl; have hfz44_0 := blk_frozen BK352.out 0; have hfz44_1 := blk_frozen BK352.out 1; have hfz44_2 := blk_frozen BK352.out 2) | ((with_reducible refine gate_callee (f := 13) rfl ?_); refine goesL_ (some 55) rfl rfl Try.func13 (by kernel_rfl) rfl #[.agg #[.int .i64 a0_0, .int .i64 a0_1, .slice A0_2 l0_2.length c0_2], .int .i64 a2] rfl zm ?_; (with_reducible refine (sema_Give.calls k a0_0 a0_1 (fun k_ => k_ < w.heap.size) _ _ l0_2 a2 t376 t377 t378 t381 t384 _ ?side1 A12.out).mono ?_); (case side1 => exact Kd.V_mk HC0_2.out (Kd.F_below (Kd.C_F k50_heap HR0_2.out) (zc4 HB GE352 GE359 GE367 GE375))); rintro e w45 ⟨v379, v382, rfl, ho0, ho1, hb⟩; refine ⟨_, rfl, ?_⟩; replace HO364 := am (Kd.V_elder' (zV HO364) (Kd.R_base ho1) hb); replace HO372 := am (Kd.V_elder' (zV HO372) (Kd.R_base ho1) hb); have HO380 := am (Kd.V_lower (Kd.V_mono (ok' := fun k_ => some k_ ≠ (v382 : Value).ownBlock ∧ some k_ ≠ (.slice Ao25 t356.length co25 : Value).ownBlock ∧ k_ ≠ gb352 ∧ k_ ≠ gb359 ∧ k_ ≠ gb367 ∧ k_ ≠ gb375) ho0 (fun k_ hk_ => ⟨hk_.2, Or.elim hk_.1 (fun hs_ => fun e_ => Nat.not_le.2 hs_ (Kd.R_base HO358.out k_ e_.symm)) (fun hn_ => (Kd.fresh' (Kd.R_lt (zR HO358)) k_ hn_)), Or.elim hk_.1 (znl GW352) (fun hn_ => (zfr gb352 BK352 hn_)), Or.elim hk_.1 (znl GW359) (fun hn_ => (zfr gb359 BK359 hn_)), Or.elim hk_.1 (znl GW367) (fun hn_ => (zfr gb367 BK367 hn_)), Or.elim hk_.1 (znl GW375) (fun hn_ => (zfr gb375 BK375 hn_))⟩)) (below_size (zc4 HB GE352 GE359 GE367 GE375))); replace HO358 := zRb HO358 hb; have HO383 := am (Kd.R_lower (Kd.R_mono (ok' := fun k_ => True) ho1 (fun _ hk_ => trivial)) (below_size (zc4 HB GE352 GE359 GE367 GE375))); replace BK352 := zbb BK352 hb; replace BK359 := zbb BK359 hb; replace BK367 := zbb BK367 hb; replace BK375 := zbb BK375 hb; replace HB := am (below_step (zc4 HB GE352 GE359 GE367 GE375) hb); (try clear hb); (try clear hb2); (try clear hk); (try clear hi); (try clear ho0); (try clear ho1)) | ((with_reducible refine gate_dst (N := 14) rfl ?_); (try (refine gate_guard (by rfl) ?_; dsimp only)); refine box_event ?hg (N := 14) ?hd (cs := #[.int .i64 0, .int .i64 0, .slice none 0 0]) (t := 24) ?hr ?_; (case hd => rfl); (case hg => rfl); (case hr => first | (go_simp; done) | (go_simp; rfl)); intro gb385 hg w46 hbox hb; replace HO358 := zRb HO358 hb; replace HO364 := zVe HO364 hg hb; replace HO372 := zVe HO372 hg hb; replace HO380 := zVe HO380 hg hb; replace HO383 := zRb HO383 hb; have BK385 := am (hbox); have GW385 := zsz hg (zc4 HB GE352 GE359 GE367 GE375); have GE385 := zsz hg (zc4 HB GE352 GE359 GE367 GE375); replace HB := am (below_step (zc4 HB GE352 GE359 GE367 GE375) hb); have NB352_385 := znt BK352 hg; have NB385_352 := zng BK352 hg; replace BK352 := zbb BK352 hb; have NB359_385 := znt BK359 hg; have NB385_359 := zng BK359 hg; replace BK359 := zbb BK359 hb; have NB367_385 := znt BK367 hg; have NB385_367 := zng BK367 hg; replace BK367 := zbb BK367 hb; have NB375_385 := znt BK375 hg; have NB385_375 := zng BK375 hg; replace BK375 := zbb BK375 hb; clear hb hbox hg; have hnb47 := NB385_352.out; have hnc47 := NB352_385.out; have hnb48 := NB385_359.out; have hnc48 := NB359_385.out; have hnb49 := NB385_367.out; have hnc49 := NB367_385.out; have hnb50 := NB385_375.out; have hnc50 := NB375_385.out; have hcz51_0 : w46.cell? ⟨gb385, 0, none⟩ = some (.int .i64 0) := (blk_cell BK385.out 0).trans rfl; have hcz51_1 : w46.cell? ⟨gb385, 1, none⟩ = some (.int .i64 0) := (blk_cell BK385.out 1).trans rfl; have hcz51_2 : w46.cell? ⟨gb385, 2, none⟩ = some (.slice none 0 0) := (blk_cell BK385.out 2).trans rfl; have hfz51_0 := blk_frozen BK385.out 0; have hfz51_1 := blk_frozen BK385.out 1; have hfz51_2 := blk_frozen BK385.out 2; obtain ⟨Ao52, co52, eo52⟩ := Kd.V_slice HO380.out; subst eo52) | ((with_reducible refine gate_store (t := 24) (p := 14) rfl ?_); refine store_event (t := 24) (p := 14) (v := ?vo_w53) (w1 := (((w46.setCell ⟨gb385, 0, none⟩ (.int .i64 t376)).setCell ⟨gb385, 1, none⟩ (.int .i64 t377)).setCell ⟨gb385, 2, none⟩ (.slice Ao52 t378.length co52))) ?hg ?ho ?hn ?hr ?_; (case ho => rfl); (case hg => rfl); (case hn => rfl); (case hr => first | (go_simp; done) | (go_simp; rfl)); intro w53 hw; replace HO358 : Aside0 (Kd.R k61 61 w53 w.heap.size (fun _ => True) (.slice Ao25 t356.length co25) t356) := ⟨(by rw [hw]; exact (by (with_reducible repeat (first | apply Kd.R_alloc | apply Kd.R_drewN | apply Kd.R_drew)); exact Kd.R_mono (Kd.R_far (p := ⟨gb385, 2, none⟩) (Kd.R_far (p := ⟨gb385, 1, none⟩) (Kd.R_far (p := ⟨gb385, 0, none⟩) (Kd.R_types HO358.out BK385.out (by decide)) (fun _ hk => hk.2) (.int .i64 t376)) (fun _ hk => hk.2) (.int .i64 t377)) (fun _ hk => hk.2) (.slice Ao52 t378.length co52)) (fun _ hk => trivial)))⟩; replace HO364 := zVm hw HO364 (fun k_ => some k_ ≠ (.slice Ao25 t356.length co25 : Value).ownBlock ∧ some k_ ≠ (v382 : Value).ownBlock ∧ k_ ≠ gb352 ∧ k_ ≠ gb359 ∧ k_ ≠ gb367 ∧ k_ ≠ gb375 ∧ k_ ≠ gb385) (fun _ hk => hk.2) (fun _ hk => ⟨hk.1.1.1.1, ⟨hk.1.1.2, ⟨hk.1.1.1.2.1, ⟨hk.1.1.1.2.2.1, ⟨hk.1.1.1.2.2.2.1, ⟨hk.1.1.1.2.2.2.2, hk.1.2⟩⟩⟩⟩⟩⟩); replace HO372 := zVm hw HO372 (fun k_ => some k_ ≠ (v382 : Value).ownBlock ∧ k_ ≠ gb352 ∧ k_ ≠ gb359 ∧ k_ ≠ gb367 ∧ k_ ≠ gb375 ∧ k_ ≠ gb385) (fun _ hk => hk.2) (fun _ hk => ⟨hk.1.1.2, ⟨hk.1.1.1.1, ⟨hk.1.1.1.2.1, ⟨hk.1.1.1.2.2.1, ⟨hk.1.1.1.2.2.2, hk.1.2⟩⟩⟩⟩⟩); replace HO380 := zVm hw HO380 (fun k_ => some k_ ≠ (.slice Ao25 t356.length co25 : Value).ownBlock ∧ some k_ ≠ (v382 : Value).ownBlock ∧ k_ ≠ gb352 ∧ k_ ≠ gb359 ∧ k_ ≠ gb367 ∧ k_ ≠ gb375 ∧ k_ ≠ gb385) (fun _ hk => hk.2) (fun _ hk => ⟨hk.1.1.2.1, ⟨hk.1.1.1, ⟨hk.1.1.2.2.1, ⟨hk.1.1.2.2.2.1, ⟨hk.1.1.2.2.2.2.1, ⟨hk.1.1.2.2.2.2.2, hk.1.2⟩⟩⟩⟩⟩⟩); replace HO383 : Aside0 (Kd.R k50 50 w53 w.heap.size (fun _ => True) v382 t381) := ⟨(by rw [hw]; exact (by (with_reducible repeat (first | apply Kd.R_alloc | apply Kd.R_drewN | apply Kd.R_drew)); exact Kd.R_mono (Kd.R_far (p := ⟨gb385, 2, none⟩) (Kd.R_far (p := ⟨gb385, 1, none⟩) (Kd.R_far (p := ⟨gb385, 0, none⟩) (Kd.R_types HO383.out BK385.out (by decide)) (fun _ hk => hk.2) (.int .i64 t376)) (fun _ hk => hk.2) (.int .i64 t377)) (fun _ hk => hk.2) (.slice Ao52 t378.length co52)) (fun _ hk => trivial)))⟩; replace BK352 := zks hw BK352 NB352_385; replace BK359 := zks hw BK359 NB359_385; replace BK367 := zks hw BK367 NB367_385; replace BK375 := zks hw BK375 NB375_385; replace BK385 : Aside0 (w53.heap[gb385]? = some (.cells #[.int .i64 t376, .int .i64 t377, .slice Ao52 t378.length co52] 24 (0, 0))) := ⟨(by rw [hw]; exact (by (with_reducible repeat (first | refine blk_drewN ?_ _ | refine blk_drew ?_ | refine blk_alloc ?_ _)); refine blk_put (cs := #[.int .i64 t376, .int .i64 t377, .slice none 0 0]) ?_ 2 _ rfl; (with_reducible repeat (first | refine blk_drewN ?_ _ | refine blk_drew ?_ | refine blk_alloc ?_ _)); refine blk_put (cs := #[.int .i64 t376, .int .i64 0, .slice none 0 0]) ?_ 1 _ rfl; (with_reducible repeat (first | refine blk_drewN ?_ _ | refine blk_drew ?_ | refine blk_alloc ?_ _)); refine blk_put (cs := #[.int .i64 0, .int .i64 0, .slice none 0 0]) ?_ 0 _ rfl; (with_reducible repeat (first | refine blk_drewN ?_ _ | refine blk_drew ?_ | refine blk_alloc ?_ _)); exact BK385.out))⟩; replace HB : Aside0 (Below w.heap.size w w53) := ⟨(by rw [hw]; exact (zc5 HB GE352 GE359 GE367 GE375 GE385))⟩; clear hw; have hcz54_0 : w53.cell? ⟨gb359, 0, none⟩ = some (.int .i64 t354) := (blk_cell BK359.out 0).trans rfl; have hcz54_1 : w53.cell? ⟨gb359, 1, none⟩ = some (.int .i64 t355) := (blk_cell BK359.out 1).trans rfl; have hcz54_2 : w53.cell? ⟨gb359, 2, none⟩ = some (.slice Ao25 t356.length co25) := (blk_cell BK359.out 2).trans rfl; have hfz54_0 := blk_frozen BK359.out 0; have hfz54_1 := blk_frozen BK359.out 1; have hfz54_2 := blk_frozen BK359.out 2) | ((with_reducible refine gate_callee (f := 14) rfl ?_); refine goesL_ (some 62) rfl rfl Try.func14 (by kernel_rfl) rfl #[.agg #[.int .i64 t354, .int .i64 t355, .slice Ao25 t356.length co25], .int .i64 a2] rfl zm ?_; (with_reducible refine (handshakerref18_Give.calls k t354 t355 (fun k_ => some k_ = (.slice Ao25 t356.length co25 : Value).ownBlock) _ _ t356 a2 t386 t387 t388 t391 t394 _ ?side1 A13.out).mono ?_); (case side1 => exact Kd.R_V (Kd.R_tight rfl (Kd.R_types (Kd.R_types (Kd.R_types (Kd.R_types (Kd.R_types (Kd.R_apart' (HO358.out) (Kd.R_typed HO383.out) (by decide)) BK352.out (by decide)) BK359.out (by decide)) BK367.out (by decide)) BK375.out (by decide)) BK385.out (by decide)))); rintro e w55 ⟨v389, v392, rfl, ho0, ho1, hb⟩; refine ⟨_, rfl, ?_⟩; replace HO364 := am (Kd.V_elder' (zV HO364) (Kd.R_base ho1) hb); replace HO372 := am (Kd.V_elder' (zV HO372) (Kd.R_base ho1) hb); replace HO380 := am (Kd.V_elder' (zV HO380) (Kd.R_base ho1) hb); have HO390 := am (Kd.V_lower (Kd.V_mono (ok' := fun k_ => some k_ ≠ (v392 : Value).ownBlock ∧ some k_ ≠ (v382 : Value).ownBlock ∧ k_ ≠ gb352 ∧ k_ ≠ gb359 ∧ k_ ≠ gb367 ∧ k_ ≠ gb375 ∧ k_ ≠ gb385) ho0 (fun k_ hk_ => ⟨hk_.2, Or.elim hk_.1 (fun hs_ => ((Kd.R_types (Kd.R_types (Kd.R_types (Kd.R_types (Kd.R_types (Kd.R_apart' (HO358.out) (Kd.R_typed HO383.out) (by decide)) BK352.out (by decide)) BK359.out (by decide)) BK367.out (by decide)) BK375.out (by decide)) BK385.out (by decide)).1 k_ hs_.symm).1.1.1.1.1.2) (fun hn_ => (Kd.fresh' (Kd.R_lt (zR HO383)) k_ hn_)), Or.elim hk_.1 (fun hs_ => ((Kd.R_types (Kd.R_types (Kd.R_types (Kd.R_types (Kd.R_types (Kd.R_apart' (HO358.out) (Kd.R_typed HO383.out) (by decide)) BK352.out (by decide)) BK359.out (by decide)) BK367.out (by decide)) BK375.out (by decide)) BK385.out (by decide)).1 k_ hs_.symm).1.1.1.1.2) (fun hn_ => (zfr gb352 BK352 hn_)), Or.elim hk_.1 (fun hs_ => ((Kd.R_types (Kd.R_types (Kd.R_types (Kd.R_types (Kd.R_types (Kd.R_apart' (HO358.out) (Kd.R_typed HO383.out) (by decide)) BK352.out (by decide)) BK359.out (by decide)) BK367.out (by decide)) BK375.out (by decide)) BK385.out (by decide)).1 k_ hs_.symm).1.1.1.2) (fun hn_ => (zfr gb359 BK359 hn_)), Or.elim hk_.1 (fun hs_ => ((Kd.R_types (Kd.R_types (Kd.R_types (Kd.R_types (Kd.R_types (Kd.R_apart' (HO358.out) (Kd.R_typed HO383.out) (by decide)) BK352.out (by decide)) BK359.out (by decide)) BK367.out (by decide)) BK375.out (by decide)) BK385.out (by decide)).1 k_ hs_.symm).1.1.2) (fun hn_ => (zfr gb367 BK367 hn_)), Or.elim hk_.1 (fun hs_ => ((Kd.R_types (Kd.R_types (Kd.R_types (Kd.R_types (Kd.R_types (Kd.R_apart' (HO358.out) (Kd.R_typed HO383.out) (by decide)) BK352.out (by decide)) BK359.out (by decide)) BK367.out (by decide)) BK375.out (by decide)) BK385.out (by decide)).1 k_ hs_.symm).1.2) (fun hn_ => (zfr gb375 BK375 hn_)), Or.elim hk_.1 (fun hs_ => ((Kd.R_types (Kd.R_types (Kd.R_types (Kd.R_types (Kd.R_types (Kd.R_apart' (HO358.out) (Kd.R_typed HO383.out) (by decide)) BK352.out (by decide)) BK359.out (by decide)) BK367.out (by decide)) BK375.out (by decide)) BK385.out (by decide)).1 k_ hs_.symm).2) (fun hn_ => (zfr gb385 BK385 hn_))⟩)) (below_size (zc5 HB GE352 GE359 GE367 GE375 GE385))); replace HO383 := zRb HO383 hb; have HO393 := am (Kd.R_lower (Kd.R_new' (Kd.R_mono (ok' := fun k_ => True) ho1 (fun _ hk_ => trivial)) (Kd.R_lt (zR HO358))) (below_size (zc5 HB GE352 GE359 GE367 GE375 GE385))); replace HO358 := am (Kd.R_elder' (zR HO358) (Kd.R_base ho1) hb); replace BK352 := zbb BK352 hb; replace BK359 := zbb BK359 hb; replace BK367 := zbb BK367 hb; replace BK375 := zbb BK375 hb; replace BK385 := zbb BK385 hb; replace HB := am (below_step (zc5 HB GE352 GE359 GE367 GE375 GE385) hb); (try clear hb); (try clear hb2); (try clear hk); (try clear hi); (try clear ho0); (try clear ho1)) | ((with_reducible refine gate_dst (N := 17) rfl ?_); (try (refine gate_guard (by rfl) ?_; dsimp only)); refine box_event ?hg (N := 17) ?hd (cs := #[.int .i64 0, .int .i64 0, .slice none 0 0]) (t := 28) ?hr ?_; (case hd => rfl); (case hg => rfl); (case hr => first | (go_simp; done) | (go_simp; rfl)); intro gb395 hg w56 hbox hb; replace HO358 := zRb HO358 hb; replace HO364 := zVe HO364 hg hb; replace HO372 := zVe HO372 hg hb; replace HO380 := zVe HO380 hg hb; replace HO383 := zRb HO383 hb; replace HO390 := zVe HO390 hg hb; replace HO393 := zRb HO393 hb; have BK395 := am (hbox); have GW395 := zsz hg (zc5 HB GE352 GE359 GE367 GE375 GE385); have GE395 := zsz hg (zc5 HB GE352 GE359 GE367 GE375 GE385); replace HB := am (below_step (zc5 HB GE352 GE359 GE367 GE375 GE385) hb); have NB352_395 := znt BK352 hg; have NB395_352 := zng BK352 hg; replace BK352 := zbb BK352 hb; have NB359_395 := znt BK359 hg; have NB395_359 := zng BK359 hg; replace BK359 := zbb BK359 hb; have NB367_395 := znt BK367 hg; have NB395_367 := zng BK367 hg; replace BK367 := zbb BK367 hb; have NB375_395 := znt BK375 hg; have NB395_375 := zng BK375 hg; replace BK375 := zbb BK375 hb; have NB385_395 := znt BK385 hg; have NB395_385 := zng BK385 hg; replace BK385 := zbb BK385 hb; clear hb hbox hg; have hnb57 := NB395_352.out; have hnc57 := NB352_395.out; have hnb58 := NB395_359.out; have hnc58 := NB359_395.out; have hnb59 := NB395_367.out; have hnc59 := NB367_395.out; have hnb60 := NB395_375.out; have hnc60 := NB375_395.out; have hnb61 := NB395_385.out; have hnc61 := NB385_395.out; have hcz62_0 : w56.cell? ⟨gb395, 0, none⟩ = some (.int .i64 0) := (blk_cell BK395.out 0).trans rfl; have hcz62_1 : w56.cell? ⟨gb395, 1, none⟩ = some (.int .i64 0) := (blk_cell BK395.out 1).trans rfl; have hcz62_2 : w56.cell? ⟨gb395, 2, none⟩ = some (.slice none 0 0) := (blk_cell BK395.out 2).trans rfl; have hfz62_0 := blk_frozen BK395.out 0; have hfz62_1 := blk_frozen BK395.out 1; have hfz62_2 := blk_frozen BK395.out 2; obtain ⟨Ao63, co63, eo63⟩ := Kd.V_slice HO390.out; subst eo63) | ((with_reducible refine gate_store (t := 28) (p := 17) rfl ?_); refine store_event (t := 28) (p := 17) (v := ?vo_w64) (w1 := (((w56.setCell ⟨gb395, 0, none⟩ (.int .i64 t386)).setCell ⟨gb395, 1, none⟩ (.int .i64 t387)).setCell ⟨gb395, 2, none⟩ (.slice Ao63 t388.length co63))) ?hg ?ho ?hn ?hr ?_; (case ho => rfl); (case hg => rfl); (case hn => rfl); (case hr => first | (go_simp; done) | (go_simp; rfl)); intro w64 hw; replace HO358 : Aside0 (Kd.R k61 61 w64 w.heap.size (fun k_ => some k_ ≠ (v392 : Value).ownBlock) (.slice Ao25 t356.length co25) t356) := ⟨(by rw [hw]; exact (by (with_reducible repeat (first | apply Kd.R_alloc | apply Kd.R_drewN | apply Kd.R_drew)); exact Kd.R_mono (Kd.R_far (p := ⟨gb395, 2, none⟩) (Kd.R_far (p := ⟨gb395, 1, none⟩) (Kd.R_far (p := ⟨gb395, 0, none⟩) (Kd.R_types HO358.out BK395.out (by decide)) (fun _ hk => hk.2) (.int .i64 t386)) (fun _ hk => hk.2) (.int .i64 t387)) (fun _ hk => hk.2) (.slice Ao63 t388.length co63)) (fun _ hk => hk.1.2)))⟩; replace HO364 := zVm hw HO364 (fun k_ => some k_ ≠ (.slice Ao25 t356.length co25 : Value).ownBlock ∧ some k_ ≠ (v382 : Value).ownBlock ∧ some k_ ≠ (v392 : Value).ownBlock ∧ k_ ≠ gb352 ∧ k_ ≠ gb359 ∧ k_ ≠ gb367 ∧ k_ ≠ gb375 ∧ k_ ≠ gb385 ∧ k_ ≠ gb395) (fun _ hk => hk.2) (fun _ hk => ⟨hk.1.1.1.1, ⟨hk.1.1.1.2.1, ⟨hk.1.1.2, ⟨hk.1.1.1.2.2.1, ⟨hk.1.1.1.2.2.2.1, ⟨hk.1.1.1.2.2.2.2.1, ⟨hk.1.1.1.2.2.2.2.2.1, ⟨hk.1.1.1.2.2.2.2.2.2, hk.1.2⟩⟩⟩⟩⟩⟩⟩⟩); replace HO372 := zVm hw HO372 (fun k_ => some k_ ≠ (v382 : Value).ownBlock ∧ some k_ ≠ (v392 : Value).ownBlock ∧ k_ ≠ gb352 ∧ k_ ≠ gb359 ∧ k_ ≠ gb367 ∧ k_ ≠ gb375 ∧ k_ ≠ gb385 ∧ k_ ≠ gb395) (fun _ hk => hk.2) (fun _ hk => ⟨hk.1.1.1.1, ⟨hk.1.1.2, ⟨hk.1.1.1.2.1, ⟨hk.1.1.1.2.2.1, ⟨hk.1.1.1.2.2.2.1, ⟨hk.1.1.1.2.2.2.2.1, ⟨hk.1.1.1.2.2.2.2.2, hk.1.2⟩⟩⟩⟩⟩⟩⟩); replace HO380 := zVm hw HO380 (fun k_ => some k_ ≠ (.slice Ao25 t356.length co25 : Value).ownBlock ∧ some k_ ≠ (v382 : Value).ownBlock ∧ some k_ ≠ (v392 : Value).ownBlock ∧ k_ ≠ gb352 ∧ k_ ≠ gb359 ∧ k_ ≠ gb367 ∧ k_ ≠ gb375 ∧ k_ ≠ gb385 ∧ k_ ≠ gb395) (fun _ hk => hk.2) (fun _ hk => ⟨hk.1.1.1.1, ⟨hk.1.1.1.2.1, ⟨hk.1.1.2, ⟨hk.1.1.1.2.2.1, ⟨hk.1.1.1.2.2.2.1, ⟨hk.1.1.1.2.2.2.2.1, ⟨hk.1.1.1.2.2.2.2.2.1, ⟨hk.1.1.1.2.2.2.2.2.2, hk.1.2⟩⟩⟩⟩⟩⟩⟩⟩); replace HO383 : Aside0 (Kd.R k50 50 w64 w.heap.size (fun _ => True) v382 t381) := ⟨(by rw [hw]; exact (by (with_reducible repeat (first | apply Kd.R_alloc | apply Kd.R_drewN | apply Kd.R_drew)); exact Kd.R_mono (Kd.R_far (p := ⟨gb395, 2, none⟩) (Kd.R_far (p := ⟨gb395, 1, none⟩) (Kd.R_far (p := ⟨gb395, 0, none⟩) (Kd.R_types HO383.out BK395.out (by decide)) (fun _ hk => hk.2) (.int .i64 t386)) (fun _ hk => hk.2) (.int .i64 t387)) (fun _ hk => hk.2) (.slice Ao63 t388.length co63)) (fun _ hk => trivial)))⟩; replace HO390 := zVm hw HO390 (fun k_ => some k_ ≠ (v382 : Value).ownBlock ∧ some k_ ≠ (v392 : Value).ownBlock ∧ k_ ≠ gb352 ∧ k_ ≠ gb359 ∧ k_ ≠ gb367 ∧ k_ ≠ gb375 ∧ k_ ≠ gb385 ∧ k_ ≠ gb395) (fun _ hk => hk.2) (fun _ hk => ⟨hk.1.1.2.1, ⟨hk.1.1.1, ⟨hk.1.1.2.2.1, ⟨hk.1.1.2.2.2.1, ⟨hk.1.1.2.2.2.2.1, ⟨hk.1.1.2.2.2.2.2.1, ⟨hk.1.1.2.2.2.2.2.2, hk.1.2⟩⟩⟩⟩⟩⟩⟩); replace HO393 : Aside0 (Kd.R k61 61 w64 w.heap.size (fun k_ => some k_ ≠ (.slice Ao25 t356.length co25 : Value).ownBlock) v392 t391) := ⟨(by rw [hw]; exact (by (with_reducible repeat (first | apply Kd.R_alloc | apply Kd.R_drewN | apply Kd.R_drew)); exact Kd.R_mono (Kd.R_far (p := ⟨gb395, 2, none⟩) (Kd.R_far (p := ⟨gb395, 1, none⟩) (Kd.R_far (p := ⟨gb395, 0, none⟩) (Kd.R_types HO393.out BK395.out (by decide)) (fun _ hk => hk.2) (.int .i64 t386)) (fun _ hk => hk.2) (.int .i64 t387)) (fun _ hk => hk.2) (.slice Ao63 t388.length co63)) (fun _ hk => hk.1.2)))⟩; replace BK352 := zks hw BK352 NB352_395; replace BK359 := zks hw BK359 NB359_395; replace BK367 := zks hw BK367 NB367_395; replace BK375 := zks hw BK375 NB375_395; replace BK385 := zks hw BK385 NB385_395; replace BK395 : Aside0 (w64.heap[gb395]? = some (.cells #[.int .i64 t386, .int .i64 t387, .slice Ao63 t388.length co63] 28 (0, 0))) := ⟨(by rw [hw]; exact (by (with_reducible repeat (first | refine blk_drewN ?_ _ | refine blk_drew ?_ | refine blk_alloc ?_ _)); refine blk_put (cs := #[.int .i64 t386, .int .i64 t387, .slice none 0 0]) ?_ 2 _ rfl; (with_reducible repeat (first | refine blk_drewN ?_ _ | refine blk_drew ?_ | refine blk_alloc ?_ _)); refine blk_put (cs := #[.int .i64 t386, .int .i64 0, .slice none 0 0]) ?_ 1 _ rfl; (with_reducible repeat (first | refine blk_drewN ?_ _ | refine blk_drew ?_ | refine blk_alloc ?_ _)); refine blk_put (cs := #[.int .i64 0, .int .i64 0, .slice none 0 0]) ?_ 0 _ rfl; (with_reducible repeat (first | refine blk_drewN ?_ _ | refine blk_drew ?_ | refine blk_alloc ?_ _)); exact BK395.out))⟩; replace HB : Aside0 (Below w.heap.size w w64) := ⟨(by rw [hw]; exact (zc6 HB GE352 GE359 GE367 GE375 GE385 GE395))⟩; clear hw; have hcz65_0 : w64.cell? ⟨gb352, 0, none⟩ = some (.int .i64 a0_0) := (blk_cell BK352.out 0).trans rfl; have hcz65_1 : w64.cell? ⟨gb352, 1, none⟩ = some (.int .i64 a0_1) := (blk_cell BK352.out 1).trans rfl; have hcz65_2 : w64.cell? ⟨gb352, 2, none⟩ = some (.slice A0_2 l0_2.length c0_2) := (blk_cell BK352.out 2).trans rfl; have hfz65_0 := blk_frozen BK352.out 0; have hfz65_1 := blk_frozen BK352.out 1; have hfz65_2 := blk_frozen BK352.out 2) | ((with_reducible refine gate_callee (f := 15) rfl ?_); refine goesL_ (some 69) rfl rfl Try.func15 (by kernel_rfl) rfl #[.agg #[.int .i64 a0_0, .int .i64 a0_1, .slice A0_2 l0_2.length c0_2], .int .i64 a1] rfl zm ?_; (with_reducible refine (sema_Leave.calls k a0_0 a0_1 (fun k_ => k_ < w.heap.size) _ _ l0_2 a1 t396 t397 t398 t401 t404 _ ?side1 A14.out).mono ?_); (case side1 => exact Kd.V_mk HC0_2.out (Kd.F_below (Kd.C_F k50_heap HR0_2.out) (zc6 HB GE352 GE359 GE367 GE375 GE385 GE395))); rintro e w66 ⟨v399, v402, rfl, ho0, ho1, hb⟩; refine ⟨_, rfl, ?_⟩; replace HO364 := am (Kd.V_elder' (zV HO364) (Kd.R_base ho1) hb); replace HO372 := am (Kd.V_elder' (zV HO372) (Kd.R_base ho1) hb); replace HO380 := am (Kd.V_elder' (zV HO380) (Kd.R_base ho1) hb); replace HO390 := am (Kd.V_elder' (zV HO390) (Kd.R_base ho1) hb); have HO400 := am (Kd.V_lower (Kd.V_mono (ok' := fun k_ => some k_ ≠ (v402 : Value).ownBlock ∧ some k_ ≠ (.slice Ao25 t356.length co25 : Value).ownBlock ∧ some k_ ≠ (v382 : Value).ownBlock ∧ some k_ ≠ (v392 : Value).ownBlock ∧ k_ ≠ gb352 ∧ k_ ≠ gb359 ∧ k_ ≠ gb367 ∧ k_ ≠ gb375 ∧ k_ ≠ gb385 ∧ k_ ≠ gb395) ho0 (fun k_ hk_ => ⟨hk_.2, Or.elim hk_.1 (fun hs_ => fun e_ => Nat.not_le.2 hs_ (Kd.R_base HO358.out k_ e_.symm)) (fun hn_ => (Kd.fresh' (Kd.R_lt (zR HO358)) k_ hn_)), Or.elim hk_.1 (fun hs_ => fun e_ => Nat.not_le.2 hs_ (Kd.R_base HO383.out k_ e_.symm)) (fun hn_ => (Kd.fresh' (Kd.R_lt (zR HO383)) k_ hn_)), Or.elim hk_.1 (fun hs_ => fun e_ => Nat.not_le.2 hs_ (Kd.R_base HO393.out k_ e_.symm)) (fun hn_ => (Kd.fresh' (Kd.R_lt (zR HO393)) k_ hn_)), Or.elim hk_.1 (znl GW352) (fun hn_ => (zfr gb352 BK352 hn_)), Or.elim hk_.1 (znl GW359) (fun hn_ => (zfr gb359 BK359 hn_)), Or.elim hk_.1 (znl GW367) (fun hn_ => (zfr gb367 BK367 hn_)), Or.elim hk_.1 (znl GW375) (fun hn_ => (zfr gb375 BK375 hn_)), Or.elim hk_.1 (znl GW385) (fun hn_ => (zfr gb385 BK385 hn_)), Or.elim hk_.1 (znl GW395) (fun hn_ => (zfr gb395 BK395 hn_))⟩)) (below_size (zc6 HB GE352 GE359 GE367 GE375 GE385 GE395))); replace HO358 := zRb HO358 hb; replace HO393 := zRb HO393 hb; have HO403 := am (Kd.R_lower (Kd.R_new' (Kd.R_mono (ok' := fun k_ => True) ho1 (fun _ hk_ => trivial)) (Kd.R_lt (zR HO383))) (below_size (zc6 HB GE352 GE359 GE367 GE375 GE385 GE395))); replace HO383 := am (Kd.R_elder' (zR HO383) (Kd.R_base ho1) hb); replace BK352 := zbb BK352 hb; replace BK359 := zbb BK359 hb; replace BK367 := zbb BK367 hb; replace BK375 := zbb BK375 hb; replace BK385 := zbb BK385 hb; replace BK395 := zbb BK395 hb; replace HB := am (below_step (zc6 HB GE352 GE359 GE367 GE375 GE385 GE395) hb); (try clear hb); (try clear hb2); (try clear hk); (try clear hi); (try clear ho0); (try clear ho1)) | ((with_reducible refine gate_dst (N := 20) rfl ?_); (try (refine gate_guard (by rfl) ?_; dsimp only)); refine box_event ?hg (N := 20) ?hd (cs := #[.int .i64 0, .int .i64 0, .slice none 0 0]) (t := 24) ?hr ?_; (case hd => rfl); (case hg => rfl); (case hr => first | (go_simp; done) | (go_simp; rfl)); intro gb405 hg w67 hbox hb; replace HO358 := zRb HO358 hb; replace HO364 := zVe HO364 hg hb; replace HO372 := zVe HO372 hg hb; replace HO380 := zVe HO380 hg hb; replace HO383 := zRb HO383 hb; replace HO390 := zVe HO390 hg hb; replace HO393 := zRb HO393 hb; replace HO400 := zVe HO400 hg hb; replace HO403 := zRb HO403 hb; have BK405 := am (hbox); have GW405 := zsz hg (zc6 HB GE352 GE359 GE367 GE375 GE385 GE395); have GE405 := zsz hg (zc6 HB GE352 GE359 GE367 GE375 GE385 GE395); replace HB := am (below_step (zc6 HB GE352 GE359 GE367 GE375 GE385 GE395) hb); have NB352_405 := znt BK352 hg; have NB405_352 := zng BK352 hg; replace BK352 := zbb BK352 hb; have NB359_405 := znt BK359 hg; have NB405_359 := zng BK359 hg; replace BK359 := zbb BK359 hb; have NB367_405 := znt BK367 hg; have NB405_367 := zng BK367 hg; replace BK367 := zbb BK367 hb; have NB375_405 := znt BK375 hg; have NB405_375 := zng BK375 hg; replace BK375 := zbb BK375 hb; have NB385_405 := znt BK385 hg; have NB405_385 := zng BK385 hg; replace BK385 := zbb BK385 hb; have NB395_405 := znt BK395 hg; have NB405_395 := zng BK395 hg; replace BK395 := zbb BK395 hb; clear hb hbox hg; have hnb68 := NB405_352.out; have hnc68 := NB352_405.out; have hnb69 := NB405_359.out; have hnc69 := NB359_405.out; have hnb70 := NB405_367.out; have hnc70 := NB367_405.out; have hnb71 := NB405_375.out; have hnc71 := NB375_405.out; have hnb72 := NB405_385.out; have hnc72 := NB385_405.out; have hnb73 := NB405_395.out; have hnc73 := NB395_405.out; have hcz74_0 : w67.cell? ⟨gb405, 0, none⟩ = some (.int .i64 0) := (blk_cell BK405.out 0).trans rfl; have hcz74_1 : w67.cell? ⟨gb405, 1, none⟩ = some (.int .i64 0) := (blk_cell BK405.out 1).trans rfl; have hcz74_2 : w67.cell? ⟨gb405, 2, none⟩ = some (.slice none 0 0) := (blk_cell BK405.out 2).trans rfl; have hfz74_0 := blk_frozen BK405.out 0; have hfz74_1 := blk_frozen BK405.out 1; have hfz74_2 := blk_frozen BK405.out 2; obtain ⟨Ao75, co75, eo75⟩ := Kd.V_slice HO400.out; subst eo75) | ((with_reducible refine gate_store (t := 24) (p := 20) rfl ?_); refine store_event (t := 24) (p := 20) (v := ?vo_w76) (w1 := (((w67.setCell ⟨gb405, 0, none⟩ (.int .i64 t396)).setCell ⟨gb405, 1, none⟩ (.int .i64 t397)).setCell ⟨gb405, 2, none⟩ (.slice Ao75 t398.length co75))) ?hg ?ho ?hn ?hr ?_; (case ho => rfl); (case hg => rfl); (case hn => rfl); (case hr => first | (go_simp; done) | (go_simp; rfl)); intro w76 hw; replace HO358 : Aside0 (Kd.R k61 61 w76 w.heap.size (fun k_ => some k_ ≠ (v392 : Value).ownBlock) (.slice Ao25 t356.length co25) t356) := ⟨(by rw [hw]; exact (by (with_reducible repeat (first | apply Kd.R_alloc | apply Kd.R_drewN | apply Kd.R_drew)); exact Kd.R_mono (Kd.R_far (p := ⟨gb405, 2, none⟩) (Kd.R_far (p := ⟨gb405, 1, none⟩) (Kd.R_far (p := ⟨gb405, 0, none⟩) (Kd.R_types HO358.out BK405.out (by decide)) (fun _ hk => hk.2) (.int .i64 t396)) (fun _ hk => hk.2) (.int .i64 t397)) (fun _ hk => hk.2) (.slice Ao75 t398.length co75)) (fun _ hk => hk.1)))⟩; replace HO364 := zVm hw HO364 (fun k_ => some k_ ≠ (.slice Ao25 t356.length co25 : Value).ownBlock ∧ some k_ ≠ (v382 : Value).ownBlock ∧ some k_ ≠ (v392 : Value).ownBlock ∧ some k_ ≠ (v402 : Value).ownBlock ∧ k_ ≠ gb352 ∧ k_ ≠ gb359 ∧ k_ ≠ gb367 ∧ k_ ≠ gb375 ∧ k_ ≠ gb385 ∧ k_ ≠ gb395 ∧ k_ ≠ gb405) (fun _ hk => hk.2) (fun _ hk => ⟨hk.1.1.1.1, ⟨hk.1.1.1.2.1, ⟨hk.1.1.1.2.2.1, ⟨hk.1.1.2, ⟨hk.1.1.1.2.2.2.1, ⟨hk.1.1.1.2.2.2.2.1, ⟨hk.1.1.1.2.2.2.2.2.1, ⟨hk.1.1.1.2.2.2.2.2.2.1, ⟨hk.1.1.1.2.2.2.2.2.2.2.1, ⟨hk.1.1.1.2.2.2.2.2.2.2.2, hk.1.2⟩⟩⟩⟩⟩⟩⟩⟩⟩⟩); replace HO372 := zVm hw HO372 (fun k_ => some k_ ≠ (v382 : Value).ownBlock ∧ some k_ ≠ (v392 : Value).ownBlock ∧ some k_ ≠ (v402 : Value).ownBlock ∧ k_ ≠ gb352 ∧ k_ ≠ gb359 ∧ k_ ≠ gb367 ∧ k_ ≠ gb375 ∧ k_ ≠ gb385 ∧ k_ ≠ gb395 ∧ k_ ≠ gb405) (fun _ hk => hk.2) (fun _ hk => ⟨hk.1.1.1.1, ⟨hk.1.1.1.2.1, ⟨hk.1.1.2, ⟨hk.1.1.1.2.2.1, ⟨hk.1.1.1.2.2.2.1, ⟨hk.1.1.1.2.2.2.2.1, ⟨hk.1.1.1.2.2.2.2.2.1, ⟨hk.1.1.1.2.2.2.2.2.2.1, ⟨hk.1.1.1.2.2.2.2.2.2.2, hk.1.2⟩⟩⟩⟩⟩⟩⟩⟩⟩); replace HO380 := zVm hw HO380 (fun k_ => some k_ ≠ (.slice Ao25 t356.length co25 : Value).ownBlock ∧ some k_ ≠ (v382 : Value).ownBlock ∧ some k_ ≠ (v392 : Value).ownBlock ∧ some k_ ≠ (v402 : Value).ownBlock ∧ k_ ≠ gb352 ∧ k_ ≠ gb359 ∧ k_ ≠ gb367 ∧ k_ ≠ gb375 ∧ k_ ≠ gb385 ∧ k_ ≠ gb395 ∧ k_ ≠ gb405) (fun _ hk => hk.2) (fun _ hk => ⟨hk.1.1.1.1, ⟨hk.1.1.1.2.1, ⟨hk.1.1.1.2.2.1, ⟨hk.1.1.2, ⟨hk.1.1.1.2.2.2.1, ⟨hk.1.1.1.2.2.2.2.1, ⟨hk.1.1.1.2.2.2.2.2.1, ⟨hk.1.1.1.2.2.2.2.2.2.1, ⟨hk.1.1.1.2.2.2.2.2.2.2.1, ⟨hk.1.1.1.2.2.2.2.2.2.2.2, hk.1.2⟩⟩⟩⟩⟩⟩⟩⟩⟩⟩); replace HO383 : Aside0 (Kd.R k50 50 w76 w.heap.size (fun k_ => some k_ ≠ (v402 : Value).ownBlock) v382 t381) := ⟨(by rw [hw]; exact (by (with_reducible repeat (first | apply Kd.R_alloc | apply Kd.R_drewN | apply Kd.R_drew)); exact Kd.R_mono (Kd.R_far (p := ⟨gb405, 2, none⟩) (Kd.R_far (p := ⟨gb405, 1, none⟩) (Kd.R_far (p := ⟨gb405, 0, none⟩) (Kd.R_types HO383.out BK405.out (by decide)) (fun _ hk => hk.2) (.int .i64 t396)) (fun _ hk => hk.2) (.int .i64 t397)) (fun _ hk => hk.2) (.slice Ao75 t398.length co75)) (fun _ hk => hk.1.2)))⟩; replace HO390 := zVm hw HO390 (fun k_ => some k_ ≠ (v382 : Value).ownBlock ∧ some k_ ≠ (v392 : Value).ownBlock ∧ some k_ ≠ (v402 : Value).ownBlock ∧ k_ ≠ gb352 ∧ k_ ≠ gb359 ∧ k_ ≠ gb367 ∧ k_ ≠ gb375 ∧ k_ ≠ gb385 ∧ k_ ≠ gb395 ∧ k_ ≠ gb405) (fun _ hk => hk.2) (fun _ hk => ⟨hk.1.1.1.1, ⟨hk.1.1.1.2.1, ⟨hk.1.1.2, ⟨hk.1.1.1.2.2.1, ⟨hk.1.1.1.2.2.2.1, ⟨hk.1.1.1.2.2.2.2.1, ⟨hk.1.1.1.2.2.2.2.2.1, ⟨hk.1.1.1.2.2.2.2.2.2.1, ⟨hk.1.1.1.2.2.2.2.2.2.2, hk.1.2⟩⟩⟩⟩⟩⟩⟩⟩⟩); replace HO393 : Aside0 (Kd.R k61 61 w76 w.heap.size (fun k_ => some k_ ≠ (.slice Ao25 t356.length co25 : Value).ownBlock) v392 t391) := ⟨(by rw [hw]; exact (by (with_reducible repeat (first | apply Kd.R_alloc | apply Kd.R_drewN | apply Kd.R_drew)); exact Kd.R_mono (Kd.R_far (p := ⟨gb405, 2, none⟩) (Kd.R_far (p := ⟨gb405, 1, none⟩) (Kd.R_far (p := ⟨gb405, 0, none⟩) (Kd.R_types HO393.out BK405.out (by decide)) (fun _ hk => hk.2) (.int .i64 t396)) (fun _ hk => hk.2) (.int .i64 t397)) (fun _ hk => hk.2) (.slice Ao75 t398.length co75)) (fun _ hk => hk.1)))⟩; replace HO400 := zVm hw HO400 (fun k_ => some k_ ≠ (.slice Ao25 t356.length co25 : Value).ownBlock ∧ some k_ ≠ (v382 : Value).ownBlock ∧ some k_ ≠ (v392 : Value).ownBlock ∧ some k_ ≠ (v402 : Value).ownBlock ∧ k_ ≠ gb352 ∧ k_ ≠ gb359 ∧ k_ ≠ gb367 ∧ k_ ≠ gb375 ∧ k_ ≠ gb385 ∧ k_ ≠ gb395 ∧ k_ ≠ gb405) (fun _ hk => hk.2) (fun _ hk => ⟨hk.1.1.2.1, ⟨hk.1.1.2.2.1, ⟨hk.1.1.2.2.2.1, ⟨hk.1.1.1, ⟨hk.1.1.2.2.2.2.1, ⟨hk.1.1.2.2.2.2.2.1, ⟨hk.1.1.2.2.2.2.2.2.1, ⟨hk.1.1.2.2.2.2.2.2.2.1, ⟨hk.1.1.2.2.2.2.2.2.2.2.1, ⟨hk.1.1.2.2.2.2.2.2.2.2.2, hk.1.2⟩⟩⟩⟩⟩⟩⟩⟩⟩⟩); replace HO403 : Aside0 (Kd.R k50 50 w76 w.heap.size (fun k_ => some k_ ≠ (v382 : Value).ownBlock) v402 t401) := ⟨(by rw [hw]; exact (by (with_reducible repeat (first | apply Kd.R_alloc | apply Kd.R_drewN | apply Kd.R_drew)); exact Kd.R_mono (Kd.R_far (p := ⟨gb405, 2, none⟩) (Kd.R_far (p := ⟨gb405, 1, none⟩) (Kd.R_far (p := ⟨gb405, 0, none⟩) (Kd.R_types HO403.out BK405.out (by decide)) (fun _ hk => hk.2) (.int .i64 t396)) (fun _ hk => hk.2) (.int .i64 t397)) (fun _ hk => hk.2) (.slice Ao75 t398.length co75)) (fun _ hk => hk.1.2)))⟩; replace BK352 := zks hw BK352 NB352_405; replace BK359 := zks hw BK359 NB359_405; replace BK367 := zks hw BK367 NB367_405; replace BK375 := zks hw BK375 NB375_405; replace BK385 := zks hw BK385 NB385_405; replace BK395 := zks hw BK395 NB395_405; replace BK405 : Aside0 (w76.heap[gb405]? = some (.cells #[.int .i64 t396, .int .i64 t397, .slice Ao75 t398.length co75] 24 (0, 0))) := ⟨(by rw [hw]; exact (by (with_reducible repeat (first | refine blk_drewN ?_ _ | refine blk_drew ?_ | refine blk_alloc ?_ _)); refine blk_put (cs := #[.int .i64 t396, .int .i64 t397, .slice none 0 0]) ?_ 2 _ rfl; (with_reducible repeat (first | refine blk_drewN ?_ _ | refine blk_drew ?_ | refine blk_alloc ?_ _)); refine blk_put (cs := #[.int .i64 t396, .int .i64 0, .slice none 0 0]) ?_ 1 _ rfl; (with_reducible repeat (first | refine blk_drewN ?_ _ | refine blk_drew ?_ | refine blk_alloc ?_ _)); refine blk_put (cs := #[.int .i64 0, .int .i64 0, .slice none 0 0]) ?_ 0 _ rfl; (with_reducible repeat (first | refine blk_drewN ?_ _ | refine blk_drew ?_ | refine blk_alloc ?_ _)); exact BK405.out))⟩; replace HB : Aside0 (Below w.heap.size w w76) := ⟨(by rw [hw]; exact (zc7 HB GE352 GE359 GE367 GE375 GE385 GE395 GE405))⟩; clear hw; have hcz77_0 : w76.cell? ⟨gb359, 0, none⟩ = some (.int .i64 t354) := (blk_cell BK359.out 0).trans rfl; have hcz77_1 : w76.cell? ⟨gb359, 1, none⟩ = some (.int .i64 t355) := (blk_cell BK359.out 1).trans rfl; have hcz77_2 : w76.cell? ⟨gb359, 2, none⟩ = some (.slice Ao25 t356.length co25) := (blk_cell BK359.out 2).trans rfl; have hfz77_0 := blk_frozen BK359.out 0; have hfz77_1 := blk_frozen BK359.out 1; have hfz77_2 := blk_frozen BK359.out 2) | ((with_reducible refine gate_callee (f := 16) rfl ?_); refine goesL_ (some 76) rfl rfl Try.func16 (by kernel_rfl) rfl #[.agg #[.int .i64 t354, .int .i64 t355, .slice Ao25 t356.length co25], .int .i64 a1] rfl zm ?_; (with_reducible refine (handshakerref18_Leave.calls k t354 t355 (fun k_ => some k_ = (.slice Ao25 t356.length co25 : Value).ownBlock) _ _ t356 a1 t406 t407 t408 t411 t414 _ ?side1 A15.out).mono ?_); (case side1 => exact Kd.R_V (Kd.R_tight rfl (Kd.R_types (Kd.R_types (Kd.R_types (Kd.R_types (Kd.R_types (Kd.R_types (Kd.R_types (Kd.R_apart' (Kd.R_apart' (HO358.out) (Kd.R_typed HO383.out) (by decide)) (Kd.R_typed HO403.out) (by decide)) BK352.out (by decide)) BK359.out (by decide)) BK367.out (by decide)) BK375.out (by decide)) BK385.out (by decide)) BK395.out (by decide)) BK405.out (by decide)))); rintro e w78 ⟨v409, v412, rfl, ho0, ho1, hb⟩; refine ⟨_, rfl, ?_⟩; replace HO364 := am (Kd.V_elder' (zV HO364) (Kd.R_base ho1) hb); replace HO372 := am (Kd.V_elder' (zV HO372) (Kd.R_base ho1) hb); replace HO380 := am (Kd.V_elder' (zV HO380) (Kd.R_base ho1) hb); replace HO390 := am (Kd.V_elder' (zV HO390) (Kd.R_base ho1) hb); replace HO400 := am (Kd.V_elder' (zV HO400) (Kd.R_base ho1) hb); have HO410 := am (Kd.V_lower (Kd.V_mono (ok' := fun k_ => some k_ ≠ (v412 : Value).ownBlock ∧ some k_ ≠ (v382 : Value).ownBlock ∧ some k_ ≠ (v392 : Value).ownBlock ∧ some k_ ≠ (v402 : Value).ownBlock ∧ k_ ≠ gb352 ∧ k_ ≠ gb359 ∧ k_ ≠ gb367 ∧ k_ ≠ gb375 ∧ k_ ≠ gb385 ∧ k_ ≠ gb395 ∧ k_ ≠ gb405) ho0 (fun k_ hk_ => ⟨hk_.2, Or.elim hk_.1 (fun hs_ => ((Kd.R_types (Kd.R_types (Kd.R_types (Kd.R_types (Kd.R_types (Kd.R_types (Kd.R_types (Kd.R_apart' (Kd.R_apart' (HO358.out) (Kd.R_typed HO383.out) (by decide)) (Kd.R_typed HO403.out) (by decide)) BK352.out (by decide)) BK359.out (by decide)) BK367.out (by decide)) BK375.out (by decide)) BK385.out (by decide)) BK395.out (by decide)) BK405.out (by decide)).1 k_ hs_.symm).1.1.1.1.1.1.1.1.2) (fun hn_ => (Kd.fresh' (Kd.R_lt (zR HO383)) k_ hn_)), Or.elim hk_.1 (fun hs_ => ((Kd.R_types (Kd.R_types (Kd.R_types (Kd.R_types (Kd.R_types (Kd.R_types (Kd.R_types (Kd.R_apart' (Kd.R_apart' (HO358.out) (Kd.R_typed HO383.out) (by decide)) (Kd.R_typed HO403.out) (by decide)) BK352.out (by decide)) BK359.out (by decide)) BK367.out (by decide)) BK375.out (by decide)) BK385.out (by decide)) BK395.out (by decide)) BK405.out (by decide)).1 k_ hs_.symm).1.1.1.1.1.1.1.1.1) (fun hn_ => (Kd.fresh' (Kd.R_lt (zR HO393)) k_ hn_)), Or.elim hk_.1 (fun hs_ => ((Kd.R_types (Kd.R_types (Kd.R_types (Kd.R_types (Kd.R_types (Kd.R_types (Kd.R_types (Kd.R_apart' (Kd.R_apart' (HO358.out) (Kd.R_typed HO383.out) (by decide)) (Kd.R_typed HO403.out) (by decide)) BK352.out (by decide)) BK359.out (by decide)) BK367.out (by decide)) BK375.out (by decide)) BK385.out (by decide)) BK395.out (by decide)) BK405.out (by decide)).1 k_ hs_.symm).1.1.1.1.1.1.1.2) (fun hn_ => (Kd.fresh' (Kd.R_lt (zR HO403)) k_ hn_)), Or.elim hk_.1 (fun hs_ => ((Kd.R_types (Kd.R_types (Kd.R_types (Kd.R_types (Kd.R_types (Kd.R_types (Kd.R_types (Kd.R_apart' (Kd.R_apart' (HO358.out) (Kd.R_typed HO383.out) (by decide)) (Kd.R_typed HO403.out) (by decide)) BK352.out (by decide)) BK359.out (by decide)) BK367.out (by decide)) BK375.out (by decide)) BK385.out (by decide)) BK395.out (by decide)) BK405.out (by decide)).1 k_ hs_.symm).1.1.1.1.1.1.2) (fun hn_ => (zfr gb352 BK352 hn_)), Or.elim hk_.1 (fun hs_ => ((Kd.R_types (Kd.R_types (Kd.R_types (Kd.R_types (Kd.R_types (Kd.R_types (Kd.R_types (Kd.R_apart' (Kd.R_apart' (HO358.out) (Kd.R_typed HO383.out) (by decide)) (Kd.R_typed HO403.out) (by decide)) BK352.out (by decide)) BK359.out (by decide)) BK367.out (by decide)) BK375.out (by decide)) BK385.out (by decide)) BK395.out (by decide)) BK405.out (by decide)).1 k_ hs_.symm).1.1.1.1.1.2) (fun hn_ => (zfr gb359 BK359 hn_)), Or.elim hk_.1 (fun hs_ => ((Kd.R_types (Kd.R_types (Kd.R_types (Kd.R_types (Kd.R_types (Kd.R_types (Kd.R_types (Kd.R_apart' (Kd.R_apart' (HO358.out) (Kd.R_typed HO383.out) (by decide)) (Kd.R_typed HO403.out) (by decide)) BK352.out (by decide)) BK359.out (by decide)) BK367.out (by decide)) BK375.out (by decide)) BK385.out (by decide)) BK395.out (by decide)) BK405.out (by decide)).1 k_ hs_.symm).1.1.1.1.2) (fun hn_ => (zfr gb367 BK367 hn_)), Or.elim hk_.1 (fun hs_ => ((Kd.R_types (Kd.R_types (Kd.R_types (Kd.R_types (Kd.R_types (Kd.R_types (Kd.R_types (Kd.R_apart' (Kd.R_apart' (HO358.out) (Kd.R_typed HO383.out) (by decide)) (Kd.R_typed HO403.out) (by decide)) BK352.out (by decide)) BK359.out (by decide)) BK367.out (by decide)) BK375.out (by decide)) BK385.out (by decide)) BK395.out (by decide)) BK405.out (by decide)).1 k_ hs_.symm).1.1.1.2) (fun hn_ => (zfr gb375 BK375 hn_)), Or.elim hk_.1 (fun hs_ => ((Kd.R_types (Kd.R_types (Kd.R_types (Kd.R_types (Kd.R_types (Kd.R_types (Kd.R_types (Kd.R_apart' (Kd.R_apart' (HO358.out) (Kd.R_typed HO383.out) (by decide)) (Kd.R_typed HO403.out) (by decide)) BK352.out (by decide)) BK359.out (by decide)) BK367.out (by decide)) BK375.out (by decide)) BK385.out (by decide)) BK395.out (by decide)) BK405.out (by decide)).1 k_ hs_.symm).1.1.2) (fun hn_ => (zfr gb385 BK385 hn_)), Or.elim hk_.1 (fun hs_ => ((Kd.R_types (Kd.R_types (Kd.R_types (Kd.R_types (Kd.R_types (Kd.R_types (Kd.R_types (Kd.R_apart' (Kd.R_apart' (HO358.out) (Kd.R_typed HO383.out) (by decide)) (Kd.R_typed HO403.out) (by decide)) BK352.out (by decide)) BK359.out (by decide)) BK367.out (by decide)) BK375.out (by decide)) BK385.out (by decide)) BK395.out (by decide)) BK405.out (by decide)).1 k_ hs_.symm).1.2) (fun hn_ => (zfr gb395 BK395 hn_)), Or.elim hk_.1 (fun hs_ => ((Kd.R_types (Kd.R_types (Kd.R_types (Kd.R_types (Kd.R_types (Kd.R_types (Kd.R_types (Kd.R_apart' (Kd.R_apart' (HO358.out) (Kd.R_typed HO383.out) (by decide)) (Kd.R_typed HO403.out) (by decide)) BK352.out (by decide)) BK359.out (by decide)) BK367.out (by decide)) BK375.out (by decide)) BK385.out (by decide)) BK395.out (by decide)) BK405.out (by decide)).1 k_ hs_.symm).2) (fun hn_ => (zfr gb405 BK405 hn_))⟩)) (below_size (zc7 HB GE352 GE359 GE367 GE375 GE385 GE395 GE405))); replace HO383 := zRb HO383 hb; replace HO403 := zRb HO403 hb; have HO413 := am (Kd.R_lower (Kd.R_new' (Kd.R_new' (Kd.R_mono (ok' := fun k_ => True) ho1 (fun _ hk_ => trivial)) (Kd.R_lt (zR HO358))) (Kd.R_lt (zR HO393))) (below_size (zc7 HB GE352 GE359 GE367 GE375 GE385 GE395 GE405))); replace HO358 := am (Kd.R_elder' (zR HO358) (Kd.R_base ho1) hb); replace HO393 := am (Kd.R_elder' (zR HO393) (Kd.R_base ho1) hb); replace BK352 := zbb BK352 hb; replace BK359 := zbb BK359 hb; replace BK367 := zbb BK367 hb; replace BK375 := zbb BK375 hb; replace BK385 := zbb BK385 hb; replace BK395 := zbb BK395 hb; replace BK405 := zbb BK405 hb; replace HB := am (below_step (zc7 HB GE352 GE359 GE367 GE375 GE385 GE395 GE405) hb); (try clear hb); (try clear hb2); (try clear hk); (try clear hi); (try clear ho0); (try clear ho1)) | ((with_reducible refine gate_dst (N := 23) rfl ?_); (try (refine gate_guard (by rfl) ?_; dsimp only)); refine box_event ?hg (N := 23) ?hd (cs := #[.int .i64 0, .int .i64 0, .slice none 0 0]) (t := 28) ?hr ?_; (case hd => rfl); (case hg => rfl); (case hr => first | (go_simp; done) | (go_simp; rfl)); intro gb415 hg w79 hbox hb; replace HO358 := zRb HO358 hb; replace HO364 := zVe HO364 hg hb; replace HO372 := zVe HO372 hg hb; replace HO380 := zVe HO380 hg hb; replace HO383 := zRb HO383 hb; replace HO390 := zVe HO390 hg hb; replace HO393 := zRb HO393 hb; replace HO400 := zVe HO400 hg hb; replace HO403 := zRb HO403 hb; replace HO410 := zVe HO410 hg hb; replace HO413 := zRb HO413 hb; have BK415 := am (hbox); have GW415 := zsz hg (zc7 HB GE352 GE359 GE367 GE375 GE385 GE395 GE405); have GE415 := zsz hg (zc7 HB GE352 GE359 GE367 GE375 GE385 GE395 GE405); replace HB := am (below_step (zc7 HB GE352 GE359 GE367 GE375 GE385 GE395 GE405) hb); have NB352_415 := znt BK352 hg; have NB415_352 := zng BK352 hg; replace BK352 := zbb BK352 hb; have NB359_415 := znt BK359 hg; have NB415_359 := zng BK359 hg; replace BK359 := zbb BK359 hb; have NB367_415 := znt BK367 hg; have NB415_367 := zng BK367 hg; replace BK367 := zbb BK367 hb; have NB375_415 := znt BK375 hg; have NB415_375 := zng BK375 hg; replace BK375 := zbb BK375 hb; have NB385_415 := znt BK385 hg; have NB415_385 := zng BK385 hg; replace BK385 := zbb BK385 hb; have NB395_415 := znt BK395 hg; have NB415_395 := zng BK395 hg; replace BK395 := zbb BK395 hb; have NB405_415 := znt BK405 hg; have NB415_405 := zng BK405 hg; replace BK405 := zbb BK405 hb; clear hb hbox hg; have hnb80 := NB415_352.out; have hnc80 := NB352_415.out; have hnb81 := NB415_359.out; have hnc81 := NB359_415.out; have hnb82 := NB415_367.out; have hnc82 := NB367_415.out; have hnb83 := NB415_375.out; have hnc83 := NB375_415.out; have hnb84 := NB415_385.out; have hnc84 := NB385_415.out; have hnb85 := NB415_395.out; have hnc85 := NB395_415.out; have hnb86 := NB415_405.out; have hnc86 := NB405_415.out; have hcz87_0 : w79.cell? ⟨gb415, 0, none⟩ = some (.int .i64 0) := (blk_cell BK415.out 0).trans rfl; have hcz87_1 : w79.cell? ⟨gb415, 1, none⟩ = some (.int .i64 0) := (blk_cell BK415.out 1).trans rfl; have hcz87_2 : w79.cell? ⟨gb415, 2, none⟩ = some (.slice none 0 0) := (blk_cell BK415.out 2).trans rfl; have hfz87_0 := blk_frozen BK415.out 0; have hfz87_1 := blk_frozen BK415.out 1; have hfz87_2 := blk_frozen BK415.out 2; obtain ⟨Ao88, co88, eo88⟩ := Kd.V_slice HO410.out; subst eo88) | ((with_reducible refine gate_callee (f := 17) rfl ?_); refine goesL_ (some 83) rfl rfl Try.func17 (by kernel_rfl) rfl #[.int .i64 a1, .int .i64 a2] rfl zm ?_; (with_reducible refine (sema_New.calls k a1 a2 t416 t417 t418 t421 _ A16.out).mono ?_); rintro e w89 ⟨v419, rfl, ho0, hb⟩; refine ⟨_, rfl, ?_⟩; replace HO358 := am (Kd.R_below (by (with_reducible repeat (first | apply Kd.R_alloc | apply Kd.R_drewN | apply Kd.R_drew)); exact (Kd.R_mono (Kd.R_far (p := ⟨gb415, 2, none⟩) (Kd.R_far (p := ⟨gb415, 1, none⟩) (Kd.R_far (p := ⟨gb415, 0, none⟩) (Kd.R_types HO358.out BK415.out (by decide)) (fun _ hk => hk.2) (.int .i64 t406)) (fun _ hk => hk.2) (.int .i64 t407)) (fun _ hk => hk.2) (.slice Ao88 t408.length co88)) (fun _ h_ => h_.1))) hb); replace HO364 := am (Kd.V_elder' (by (with_reducible repeat (first | apply Kd.V_alloc | apply Kd.V_drewN | apply Kd.V_drew)); exact (Kd.V_mono (Kd.V_far (p := ⟨gb415, 2, none⟩) (Kd.V_far (p := ⟨gb415, 1, none⟩) (Kd.V_far (p := ⟨gb415, 0, none⟩) (Kd.V_mono HO364.out (fun k_ hk => (⟨hk, hk.2⟩ : _ ∧ k_ ≠ gb415))) (fun _ hk => hk.2) (.int .i64 t406)) (fun _ hk => hk.2) (.int .i64 t407)) (fun _ hk => hk.2) (.slice Ao88 t408.length co88)) (fun _ h_ => h_.1))) (Kd.R_base ho0) hb); replace HO372 := am (Kd.V_elder' (by (with_reducible repeat (first | apply Kd.V_alloc | apply Kd.V_drewN | apply Kd.V_drew)); exact (Kd.V_mono (Kd.V_far (p := ⟨gb415, 2, none⟩) (Kd.V_far (p := ⟨gb415, 1, none⟩) (Kd.V_far (p := ⟨gb415, 0, none⟩) (Kd.V_mono HO372.out (fun k_ hk => (⟨hk, hk.2⟩ : _ ∧ k_ ≠ gb415))) (fun _ hk => hk.2) (.int .i64 t406)) (fun _ hk => hk.2) (.int .i64 t407)) (fun _ hk => hk.2) (.slice Ao88 t408.length co88)) (fun _ h_ => h_.1))) (Kd.R_base ho0) hb); replace HO380 := am (Kd.V_elder' (by (with_reducible repeat (first | apply Kd.V_alloc | apply Kd.V_drewN | apply Kd.V_drew)); exact (Kd.V_mono (Kd.V_far (p := ⟨gb415, 2, none⟩) (Kd.V_far (p := ⟨gb415, 1, none⟩) (Kd.V_far (p := ⟨gb415, 0, none⟩) (Kd.V_mono HO380.out (fun k_ hk => (⟨hk, hk.2⟩ : _ ∧ k_ ≠ gb415))) (fun _ hk => hk.2) (.int .i64 t406)) (fun _ hk => hk.2) (.int .i64 t407)) (fun _ hk => hk.2) (.slice Ao88 t408.length co88)) (fun _ h_ => h_.1))) (Kd.R_base ho0) hb); replace HO390 := am (Kd.V_elder' (by (with_reducible repeat (first | apply Kd.V_alloc | apply Kd.V_drewN | apply Kd.V_drew)); exact (Kd.V_mono (Kd.V_far (p := ⟨gb415, 2, none⟩) (Kd.V_far (p := ⟨gb415, 1, none⟩) (Kd.V_far (p := ⟨gb415, 0, none⟩) (Kd.V_mono HO390.out (fun k_ hk => (⟨hk, hk.2⟩ : _ ∧ k_ ≠ gb415))) (fun _ hk => hk.2) (.int .i64 t406)) (fun _ hk => hk.2) (.int .i64 t407)) (fun _ hk => hk.2) (.slice Ao88 t408.length co88)) (fun _ h_ => h_.1))) (Kd.R_base ho0) hb); replace HO393 := am (Kd.R_below (by (with_reducible repeat (first | apply Kd.R_alloc | apply Kd.R_drewN | apply Kd.R_drew)); exact (Kd.R_mono (Kd.R_far (p := ⟨gb415, 2, none⟩) (Kd.R_far (p := ⟨gb415, 1, none⟩) (Kd.R_far (p := ⟨gb415, 0, none⟩) (Kd.R_types HO393.out BK415.out (by decide)) (fun _ hk => hk.2) (.int .i64 t406)) (fun _ hk => hk.2) (.int .i64 t407)) (fun _ hk => hk.2) (.slice Ao88 t408.length co88)) (fun _ h_ => h_.1))) hb); replace HO400 := am (Kd.V_elder' (by (with_reducible repeat (first | apply Kd.V_alloc | apply Kd.V_drewN | apply Kd.V_drew)); exact (Kd.V_mono (Kd.V_far (p := ⟨gb415, 2, none⟩) (Kd.V_far (p := ⟨gb415, 1, none⟩) (Kd.V_far (p := ⟨gb415, 0, none⟩) (Kd.V_mono HO400.out (fun k_ hk => (⟨hk, hk.2⟩ : _ ∧ k_ ≠ gb415))) (fun _ hk => hk.2) (.int .i64 t406)) (fun _ hk => hk.2) (.int .i64 t407)) (fun _ hk => hk.2) (.slice Ao88 t408.length co88)) (fun _ h_ => h_.1))) (Kd.R_base ho0) hb); replace HO410 := am (Kd.V_elder' (by (with_reducible repeat (first | apply Kd.V_alloc | apply Kd.V_drewN | apply Kd.V_drew)); exact (Kd.V_mono (Kd.V_far (p := ⟨gb415, 2, none⟩) (Kd.V_far (p := ⟨gb415, 1, none⟩) (Kd.V_far (p := ⟨gb415, 0, none⟩) (Kd.V_mono HO410.out (fun k_ hk => (⟨hk, hk.2⟩ : _ ∧ k_ ≠ gb415))) (fun _ hk => hk.2) (.int .i64 t406)) (fun _ hk => hk.2) (.int .i64 t407)) (fun _ hk => hk.2) (.slice Ao88 t408.length co88)) (fun _ h_ => h_.1))) (Kd.R_base ho0) hb); replace HO413 := am (Kd.R_below (by (with_reducible repeat (first | apply Kd.R_alloc | apply Kd.R_drewN | apply Kd.R_drew)); exact (Kd.R_mono (Kd.R_far (p := ⟨gb415, 2, none⟩) (Kd.R_far (p := ⟨gb415, 1, none⟩) (Kd.R_far (p := ⟨gb415, 0, none⟩) (Kd.R_types HO413.out BK415.out (by decide)) (fun _ hk => hk.2) (.int .i64 t406)) (fun _ hk => hk.2) (.int .i64 t407)) (fun _ hk => hk.2) (.slice Ao88 t408.length co88)) (fun _ h_ => h_.1))) hb); have HO420 := am (Kd.R_lower (Kd.R_new' (Kd.R_new' ho0 (Kd.R_lt (by (with_reducible repeat (first | apply Kd.R_alloc | apply Kd.R_drewN | apply Kd.R_drew)); exact (Kd.R_mono (Kd.R_far (p := ⟨gb415, 2, none⟩) (Kd.R_far (p := ⟨gb415, 1, none⟩) (Kd.R_far (p := ⟨gb415, 0, none⟩) (Kd.R_types HO383.out BK415.out (by decide)) (fun _ hk => hk.2) (.int .i64 t406)) (fun _ hk => hk.2) (.int .i64 t407)) (fun _ hk => hk.2) (.slice Ao88 t408.length co88)) (fun _ h_ => h_.1))))) (Kd.R_lt (by (with_reducible repeat (first | apply Kd.R_alloc | apply Kd.R_drewN | apply Kd.R_drew)); exact (Kd.R_mono (Kd.R_far (p := ⟨gb415, 2, none⟩) (Kd.R_far (p := ⟨gb415, 1, none⟩) (Kd.R_far (p := ⟨gb415, 0, none⟩) (Kd.R_types HO403.out BK415.out (by decide)) (fun _ hk => hk.2) (.int .i64 t406)) (fun _ hk => hk.2) (.int .i64 t407)) (fun _ hk => hk.2) (.slice Ao88 t408.length co88)) (fun _ h_ => h_.1))))) (below_size (zc8 HB GE352 GE359 GE367 GE375 GE385 GE395 GE405 GE415))); replace HO383 := am (Kd.R_elder' (by (with_reducible repeat (first | apply Kd.R_alloc | apply Kd.R_drewN | apply Kd.R_drew)); exact (Kd.R_mono (Kd.R_far (p := ⟨gb415, 2, none⟩) (Kd.R_far (p := ⟨gb415, 1, none⟩) (Kd.R_far (p := ⟨gb415, 0, none⟩) (Kd.R_types HO383.out BK415.out (by decide)) (fun _ hk => hk.2) (.int .i64 t406)) (fun _ hk => hk.2) (.int .i64 t407)) (fun _ hk => hk.2) (.slice Ao88 t408.length co88)) (fun _ h_ => h_.1))) (Kd.R_base ho0) hb); replace HO403 := am (Kd.R_elder' (by (with_reducible repeat (first | apply Kd.R_alloc | apply Kd.R_drewN | apply Kd.R_drew)); exact (Kd.R_mono (Kd.R_far (p := ⟨gb415, 2, none⟩) (Kd.R_far (p := ⟨gb415, 1, none⟩) (Kd.R_far (p := ⟨gb415, 0, none⟩) (Kd.R_types HO403.out BK415.out (by decide)) (fun _ hk => hk.2) (.int .i64 t406)) (fun _ hk => hk.2) (.int .i64 t407)) (fun _ hk => hk.2) (.slice Ao88 t408.length co88)) (fun _ h_ => h_.1))) (Kd.R_base ho0) hb); replace BK352 := am (blk_below (g := gb352) (o := .cells #[.int .i64 a0_0, .int .i64 a0_1, .slice A0_2 l0_2.length c0_2] 24 (0, 0)) (by (with_reducible repeat (first | refine blk_drewN ?_ _ | refine blk_drew ?_ | refine blk_alloc ?_ _)); refine blk_far ?_ NB352_415.out _; (with_reducible repeat (first | refine blk_drewN ?_ _ | refine blk_drew ?_ | refine blk_alloc ?_ _)); refine blk_far ?_ NB352_415.out _; (with_reducible repeat (first | refine blk_drewN ?_ _ | refine blk_drew ?_ | refine blk_alloc ?_ _)); refine blk_far ?_ NB352_415.out _; (with_reducible repeat (first | refine blk_drewN ?_ _ | refine blk_drew ?_ | refine blk_alloc ?_ _)); exact BK352.out) hb); replace BK359 := am (blk_below (g := gb359) (o := .cells #[.int .i64 t354, .int .i64 t355, .slice Ao25 t356.length co25] 28 (0, 0)) (by (with_reducible repeat (first | refine blk_drewN ?_ _ | refine blk_drew ?_ | refine blk_alloc ?_ _)); refine blk_far ?_ NB359_415.out _; (with_reducible repeat (first | refine blk_drewN ?_ _ | refine blk_drew ?_ | refine blk_alloc ?_ _)); refine blk_far ?_ NB359_415.out _; (with_reducible repeat (first | refine blk_drewN ?_ _ | refine blk_drew ?_ | refine blk_alloc ?_ _)); refine blk_far ?_ NB359_415.out _; (with_reducible repeat (first | refine blk_drewN ?_ _ | refine blk_drew ?_ | refine blk_alloc ?_ _)); exact BK359.out) hb); replace BK367 := am (blk_below (g := gb367) (o := .cells #[.int .i64 t360, .int .i64 t361, .slice Ao33 t362.length co33] 24 (0, 0)) (by (with_reducible repeat (first | refine blk_drewN ?_ _ | refine blk_drew ?_ | refine blk_alloc ?_ _)); refine blk_far ?_ NB367_415.out _; (with_reducible repeat (first | refine blk_drewN ?_ _ | refine blk_drew ?_ | refine blk_alloc ?_ _)); refine blk_far ?_ NB367_415.out _; (with_reducible repeat (first | refine blk_drewN ?_ _ | refine blk_drew ?_ | refine blk_alloc ?_ _)); refine blk_far ?_ NB367_415.out _; (with_reducible repeat (first | refine blk_drewN ?_ _ | refine blk_drew ?_ | refine blk_alloc ?_ _)); exact BK367.out) hb); replace BK375 := am (blk_below (g := gb375) (o := .cells #[.int .i64 t368, .int .i64 t369, .slice Ao42 t370.length co42] 28 (0, 0)) (by (with_reducible repeat (first | refine blk_drewN ?_ _ | refine blk_drew ?_ | refine blk_alloc ?_ _)); refine blk_far ?_ NB375_415.out _; (with_reducible repeat (first | refine blk_drewN ?_ _ | refine blk_drew ?_ | refine blk_alloc ?_ _)); refine blk_far ?_ NB375_415.out _; (with_reducible repeat (first | refine blk_drewN ?_ _ | refine blk_drew ?_ | refine blk_alloc ?_ _)); refine blk_far ?_ NB375_415.out _; (with_reducible repeat (first | refine blk_drewN ?_ _ | refine blk_drew ?_ | refine blk_alloc ?_ _)); exact BK375.out) hb); replace BK385 := am (blk_below (g := gb385) (o := .cells #[.int .i64 t376, .int .i64 t377, .slice Ao52 t378.length co52] 24 (0, 0)) (by (with_reducible repeat (first | refine blk_drewN ?_ _ | refine blk_drew ?_ | refine blk_alloc ?_ _)); refine blk_far ?_ NB385_415.out _; (with_reducible repeat (first | refine blk_drewN ?_ _ | refine blk_drew ?_ | refine blk_alloc ?_ _)); refine blk_far ?_ NB385_415.out _; (with_reducible repeat (first | refine blk_drewN ?_ _ | refine blk_drew ?_ | refine blk_alloc ?_ _)); refine blk_far ?_ NB385_415.out _; (with_reducible repeat (first | refine blk_drewN ?_ _ | refine blk_drew ?_ | refine blk_alloc ?_ _)); exact BK385.out) hb); replace BK395 := am (blk_below (g := gb395) (o := .cells #[.int .i64 t386, .int .i64 t387, .slice Ao63 t388.length co63] 28 (0, 0)) (by (with_reducible repeat (first | refine blk_drewN ?_ _ | refine blk_drew ?_ | refine blk_alloc ?_ _)); refine blk_far ?_ NB395_415.out _; (with_reducible repeat (first | refine blk_drewN ?_ _ | refine blk_drew ?_ | refine blk_alloc ?_ _)); refine blk_far ?_ NB395_415.out _; (with_reducible repeat (first | refine blk_drewN ?_ _ | refine blk_drew ?_ | refine blk_alloc ?_ _)); refine blk_far ?_ NB395_415.out _; (with_reducible repeat (first | refine blk_drewN ?_ _ | refine blk_drew ?_ | refine blk_alloc ?_ _)); exact BK395.out) hb); replace BK405 := am (blk_below (g := gb405) (o := .cells #[.int .i64 t396, .int .i64 t397, .slice Ao75 t398.length co75] 24 (0, 0)) (by (with_reducible repeat (first | refine blk_drewN ?_ _ | refine blk_drew ?_ | refine blk_alloc ?_ _)); refine blk_far ?_ NB405_415.out _; (with_reducible repeat (first | refine blk_drewN ?_ _ | refine blk_drew ?_ | refine blk_alloc ?_ _)); refine blk_far ?_ NB405_415.out _; (with_reducible repeat (first | refine blk_drewN ?_ _ | refine blk_drew ?_ | refine blk_alloc ?_ _)); refine blk_far ?_ NB405_415.out _; (with_reducible repeat (first | refine blk_drewN ?_ _ | refine blk_drew ?_ | refine blk_alloc ?_ _)); exact BK405.out) hb); replace BK415 := am (blk_below (g := gb415) (o := .cells #[.int .i64 t406, .int .i64 t407, .slice Ao88 t408.length co88] 28 (0, 0)) (by (with_reducible repeat (first | refine blk_drewN ?_ _ | refine blk_drew ?_ | refine blk_alloc ?_ _)); refine blk_put (cs := #[.int .i64 t406, .int .i64 t407, .slice none 0 0]) ?_ 2 _ rfl; (with_reducible repeat (first | refine blk_drewN ?_ _ | refine blk_drew ?_ | refine blk_alloc ?_ _)); refine blk_put (cs := #[.int .i64 t406, .int .i64 0, .slice none 0 0]) ?_ 1 _ rfl; (with_reducible repeat (first | refine blk_drewN ?_ _ | refine blk_drew ?_ | refine blk_alloc ?_ _)); refine blk_put (cs := #[.int .i64 0, .int .i64 0, .slice none 0 0]) ?_ 0 _ rfl; (with_reducible repeat (first | refine blk_drewN ?_ _ | refine blk_drew ?_ | refine blk_alloc ?_ _)); exact BK415.out) hb); replace HB := am (below_step (zc8 HB GE352 GE359 GE367 GE375 GE385 GE395 GE405 GE415) hb); (try clear hb); (try clear hb2); (try clear hk); (try clear hi); (try clear ho0)) | ((with_reducible refine gate_dst (N := 26) rfl ?_); (try (refine gate_guard (by rfl) ?_; dsimp only)); refine box_event ?hg (N := 26) ?hd (cs := #[.int .i64 0, .int .i64 0, .slice none 0 0]) (t := 24) ?hr ?_; (case hd => rfl); (case hg => rfl); (case hr => first | (go_simp; done) | (go_simp; rfl)); intro gb422 hg w90 hbox hb; replace HO358 := zRb HO358 hb; replace HO364 := zVe HO364 hg hb; replace HO372 := zVe HO372 hg hb; replace HO380 := zVe HO380 hg hb; replace HO383 := zRb HO383 hb; replace HO390 := zVe HO390 hg hb; replace HO393 := zRb HO393 hb; replace HO400 := zVe HO400 hg hb; replace HO403 := zRb HO403 hb; replace HO410 := zVe HO410 hg hb; replace HO413 := zRb HO413 hb; replace HO420 := zRb HO420 hb; have BK422 := am (hbox); have GW422 := zsz hg (zc8 HB GE352 GE359 GE367 GE375 GE385 GE395 GE405 GE415); have GE422 := zsz hg (zc8 HB GE352 GE359 GE367 GE375 GE385 GE395 GE405 GE415); replace HB := am (below_step (zc8 HB GE352 GE359 GE367 GE375 GE385 GE395 GE405 GE415) hb); have NB352_422 := znt BK352 hg; have NB422_352 := zng BK352 hg; replace BK352 := zbb BK352 hb; have NB359_422 := znt BK359 hg; have NB422_359 := zng BK359 hg; replace BK359 := zbb BK359 hb; have NB367_422 := znt BK367 hg; have NB422_367 := zng BK367 hg; replace BK367 := zbb BK367 hb; have NB375_422 := znt BK375 hg; have NB422_375 := zng BK375 hg; replace BK375 := zbb BK375 hb; have NB385_422 := znt BK385 hg; have NB422_385 := zng BK385 hg; replace BK385 := zbb BK385 hb; have NB395_422 := znt BK395 hg; have NB422_395 := zng BK395 hg; replace BK395 := zbb BK395 hb; have NB405_422 := znt BK405 hg; have NB422_405 := zng BK405 hg; replace BK405 := zbb BK405 hb; have NB415_422 := znt BK415 hg; have NB422_415 := zng BK415 hg; replace BK415 := zbb BK415 hb; clear hb hbox hg; have hnb91 := NB422_352.out; have hnc91 := NB352_422.out; have hnb92 := NB422_359.out; have hnc92 := NB359_422.out; have hnb93 := NB422_367.out; have hnc93 := NB367_422.out; have hnb94 := NB422_375.out; have hnc94 := NB375_422.out; have hnb95 := NB422_385.out; have hnc95 := NB385_422.out; have hnb96 := NB422_395.out; have hnc96 := NB395_422.out; have hnb97 := NB422_405.out; have hnc97 := NB405_422.out; have hnb98 := NB422_415.out; have hnc98 := NB415_422.out; have hcz99_0 : w90.cell? ⟨gb422, 0, none⟩ = some (.int .i64 0) := (blk_cell BK422.out 0).trans rfl; have hcz99_1 : w90.cell? ⟨gb422, 1, none⟩ = some (.int .i64 0) := (blk_cell BK422.out 1).trans rfl; have hcz99_2 : w90.cell? ⟨gb422, 2, none⟩ = some (.slice none 0 0) := (blk_cell BK422.out 2).trans rfl; have hfz99_0 := blk_frozen BK422.out 0; have hfz99_1 := blk_frozen BK422.out 1; have hfz99_2 := blk_frozen BK422.out 2; obtain ⟨Ao100, co100, eo100⟩ := Kd.R_slice HO420.out; subst eo100) | ((with_reducible refine gate_callee (f := 18) rfl ?_); refine goesL_ (some 89) rfl rfl Try.func18 (by kernel_rfl) rfl #[.agg #[.int .i64 a1, .int .i64 a2, .slice none 0 0]] rfl zm ?_; (refine (handshakerref18_Right.calls k a1 a2 _ _ ([] : List (S61)) t423 _ ?side1 ?side2 A17.out).mono ?_); (case side1 => exact Kd.C_nil _ _); (case side2 => exact Nat.le_refl _); rintro e w101 ⟨rfl, hb⟩; refine ⟨_, rfl, ?_⟩; replace HO358 := am (Kd.R_below (by (with_reducible repeat (first | apply Kd.R_alloc | apply Kd.R_drewN | apply Kd.R_drew)); exact (Kd.R_mono (Kd.R_far (p := ⟨gb422, 2, none⟩) (Kd.R_far (p := ⟨gb422, 1, none⟩) (Kd.R_far (p := ⟨gb422, 0, none⟩) (Kd.R_types HO358.out BK422.out (by decide)) (fun _ hk => hk.2) (.int .i64 t416)) (fun _ hk => hk.2) (.int .i64 t417)) (fun _ hk => hk.2) (.slice Ao100 t418.length co100)) (fun _ h_ => h_.1))) hb); replace HO364 := am (Kd.V_below (by (with_reducible repeat (first | apply Kd.V_alloc | apply Kd.V_drewN | apply Kd.V_drew)); exact (Kd.V_mono (Kd.V_far (p := ⟨gb422, 2, none⟩) (Kd.V_far (p := ⟨gb422, 1, none⟩) (Kd.V_far (p := ⟨gb422, 0, none⟩) (Kd.V_mono HO364.out (fun k_ hk => (⟨hk, hk.2⟩ : _ ∧ k_ ≠ gb422))) (fun _ hk => hk.2) (.int .i64 t416)) (fun _ hk => hk.2) (.int .i64 t417)) (fun _ hk => hk.2) (.slice Ao100 t418.length co100)) (fun _ h_ => h_.1))) hb); replace HO372 := am (Kd.V_below (by (with_reducible repeat (first | apply Kd.V_alloc | apply Kd.V_drewN | apply Kd.V_drew)); exact (Kd.V_mono (Kd.V_far (p := ⟨gb422, 2, none⟩) (Kd.V_far (p := ⟨gb422, 1, none⟩) (Kd.V_far (p := ⟨gb422, 0, none⟩) (Kd.V_mono HO372.out (fun k_ hk => (⟨hk, hk.2⟩ : _ ∧ k_ ≠ gb422))) (fun _ hk => hk.2) (.int .i64 t416)) (fun _ hk => hk.2) (.int .i64 t417)) (fun _ hk => hk.2) (.slice Ao100 t418.length co100)) (fun _ h_ => h_.1))) hb); replace HO380 := am (Kd.V_below (by (with_reducible repeat (first | apply Kd.V_alloc | apply Kd.V_drewN | apply Kd.V_drew)); exact (Kd.V_mono (Kd.V_far (p := ⟨gb422, 2, none⟩) (Kd.V_far (p := ⟨gb422, 1, none⟩) (Kd.V_far (p := ⟨gb422, 0, none⟩) (Kd.V_mono HO380.out (fun k_ hk => (⟨hk, hk.2⟩ : _ ∧ k_ ≠ gb422))) (fun _ hk => hk.2) (.int .i64 t416)) (fun _ hk => hk.2) (.int .i64 t417)) (fun _ hk => hk.2) (.slice Ao100 t418.length co100)) (fun _ h_ => h_.1))) hb); replace HO383 := am (Kd.R_below (by (with_reducible repeat (first | apply Kd.R_alloc | apply Kd.R_drewN | apply Kd.R_drew)); exact (Kd.R_mono (Kd.R_far (p := ⟨gb422, 2, none⟩) (Kd.R_far (p := ⟨gb422, 1, none⟩) (Kd.R_far (p := ⟨gb422, 0, none⟩) (Kd.R_types HO383.out BK422.out (by decide)) (fun _ hk => hk.2) (.int .i64 t416)) (fun _ hk => hk.2) (.int .i64 t417)) (fun _ hk => hk.2) (.slice Ao100 t418.length co100)) (fun _ h_ => h_.1))) hb); replace HO390 := am (Kd.V_below (by (with_reducible repeat (first | apply Kd.V_alloc | apply Kd.V_drewN | apply Kd.V_drew)); exact (Kd.V_mono (Kd.V_far (p := ⟨gb422, 2, none⟩) (Kd.V_far (p := ⟨gb422, 1, none⟩) (Kd.V_far (p := ⟨gb422, 0, none⟩) (Kd.V_mono HO390.out (fun k_ hk => (⟨hk, hk.2⟩ : _ ∧ k_ ≠ gb422))) (fun _ hk => hk.2) (.int .i64 t416)) (fun _ hk => hk.2) (.int .i64 t417)) (fun _ hk => hk.2) (.slice Ao100 t418.length co100)) (fun _ h_ => h_.1))) hb); replace HO393 := am (Kd.R_below (by (with_reducible repeat (first | apply Kd.R_alloc | apply Kd.R_drewN | apply Kd.R_drew)); exact (Kd.R_mono (Kd.R_far (p := ⟨gb422, 2, none⟩) (Kd.R_far (p := ⟨gb422, 1, none⟩) (Kd.R_far (p := ⟨gb422, 0, none⟩) (Kd.R_types HO393.out BK422.out (by decide)) (fun _ hk => hk.2) (.int .i64 t416)) (fun _ hk => hk.2) (.int .i64 t417)) (fun _ hk => hk.2) (.slice Ao100 t418.length co100)) (fun _ h_ => h_.1))) hb); replace HO400 := am (Kd.V_below (by (with_reducible repeat (first | apply Kd.V_alloc | apply Kd.V_drewN | apply Kd.V_drew)); exact (Kd.V_mono (Kd.V_far (p := ⟨gb422, 2, none⟩) (Kd.V_far (p := ⟨gb422, 1, none⟩) (Kd.V_far (p := ⟨gb422, 0, none⟩) (Kd.V_mono HO400.out (fun k_ hk => (⟨hk, hk.2⟩ : _ ∧ k_ ≠ gb422))) (fun _ hk => hk.2) (.int .i64 t416)) (fun _ hk => hk.2) (.int .i64 t417)) (fun _ hk => hk.2) (.slice Ao100 t418.length co100)) (fun _ h_ => h_.1))) hb); replace HO403 := am (Kd.R_below (by (with_reducible repeat (first | apply Kd.R_alloc | apply Kd.R_drewN | apply Kd.R_drew)); exact (Kd.R_mono (Kd.R_far (p := ⟨gb422, 2, none⟩) (Kd.R_far (p := ⟨gb422, 1, none⟩) (Kd.R_far (p := ⟨gb422, 0, none⟩) (Kd.R_types HO403.out BK422.out (by decide)) (fun _ hk => hk.2) (.int .i64 t416)) (fun _ hk => hk.2) (.int .i64 t417)) (fun _ hk => hk.2) (.slice Ao100 t418.length co100)) (fun _ h_ => h_.1))) hb); replace HO410 := am (Kd.V_below (by (with_reducible repeat (first | apply Kd.V_alloc | apply Kd.V_drewN | apply Kd.V_drew)); exact (Kd.V_mono (Kd.V_far (p := ⟨gb422, 2, none⟩) (Kd.V_far (p := ⟨gb422, 1, none⟩) (Kd.V_far (p := ⟨gb422, 0, none⟩) (Kd.V_mono HO410.out (fun k_ hk => (⟨hk, hk.2⟩ : _ ∧ k_ ≠ gb422))) (fun _ hk => hk.2) (.int .i64 t416)) (fun _ hk => hk.2) (.int .i64 t417)) (fun _ hk => hk.2) (.slice Ao100 t418.length co100)) (fun _ h_ => h_.1))) hb); replace HO413 := am (Kd.R_below (by (with_reducible repeat (first | apply Kd.R_alloc | apply Kd.R_drewN | apply Kd.R_drew)); exact (Kd.R_mono (Kd.R_far (p := ⟨gb422, 2, none⟩) (Kd.R_far (p := ⟨gb422, 1, none⟩) (Kd.R_far (p := ⟨gb422, 0, none⟩) (Kd.R_types HO413.out BK422.out (by decide)) (fun _ hk => hk.2) (.int .i64 t416)) (fun _ hk => hk.2) (.int .i64 t417)) (fun _ hk => hk.2) (.slice Ao100 t418.length co100)) (fun _ h_ => h_.1))) hb); replace HO420 := am (Kd.R_below (by (with_reducible repeat (first | apply Kd.R_alloc | apply Kd.R_drewN | apply Kd.R_drew)); exact (Kd.R_mono (Kd.R_far (p := ⟨gb422, 2, none⟩) (Kd.R_far (p := ⟨gb422, 1, none⟩) (Kd.R_far (p := ⟨gb422, 0, none⟩) (Kd.R_types HO420.out BK422.out (by decide)) (fun _ hk => hk.2) (.int .i64 t416)) (fun _ hk => hk.2) (.int .i64 t417)) (fun _ hk => hk.2) (.slice Ao100 t418.length co100)) (fun _ h_ => h_.1))) hb); replace BK352 := am (blk_below (g := gb352) (o := .cells #[.int .i64 a0_0, .int .i64 a0_1, .slice A0_2 l0_2.length c0_2] 24 (0, 0)) (by (with_reducible repeat (first | refine blk_drewN ?_ _ | refine blk_drew ?_ | refine blk_alloc ?_ _)); refine blk_far ?_ NB352_422.out _; (with_reducible repeat (first | refine blk_drewN ?_ _ | refine blk_drew ?_ | refine blk_alloc ?_ _)); refine blk_far ?_ NB352_422.out _; (with_reducible repeat (first | refine blk_drewN ?_ _ | refine blk_drew ?_ | refine blk_alloc ?_ _)); refine blk_far ?_ NB352_422.out _; (with_reducible repeat (first | refine blk_drewN ?_ _ | refine blk_drew ?_ | refine blk_alloc ?_ _)); exact BK352.out) hb); replace BK359 := am (blk_below (g := gb359) (o := .cells #[.int .i64 t354, .int .i64 t355, .slice Ao25 t356.length co25] 28 (0, 0)) (by (with_reducible repeat (first | refine blk_drewN ?_ _ | refine blk_drew ?_ | refine blk_alloc ?_ _)); refine blk_far ?_ NB359_422.out _; (with_reducible repeat (first | refine blk_drewN ?_ _ | refine blk_drew ?_ | refine blk_alloc ?_ _)); refine blk_far ?_ NB359_422.out _; (with_reducible repeat (first | refine blk_drewN ?_ _ | refine blk_drew ?_ | refine blk_alloc ?_ _)); refine blk_far ?_ NB359_422.out _; (with_reducible repeat (first | refine blk_drewN ?_ _ | refine blk_drew ?_ | refine blk_alloc ?_ _)); exact BK359.out) hb); replace BK367 := am (blk_below (g := gb367) (o := .cells #[.int .i64 t360, .int .i64 t361, .slice Ao33 t362.length co33] 24 (0, 0)) (by (with_reducible repeat (first | refine blk_drewN ?_ _ | refine blk_drew ?_ | refine blk_alloc ?_ _)); refine blk_far ?_ NB367_422.out _; (with_reducible repeat (first | refine blk_drewN ?_ _ | refine blk_drew ?_ | refine blk_alloc ?_ _)); refine blk_far ?_ NB367_422.out _; (with_reducible repeat (first | refine blk_drewN ?_ _ | refine blk_drew ?_ | refine blk_alloc ?_ _)); refine blk_far ?_ NB367_422.out _; (with_reducible repeat (first | refine blk_drewN ?_ _ | refine blk_drew ?_ | refine blk_alloc ?_ _)); exact BK367.out) hb); replace BK375 := am (blk_below (g := gb375) (o := .cells #[.int .i64 t368, .int .i64 t369, .slice Ao42 t370.length co42] 28 (0, 0)) (by (with_reducible repeat (first | refine blk_drewN ?_ _ | refine blk_drew ?_ | refine blk_alloc ?_ _)); refine blk_far ?_ NB375_422.out _; (with_reducible repeat (first | refine blk_drewN ?_ _ | refine blk_drew ?_ | refine blk_alloc ?_ _)); refine blk_far ?_ NB375_422.out _; (with_reducible repeat (first | refine blk_drewN ?_ _ | refine blk_drew ?_ | refine blk_alloc ?_ _)); refine blk_far ?_ NB375_422.out _; (with_reducible repeat (first | refine blk_drewN ?_ _ | refine blk_drew ?_ | refine blk_alloc ?_ _)); exact BK375.out) hb); replace BK385 := am (blk_below (g := gb385) (o := .cells #[.int .i64 t376, .int .i64 t377, .slice Ao52 t378.length co52] 24 (0, 0)) (by (with_reducible repeat (first | refine blk_drewN ?_ _ | refine blk_drew ?_ | refine blk_alloc ?_ _)); refine blk_far ?_ NB385_422.out _; (with_reducible repeat (first | refine blk_drewN ?_ _ | refine blk_drew ?_ | refine blk_alloc ?_ _)); refine blk_far ?_ NB385_422.out _; (with_reducible repeat (first | refine blk_drewN ?_ _ | refine blk_drew ?_ | refine blk_alloc ?_ _)); refine blk_far ?_ NB385_422.out _; (with_reducible repeat (first | refine blk_drewN ?_ _ | refine blk_drew ?_ | refine blk_alloc ?_ _)); exact BK385.out) hb); replace BK395 := am (blk_below (g := gb395) (o := .cells #[.int .i64 t386, .int .i64 t387, .slice Ao63 t388.length co63] 28 (0, 0)) (by (with_reducible repeat (first | refine blk_drewN ?_ _ | refine blk_drew ?_ | refine blk_alloc ?_ _)); refine blk_far ?_ NB395_422.out _; (with_reducible repeat (first | refine blk_drewN ?_ _ | refine blk_drew ?_ | refine blk_alloc ?_ _)); refine blk_far ?_ NB395_422.out _; (with_reducible repeat (first | refine blk_drewN ?_ _ | refine blk_drew ?_ | refine blk_alloc ?_ _)); refine blk_far ?_ NB395_422.out _; (with_reducible repeat (first | refine blk_drewN ?_ _ | refine blk_drew ?_ | refine blk_alloc ?_ _)); exact BK395.out) hb); replace BK405 := am (blk_below (g := gb405) (o := .cells #[.int .i64 t396, .int .i64 t397, .slice Ao75 t398.length co75] 24 (0, 0)) (by (with_reducible repeat (first | refine blk_drewN ?_ _ | refine blk_drew ?_ | refine blk_alloc ?_ _)); refine blk_far ?_ NB405_422.out _; (with_reducible repeat (first | refine blk_drewN ?_ _ | refine blk_drew ?_ | refine blk_alloc ?_ _)); refine blk_far ?_ NB405_422.out _; (with_reducible repeat (first | refine blk_drewN ?_ _ | refine blk_drew ?_ | refine blk_alloc ?_ _)); refine blk_far ?_ NB405_422.out _; (with_reducible repeat (first | refine blk_drewN ?_ _ | refine blk_drew ?_ | refine blk_alloc ?_ _)); exact BK405.out) hb); replace BK415 := am (blk_below (g := gb415) (o := .cells #[.int .i64 t406, .int .i64 t407, .slice Ao88 t408.length co88] 28 (0, 0)) (by (with_reducible repeat (first | refine blk_drewN ?_ _ | refine blk_drew ?_ | refine blk_alloc ?_ _)); refine blk_far ?_ NB415_422.out _; (with_reducible repeat (first | refine blk_drewN ?_ _ | refine blk_drew ?_ | refine blk_alloc ?_ _)); refine blk_far ?_ NB415_422.out _; (with_reducible repeat (first | refine blk_drewN ?_ _ | refine blk_drew ?_ | refine blk_alloc ?_ _)); refine blk_far ?_ NB415_422.out _; (with_reducible repeat (first | refine blk_drewN ?_ _ | refine blk_drew ?_ | refine blk_alloc ?_ _)); exact BK415.out) hb); replace BK422 := am (blk_below (g := gb422) (o := .cells #[.int .i64 t416, .int .i64 t417, .slice Ao100 t418.length co100] 24 (0, 0)) (by (with_reducible repeat (first | refine blk_drewN ?_ _ | refine blk_drew ?_ | refine blk_alloc ?_ _)); refine blk_put (cs := #[.int .i64 t416, .int .i64 t417, .slice none 0 0]) ?_ 2 _ rfl; (with_reducible repeat (first | refine blk_drewN ?_ _ | refine blk_drew ?_ | refine blk_alloc ?_ _)); refine blk_put (cs := #[.int .i64 t416, .int .i64 0, .slice none 0 0]) ?_ 1 _ rfl; (with_reducible repeat (first | refine blk_drewN ?_ _ | refine blk_drew ?_ | refine blk_alloc ?_ _)); refine blk_put (cs := #[.int .i64 0, .int .i64 0, .slice none 0 0]) ?_ 0 _ rfl; (with_reducible repeat (first | refine blk_drewN ?_ _ | refine blk_drew ?_ | refine blk_alloc ?_ _)); exact BK422.out) hb); replace HB := am (below_step (by repeat (first | (with_reducible first | exact HB.out | apply below_alloc | apply pw_below_drewN | apply below_drew1 | refine below_set ?_ GE352.out | refine below_set ?_ GE359.out | refine below_set ?_ GE367.out | refine below_set ?_ GE375.out | refine below_set ?_ GE385.out | refine below_set ?_ GE395.out | refine below_set ?_ GE405.out | refine below_set ?_ GE415.out | refine below_set ?_ GE422.out) | exact HB.out)) hb); (try clear hb); (try clear hb2); (try clear hk); (try clear hi)))
  (try simp only [Act.put, List.setIfInBounds_toArray, List.set_cons_zero, List.set_cons_succ])
  go_cut [122] (fun v122 wc => ∃ (kq : Nat) (x122_17 : Bool), v122 = .bool x122_17 ∧ Aside0 (handshakerlaw18_SemaTells.j0 kq t365 t366 t373 t374 t381 t384 t391 t394 t401 t404 t411 t414 x122_17 a0_0 a0_1 l0_2 t354 t355 t356 t360 t361 t362 t368 t369 t370 t376 t377 t378 t386 t387 t388 t396 t397 t398 t406 t407 t408 = some r) ∧ Aside0 (kq ≤ k) ∧ Aside0 (Kd.R k50 50 wc w.heap.size (fun k_ => some k_ ≠ (v402 : Value).ownBlock ∧ some k_ ≠ ((.slice Ao100 t418.length co100) : Value).ownBlock) v382 t381) ∧ Aside0 (Kd.R k61 61 wc w.heap.size (fun k_ => some k_ ≠ (v412 : Value).ownBlock ∧ some k_ ≠ ((.slice Ao25 t356.length co25) : Value).ownBlock) v392 t391) ∧ Aside0 (Kd.R k50 50 wc w.heap.size (fun k_ => some k_ ≠ (v382 : Value).ownBlock ∧ some k_ ≠ ((.slice Ao100 t418.length co100) : Value).ownBlock) v402 t401) ∧ Aside0 (Kd.R k61 61 wc w.heap.size (fun k_ => some k_ ≠ (v392 : Value).ownBlock ∧ some k_ ≠ ((.slice Ao25 t356.length co25) : Value).ownBlock) v412 t411) ∧ Aside0 (Kd.R k61 61 wc w.heap.size (fun k_ => some k_ ≠ (v392 : Value).ownBlock ∧ some k_ ≠ (v412 : Value).ownBlock) (.slice Ao25 t356.length co25) t356) ∧ Aside0 (Kd.V k50 50 wc w.heap.size (fun k_ => some k_ ≠ (v382 : Value).ownBlock ∧ some k_ ≠ (v392 : Value).ownBlock ∧ some k_ ≠ (v402 : Value).ownBlock ∧ some k_ ≠ (v412 : Value).ownBlock ∧ some k_ ≠ ((.slice Ao25 t356.length co25) : Value).ownBlock ∧ some k_ ≠ ((.slice Ao100 t418.length co100) : Value).ownBlock ∧ k_ ≠ gb352 ∧ k_ ≠ gb359 ∧ k_ ≠ gb367 ∧ k_ ≠ gb375 ∧ k_ ≠ gb385 ∧ k_ ≠ gb395 ∧ k_ ≠ gb405 ∧ k_ ≠ gb415 ∧ k_ ≠ gb422) (.slice Ao33 t362.length co33) t362) ∧ Aside0 (Kd.V k61 61 wc w.heap.size (fun k_ => some k_ ≠ (v382 : Value).ownBlock ∧ some k_ ≠ (v392 : Value).ownBlock ∧ some k_ ≠ (v402 : Value).ownBlock ∧ some k_ ≠ (v412 : Value).ownBlock ∧ some k_ ≠ ((.slice Ao100 t418.length co100) : Value).ownBlock ∧ k_ ≠ gb352 ∧ k_ ≠ gb359 ∧ k_ ≠ gb367 ∧ k_ ≠ gb375 ∧ k_ ≠ gb385 ∧ k_ ≠ gb395 ∧ k_ ≠ gb405 ∧ k_ ≠ gb415 ∧ k_ ≠ gb422) (.slice Ao42 t370.length co42) t370) ∧ Aside0 (Kd.V k50 50 wc w.heap.size (fun k_ => some k_ ≠ (v382 : Value).ownBlock ∧ some k_ ≠ (v392 : Value).ownBlock ∧ some k_ ≠ (v402 : Value).ownBlock ∧ some k_ ≠ (v412 : Value).ownBlock ∧ some k_ ≠ ((.slice Ao25 t356.length co25) : Value).ownBlock ∧ some k_ ≠ ((.slice Ao100 t418.length co100) : Value).ownBlock ∧ k_ ≠ gb352 ∧ k_ ≠ gb359 ∧ k_ ≠ gb367 ∧ k_ ≠ gb375 ∧ k_ ≠ gb385 ∧ k_ ≠ gb395 ∧ k_ ≠ gb405 ∧ k_ ≠ gb415 ∧ k_ ≠ gb422) (.slice Ao52 t378.length co52) t378) ∧ Aside0 (Kd.V k61 61 wc w.heap.size (fun k_ => some k_ ≠ (v382 : Value).ownBlock ∧ some k_ ≠ (v392 : Value).ownBlock ∧ some k_ ≠ (v402 : Value).ownBlock ∧ some k_ ≠ (v412 : Value).ownBlock ∧ some k_ ≠ ((.slice Ao100 t418.length co100) : Value).ownBlock ∧ k_ ≠ gb352 ∧ k_ ≠ gb359 ∧ k_ ≠ gb367 ∧ k_ ≠ gb375 ∧ k_ ≠ gb385 ∧ k_ ≠ gb395 ∧ k_ ≠ gb405 ∧ k_ ≠ gb415 ∧ k_ ≠ gb422) (.slice Ao63 t388.length co63) t388) ∧ Aside0 (Kd.V k50 50 wc w.heap.size (fun k_ => some k_ ≠ (v382 : Value).ownBlock ∧ some k_ ≠ (v392 : Value).ownBlock ∧ some k_ ≠ (v402 : Value).ownBlock ∧ some k_ ≠ (v412 : Value).ownBlock ∧ some k_ ≠ ((.slice Ao25 t356.length co25) : Value).ownBlock ∧ some k_ ≠ ((.slice Ao100 t418.length co100) : Value).ownBlock ∧ k_ ≠ gb352 ∧ k_ ≠ gb359 ∧ k_ ≠ gb367 ∧ k_ ≠ gb375 ∧ k_ ≠ gb385 ∧ k_ ≠ gb395 ∧ k_ ≠ gb405 ∧ k_ ≠ gb415 ∧ k_ ≠ gb422) (.slice Ao75 t398.length co75) t398) ∧ Aside0 (Kd.V k61 61 wc w.heap.size (fun k_ => some k_ ≠ (v382 : Value).ownBlock ∧ some k_ ≠ (v392 : Value).ownBlock ∧ some k_ ≠ (v402 : Value).ownBlock ∧ some k_ ≠ (v412 : Value).ownBlock ∧ some k_ ≠ ((.slice Ao100 t418.length co100) : Value).ownBlock ∧ k_ ≠ gb352 ∧ k_ ≠ gb359 ∧ k_ ≠ gb367 ∧ k_ ≠ gb375 ∧ k_ ≠ gb385 ∧ k_ ≠ gb395 ∧ k_ ≠ gb405 ∧ k_ ≠ gb415 ∧ k_ ≠ gb422) (.slice Ao88 t408.length co88) t408) ∧ Aside0 (Kd.R k50 50 wc w.heap.size (fun k_ => some k_ ≠ (v382 : Value).ownBlock ∧ some k_ ≠ (v402 : Value).ownBlock) (.slice Ao100 t418.length co100) t418) ∧ Aside0 (wc.heap[gb352]? = some (.cells #[.int .i64 a0_0, .int .i64 a0_1, (.slice A0_2 l0_2.length c0_2)] 24 (0, 0))) ∧ Aside0 (wc.heap[gb359]? = some (.cells #[.int .i64 t354, .int .i64 t355, (.slice Ao25 t356.length co25)] 28 (0, 0))) ∧ Aside0 (wc.heap[gb367]? = some (.cells #[.int .i64 t360, .int .i64 t361, (.slice Ao33 t362.length co33)] 24 (0, 0))) ∧ Aside0 (wc.heap[gb375]? = some (.cells #[.int .i64 t368, .int .i64 t369, (.slice Ao42 t370.length co42)] 28 (0, 0))) ∧ Aside0 (wc.heap[gb385]? = some (.cells #[.int .i64 t376, .int .i64 t377, (.slice Ao52 t378.length co52)] 24 (0, 0))) ∧ Aside0 (wc.heap[gb395]? = some (.cells #[.int .i64 t386, .int .i64 t387, (.slice Ao63 t388.length co63)] 28 (0, 0))) ∧ Aside0 (wc.heap[gb405]? = some (.cells #[.int .i64 t396, .int .i64 t397, (.slice Ao75 t398.length co75)] 24 (0, 0))) ∧ Aside0 (wc.heap[gb415]? = some (.cells #[.int .i64 t406, .int .i64 t407, (.slice Ao88 t408.length co88)] 28 (0, 0))) ∧ Aside0 (wc.heap[gb422]? = some (.cells #[.int .i64 t416, .int .i64 t417, (.slice Ao100 t418.length co100)] 24 (0, 0))) ∧ Aside0 (Below w.heap.size w wc))
  case first =>
   have H := HC18.out
   clear HC18
   by_cases c102 : t421 = 0
   ·rw [if_pos c102] at H
    have c102b0 : (t421 == 0) = true := beq_iff_eq.mpr c102
    have c102b1 : (t421 != 0) = false := bne_eq_false_iff_eq.mpr c102
    clear c102
    (first | rw [c102b0] | (simp only [i64_w, i32_w]; rw [c102b0]) | skip)
    by_cases c103 : t423 = true
    ·subst c103
     have H1 : (if t416 = a1 then (if t417 = a2 then (if (t418.length : Int) = 0 then (handshakerlaw18_SemaTells.j0 k t365 t366 t373 t374 t381 t384 t391 t394 t401 t404 t411 t414 false a0_0 a0_1 l0_2 t354 t355 t356 t360 t361 t362 t368 t369 t370 t376 t377 t378 t386 t387 t388 t396 t397 t398 t406 t407 t408) else (none)) else (none)) else (none)) = some r := by rw [if_pos rfl] at H; exact H
     clear H
     have H := H1
     clear H1
     by_cases c104 : t416 = a1
     ·rw [if_pos c104] at H
      have c104b0 : (t416 == a1) = true := beq_iff_eq.mpr c104
      have c104b1 : (t416 != a1) = false := bne_eq_false_iff_eq.mpr c104
      clear c104
      by_cases c105 : t417 = a2
      ·rw [if_pos c105] at H
       have c105b0 : (t417 == a2) = true := beq_iff_eq.mpr c105
       have c105b1 : (t417 != a2) = false := bne_eq_false_iff_eq.mpr c105
       clear c105
       by_cases c106 : (t418.length : Int) = 0
       ·rw [if_pos c106] at H
        have c106b0 : ((t418.length : Int) == 0) = true := beq_iff_eq.mpr c106
        have c106b1 : ((t418.length : Int) != 0) = false := bne_eq_false_iff_eq.mpr c106
        clear c106
        have H' := am H
        clear H
        have hnb107 := NB422_352.out
        have hnc107 := NB352_422.out
        have hnb108 := NB422_359.out
        have hnc108 := NB359_422.out
        have hnb109 := NB422_367.out
        have hnc109 := NB367_422.out
        have hnb110 := NB422_375.out
        have hnc110 := NB375_422.out
        have hnb111 := NB422_385.out
        have hnc111 := NB385_422.out
        have hnb112 := NB422_395.out
        have hnc112 := NB395_422.out
        have hnb113 := NB422_405.out
        have hnc113 := NB405_422.out
        have hnb114 := NB422_415.out
        have hnc114 := NB415_422.out
        have hcz115_0 : w101.cell? ⟨gb422, 0, none⟩ = some (.int .i64 t416) := (blk_cell BK422.out 0).trans rfl
        have hcz115_1 : w101.cell? ⟨gb422, 1, none⟩ = some (.int .i64 t417) := (blk_cell BK422.out 1).trans rfl
        have hcz115_2 : w101.cell? ⟨gb422, 2, none⟩ = some (.slice Ao100 t418.length co100) := (blk_cell BK422.out 2).trans rfl
        have hfz115_0 := blk_frozen BK422.out 0
        have hfz115_1 := blk_frozen BK422.out 1
        have hfz115_2 := blk_frozen BK422.out 2
        go_wp2
        go_meet
        case rel => exact ⟨_, (false), (by first | rfl | (simp; done) | (simp [*]; done)), H', ⟨by first | omega | exact Nat.le_refl _⟩, ⟨by (with_reducible repeat (first | apply Kd.R_alloc | apply Kd.R_drewN | apply Kd.R_drew)); exact HO383.out⟩, ⟨by (with_reducible repeat (first | apply Kd.R_alloc | apply Kd.R_drewN | apply Kd.R_drew)); exact Kd.R_mono HO393.out (fun _ hk => ⟨hk.2, hk.1⟩)⟩, ⟨by (with_reducible repeat (first | apply Kd.R_alloc | apply Kd.R_drewN | apply Kd.R_drew)); exact HO403.out⟩, ⟨by (with_reducible repeat (first | apply Kd.R_alloc | apply Kd.R_drewN | apply Kd.R_drew)); exact Kd.R_mono HO413.out (fun _ hk => ⟨hk.2, hk.1.2⟩)⟩, ⟨by (with_reducible repeat (first | apply Kd.R_alloc | apply Kd.R_drewN | apply Kd.R_drew)); exact HO358.out⟩, ⟨by (with_reducible repeat (first | apply Kd.V_alloc | apply Kd.V_drewN | apply Kd.V_drew)); exact Kd.V_mono HO364.out (fun _ hk => ⟨hk.1.1.1.1.2.1, ⟨hk.1.1.1.1.2.2.1, ⟨hk.1.1.1.1.2.2.2.1, ⟨hk.1.1.1.2, ⟨hk.1.1.1.1.1, ⟨hk.1.2, ⟨hk.1.1.1.1.2.2.2.2.1, ⟨hk.1.1.1.1.2.2.2.2.2.1, ⟨hk.1.1.1.1.2.2.2.2.2.2.1, ⟨hk.1.1.1.1.2.2.2.2.2.2.2.1, ⟨hk.1.1.1.1.2.2.2.2.2.2.2.2.1, ⟨hk.1.1.1.1.2.2.2.2.2.2.2.2.2.1, ⟨hk.1.1.1.1.2.2.2.2.2.2.2.2.2.2, ⟨hk.1.1.2, hk.2⟩⟩⟩⟩⟩⟩⟩⟩⟩⟩⟩⟩⟩⟩)⟩, ⟨by (with_reducible repeat (first | apply Kd.V_alloc | apply Kd.V_drewN | apply Kd.V_drew)); exact Kd.V_mono HO372.out (fun _ hk => ⟨hk.1.1.1.1.1, ⟨hk.1.1.1.1.2.1, ⟨hk.1.1.1.1.2.2.1, ⟨hk.1.1.1.2, ⟨hk.1.2, ⟨hk.1.1.1.1.2.2.2.1, ⟨hk.1.1.1.1.2.2.2.2.1, ⟨hk.1.1.1.1.2.2.2.2.2.1, ⟨hk.1.1.1.1.2.2.2.2.2.2.1, ⟨hk.1.1.1.1.2.2.2.2.2.2.2.1, ⟨hk.1.1.1.1.2.2.2.2.2.2.2.2.1, ⟨hk.1.1.1.1.2.2.2.2.2.2.2.2.2, ⟨hk.1.1.2, hk.2⟩⟩⟩⟩⟩⟩⟩⟩⟩⟩⟩⟩⟩)⟩, ⟨by (with_reducible repeat (first | apply Kd.V_alloc | apply Kd.V_drewN | apply Kd.V_drew)); exact Kd.V_mono HO380.out (fun _ hk => ⟨hk.1.1.1.1.2.1, ⟨hk.1.1.1.1.2.2.1, ⟨hk.1.1.1.1.2.2.2.1, ⟨hk.1.1.1.2, ⟨hk.1.1.1.1.1, ⟨hk.1.2, ⟨hk.1.1.1.1.2.2.2.2.1, ⟨hk.1.1.1.1.2.2.2.2.2.1, ⟨hk.1.1.1.1.2.2.2.2.2.2.1, ⟨hk.1.1.1.1.2.2.2.2.2.2.2.1, ⟨hk.1.1.1.1.2.2.2.2.2.2.2.2.1, ⟨hk.1.1.1.1.2.2.2.2.2.2.2.2.2.1, ⟨hk.1.1.1.1.2.2.2.2.2.2.2.2.2.2, ⟨hk.1.1.2, hk.2⟩⟩⟩⟩⟩⟩⟩⟩⟩⟩⟩⟩⟩⟩)⟩, ⟨by (with_reducible repeat (first | apply Kd.V_alloc | apply Kd.V_drewN | apply Kd.V_drew)); exact Kd.V_mono HO390.out (fun _ hk => ⟨hk.1.1.1.1.1, ⟨hk.1.1.1.1.2.1, ⟨hk.1.1.1.1.2.2.1, ⟨hk.1.1.1.2, ⟨hk.1.2, ⟨hk.1.1.1.1.2.2.2.1, ⟨hk.1.1.1.1.2.2.2.2.1, ⟨hk.1.1.1.1.2.2.2.2.2.1, ⟨hk.1.1.1.1.2.2.2.2.2.2.1, ⟨hk.1.1.1.1.2.2.2.2.2.2.2.1, ⟨hk.1.1.1.1.2.2.2.2.2.2.2.2.1, ⟨hk.1.1.1.1.2.2.2.2.2.2.2.2.2, ⟨hk.1.1.2, hk.2⟩⟩⟩⟩⟩⟩⟩⟩⟩⟩⟩⟩⟩)⟩, ⟨by (with_reducible repeat (first | apply Kd.V_alloc | apply Kd.V_drewN | apply Kd.V_drew)); exact Kd.V_mono HO400.out (fun _ hk => ⟨hk.1.1.1.1.2.1, ⟨hk.1.1.1.1.2.2.1, ⟨hk.1.1.1.1.2.2.2.1, ⟨hk.1.1.1.2, ⟨hk.1.1.1.1.1, ⟨hk.1.2, ⟨hk.1.1.1.1.2.2.2.2.1, ⟨hk.1.1.1.1.2.2.2.2.2.1, ⟨hk.1.1.1.1.2.2.2.2.2.2.1, ⟨hk.1.1.1.1.2.2.2.2.2.2.2.1, ⟨hk.1.1.1.1.2.2.2.2.2.2.2.2.1, ⟨hk.1.1.1.1.2.2.2.2.2.2.2.2.2.1, ⟨hk.1.1.1.1.2.2.2.2.2.2.2.2.2.2, ⟨hk.1.1.2, hk.2⟩⟩⟩⟩⟩⟩⟩⟩⟩⟩⟩⟩⟩⟩)⟩, ⟨by (with_reducible repeat (first | apply Kd.V_alloc | apply Kd.V_drewN | apply Kd.V_drew)); exact Kd.V_mono HO410.out (fun _ hk => ⟨hk.1.1.1.2.1, ⟨hk.1.1.1.2.2.1, ⟨hk.1.1.1.2.2.2.1, ⟨hk.1.1.1.1, ⟨hk.1.2, ⟨hk.1.1.1.2.2.2.2.1, ⟨hk.1.1.1.2.2.2.2.2.1, ⟨hk.1.1.1.2.2.2.2.2.2.1, ⟨hk.1.1.1.2.2.2.2.2.2.2.1, ⟨hk.1.1.1.2.2.2.2.2.2.2.2.1, ⟨hk.1.1.1.2.2.2.2.2.2.2.2.2.1, ⟨hk.1.1.1.2.2.2.2.2.2.2.2.2.2, ⟨hk.1.1.2, hk.2⟩⟩⟩⟩⟩⟩⟩⟩⟩⟩⟩⟩⟩)⟩, ⟨by (with_reducible repeat (first | apply Kd.R_alloc | apply Kd.R_drewN | apply Kd.R_drew)); exact Kd.R_mono HO420.out (fun _ hk => ⟨hk.1.2, hk.2⟩)⟩, ⟨by (with_reducible repeat (first | refine blk_drewN ?_ _ | refine blk_drew ?_ | refine blk_alloc ?_ _)); exact BK352.out⟩, ⟨by (with_reducible repeat (first | refine blk_drewN ?_ _ | refine blk_drew ?_ | refine blk_alloc ?_ _)); exact BK359.out⟩, ⟨by (with_reducible repeat (first | refine blk_drewN ?_ _ | refine blk_drew ?_ | refine blk_alloc ?_ _)); exact BK367.out⟩, ⟨by (with_reducible repeat (first | refine blk_drewN ?_ _ | refine blk_drew ?_ | refine blk_alloc ?_ _)); exact BK375.out⟩, ⟨by (with_reducible repeat (first | refine blk_drewN ?_ _ | refine blk_drew ?_ | refine blk_alloc ?_ _)); exact BK385.out⟩, ⟨by (with_reducible repeat (first | refine blk_drewN ?_ _ | refine blk_drew ?_ | refine blk_alloc ?_ _)); exact BK395.out⟩, ⟨by (with_reducible repeat (first | refine blk_drewN ?_ _ | refine blk_drew ?_ | refine blk_alloc ?_ _)); exact BK405.out⟩, ⟨by (with_reducible repeat (first | refine blk_drewN ?_ _ | refine blk_drew ?_ | refine blk_alloc ?_ _)); exact BK415.out⟩, ⟨by (with_reducible repeat (first | refine blk_drewN ?_ _ | refine blk_drew ?_ | refine blk_alloc ?_ _)); exact BK422.out⟩, ⟨by repeat (first | (with_reducible first | exact HB.out | apply below_alloc | apply pw_below_drewN | apply below_drew1 | refine below_set ?_ GE352.out | refine below_set ?_ GE359.out | refine below_set ?_ GE367.out | refine below_set ?_ GE375.out | refine below_set ?_ GE385.out | refine below_set ?_ GE395.out | refine below_set ?_ GE405.out | refine below_set ?_ GE415.out | refine below_set ?_ GE422.out) | exact HB.out)⟩⟩
       ·rw [if_neg c106] at H
        exact absurd H (by simp)
      ·rw [if_neg c105] at H
       exact absurd H (by simp)
     ·rw [if_neg c104] at H
      exact absurd H (by simp)
    ·replace c103 := Bool.eq_false_iff.mpr c103
     subst c103
     have H1 : (none) = some r := by rw [if_neg (show ¬ (false = true) by decide)] at H; exact H
     clear H
     have H := H1
     clear H1
     exact absurd H (by simp)
   ·rw [if_neg c102] at H
    have c102b0 : (t421 == 0) = false := beq_eq_false_iff_ne.mpr c102
    have c102b1 : (t421 != 0) = true := bne_iff_ne.mpr c102
    (first | rw [c102b0] | (simp only [i64_w, i32_w]; rw [c102b0]) | skip)
    by_cases c116 : t423 = true
    ·subst c116
     have H1 : (none) = some r := by rw [if_pos rfl] at H; exact H
     clear H
     have H := H1
     clear H1
     exact absurd H (by simp)
    ·replace c116 := Bool.eq_false_iff.mpr c116
     subst c116
     have H1 : (handshakerlaw18_SemaTells.j0 k t365 t366 t373 t374 t381 t384 t391 t394 t401 t404 t411 t414 (t421 != 1) a0_0 a0_1 l0_2 t354 t355 t356 t360 t361 t362 t368 t369 t370 t376 t377 t378 t386 t387 t388 t396 t397 t398 t406 t407 t408) = some r := by rw [if_neg (show ¬ (false = true) by decide)] at H; exact H
     clear H
     have H := H1
     clear H1
     have H' := am H
     clear H
     go_wp2
     go_meet
     case rel => exact ⟨_, ((t421 != 1)), (by first | rfl | (simp; done) | (simp [*]; done)), H', ⟨by first | omega | exact Nat.le_refl _⟩, ⟨by (with_reducible repeat (first | apply Kd.R_alloc | apply Kd.R_drewN | apply Kd.R_drew)); exact HO383.out⟩, ⟨by (with_reducible repeat (first | apply Kd.R_alloc | apply Kd.R_drewN | apply Kd.R_drew)); exact Kd.R_mono HO393.out (fun _ hk => ⟨hk.2, hk.1⟩)⟩, ⟨by (with_reducible repeat (first | apply Kd.R_alloc | apply Kd.R_drewN | apply Kd.R_drew)); exact HO403.out⟩, ⟨by (with_reducible repeat (first | apply Kd.R_alloc | apply Kd.R_drewN | apply Kd.R_drew)); exact Kd.R_mono HO413.out (fun _ hk => ⟨hk.2, hk.1.2⟩)⟩, ⟨by (with_reducible repeat (first | apply Kd.R_alloc | apply Kd.R_drewN | apply Kd.R_drew)); exact HO358.out⟩, ⟨by (with_reducible repeat (first | apply Kd.V_alloc | apply Kd.V_drewN | apply Kd.V_drew)); exact Kd.V_mono HO364.out (fun _ hk => ⟨hk.1.1.1.1.2.1, ⟨hk.1.1.1.1.2.2.1, ⟨hk.1.1.1.1.2.2.2.1, ⟨hk.1.1.1.2, ⟨hk.1.1.1.1.1, ⟨hk.1.2, ⟨hk.1.1.1.1.2.2.2.2.1, ⟨hk.1.1.1.1.2.2.2.2.2.1, ⟨hk.1.1.1.1.2.2.2.2.2.2.1, ⟨hk.1.1.1.1.2.2.2.2.2.2.2.1, ⟨hk.1.1.1.1.2.2.2.2.2.2.2.2.1, ⟨hk.1.1.1.1.2.2.2.2.2.2.2.2.2.1, ⟨hk.1.1.1.1.2.2.2.2.2.2.2.2.2.2, ⟨hk.1.1.2, hk.2⟩⟩⟩⟩⟩⟩⟩⟩⟩⟩⟩⟩⟩⟩)⟩, ⟨by (with_reducible repeat (first | apply Kd.V_alloc | apply Kd.V_drewN | apply Kd.V_drew)); exact Kd.V_mono HO372.out (fun _ hk => ⟨hk.1.1.1.1.1, ⟨hk.1.1.1.1.2.1, ⟨hk.1.1.1.1.2.2.1, ⟨hk.1.1.1.2, ⟨hk.1.2, ⟨hk.1.1.1.1.2.2.2.1, ⟨hk.1.1.1.1.2.2.2.2.1, ⟨hk.1.1.1.1.2.2.2.2.2.1, ⟨hk.1.1.1.1.2.2.2.2.2.2.1, ⟨hk.1.1.1.1.2.2.2.2.2.2.2.1, ⟨hk.1.1.1.1.2.2.2.2.2.2.2.2.1, ⟨hk.1.1.1.1.2.2.2.2.2.2.2.2.2, ⟨hk.1.1.2, hk.2⟩⟩⟩⟩⟩⟩⟩⟩⟩⟩⟩⟩⟩)⟩, ⟨by (with_reducible repeat (first | apply Kd.V_alloc | apply Kd.V_drewN | apply Kd.V_drew)); exact Kd.V_mono HO380.out (fun _ hk => ⟨hk.1.1.1.1.2.1, ⟨hk.1.1.1.1.2.2.1, ⟨hk.1.1.1.1.2.2.2.1, ⟨hk.1.1.1.2, ⟨hk.1.1.1.1.1, ⟨hk.1.2, ⟨hk.1.1.1.1.2.2.2.2.1, ⟨hk.1.1.1.1.2.2.2.2.2.1, ⟨hk.1.1.1.1.2.2.2.2.2.2.1, ⟨hk.1.1.1.1.2.2.2.2.2.2.2.1, ⟨hk.1.1.1.1.2.2.2.2.2.2.2.2.1, ⟨hk.1.1.1.1.2.2.2.2.2.2.2.2.2.1, ⟨hk.1.1.1.1.2.2.2.2.2.2.2.2.2.2, ⟨hk.1.1.2, hk.2⟩⟩⟩⟩⟩⟩⟩⟩⟩⟩⟩⟩⟩⟩)⟩, ⟨by (with_reducible repeat (first | apply Kd.V_alloc | apply Kd.V_drewN | apply Kd.V_drew)); exact Kd.V_mono HO390.out (fun _ hk => ⟨hk.1.1.1.1.1, ⟨hk.1.1.1.1.2.1, ⟨hk.1.1.1.1.2.2.1, ⟨hk.1.1.1.2, ⟨hk.1.2, ⟨hk.1.1.1.1.2.2.2.1, ⟨hk.1.1.1.1.2.2.2.2.1, ⟨hk.1.1.1.1.2.2.2.2.2.1, ⟨hk.1.1.1.1.2.2.2.2.2.2.1, ⟨hk.1.1.1.1.2.2.2.2.2.2.2.1, ⟨hk.1.1.1.1.2.2.2.2.2.2.2.2.1, ⟨hk.1.1.1.1.2.2.2.2.2.2.2.2.2, ⟨hk.1.1.2, hk.2⟩⟩⟩⟩⟩⟩⟩⟩⟩⟩⟩⟩⟩)⟩, ⟨by (with_reducible repeat (first | apply Kd.V_alloc | apply Kd.V_drewN | apply Kd.V_drew)); exact Kd.V_mono HO400.out (fun _ hk => ⟨hk.1.1.1.1.2.1, ⟨hk.1.1.1.1.2.2.1, ⟨hk.1.1.1.1.2.2.2.1, ⟨hk.1.1.1.2, ⟨hk.1.1.1.1.1, ⟨hk.1.2, ⟨hk.1.1.1.1.2.2.2.2.1, ⟨hk.1.1.1.1.2.2.2.2.2.1, ⟨hk.1.1.1.1.2.2.2.2.2.2.1, ⟨hk.1.1.1.1.2.2.2.2.2.2.2.1, ⟨hk.1.1.1.1.2.2.2.2.2.2.2.2.1, ⟨hk.1.1.1.1.2.2.2.2.2.2.2.2.2.1, ⟨hk.1.1.1.1.2.2.2.2.2.2.2.2.2.2, ⟨hk.1.1.2, hk.2⟩⟩⟩⟩⟩⟩⟩⟩⟩⟩⟩⟩⟩⟩)⟩, ⟨by (with_reducible repeat (first | apply Kd.V_alloc | apply Kd.V_drewN | apply Kd.V_drew)); exact Kd.V_mono HO410.out (fun _ hk => ⟨hk.1.1.1.2.1, ⟨hk.1.1.1.2.2.1, ⟨hk.1.1.1.2.2.2.1, ⟨hk.1.1.1.1, ⟨hk.1.2, ⟨hk.1.1.1.2.2.2.2.1, ⟨hk.1.1.1.2.2.2.2.2.1, ⟨hk.1.1.1.2.2.2.2.2.2.1, ⟨hk.1.1.1.2.2.2.2.2.2.2.1, ⟨hk.1.1.1.2.2.2.2.2.2.2.2.1, ⟨hk.1.1.1.2.2.2.2.2.2.2.2.2.1, ⟨hk.1.1.1.2.2.2.2.2.2.2.2.2.2, ⟨hk.1.1.2, hk.2⟩⟩⟩⟩⟩⟩⟩⟩⟩⟩⟩⟩⟩)⟩, ⟨by (with_reducible repeat (first | apply Kd.R_alloc | apply Kd.R_drewN | apply Kd.R_drew)); exact Kd.R_mono HO420.out (fun _ hk => ⟨hk.1.2, hk.2⟩)⟩, ⟨by (with_reducible repeat (first | refine blk_drewN ?_ _ | refine blk_drew ?_ | refine blk_alloc ?_ _)); exact BK352.out⟩, ⟨by (with_reducible repeat (first | refine blk_drewN ?_ _ | refine blk_drew ?_ | refine blk_alloc ?_ _)); exact BK359.out⟩, ⟨by (with_reducible repeat (first | refine blk_drewN ?_ _ | refine blk_drew ?_ | refine blk_alloc ?_ _)); exact BK367.out⟩, ⟨by (with_reducible repeat (first | refine blk_drewN ?_ _ | refine blk_drew ?_ | refine blk_alloc ?_ _)); exact BK375.out⟩, ⟨by (with_reducible repeat (first | refine blk_drewN ?_ _ | refine blk_drew ?_ | refine blk_alloc ?_ _)); exact BK385.out⟩, ⟨by (with_reducible repeat (first | refine blk_drewN ?_ _ | refine blk_drew ?_ | refine blk_alloc ?_ _)); exact BK395.out⟩, ⟨by (with_reducible repeat (first | refine blk_drewN ?_ _ | refine blk_drew ?_ | refine blk_alloc ?_ _)); exact BK405.out⟩, ⟨by (with_reducible repeat (first | refine blk_drewN ?_ _ | refine blk_drew ?_ | refine blk_alloc ?_ _)); exact BK415.out⟩, ⟨by (with_reducible repeat (first | refine blk_drewN ?_ _ | refine blk_drew ?_ | refine blk_alloc ?_ _)); exact BK422.out⟩, ⟨by repeat (first | (with_reducible first | exact HB.out | apply below_alloc | apply pw_below_drewN | apply below_drew1 | refine below_set ?_ GE352.out | refine below_set ?_ GE359.out | refine below_set ?_ GE367.out | refine below_set ?_ GE375.out | refine below_set ?_ GE385.out | refine below_set ?_ GE395.out | refine below_set ?_ GE405.out | refine below_set ?_ GE415.out | refine below_set ?_ GE422.out) | exact HB.out)⟩⟩
  case rest =>
   clear HC18
   try clear c1
   try clear c2
   try clear p2
   try clear c3
   try clear c4
   try clear c4b0
   try clear c4b1
   try clear c5
   try clear c6
   try clear c7
   try clear c8
   try clear c9
   try clear c10
   try clear c11
   try clear c12
   try clear c13
   try clear c14
   try clear c15
   try clear c16
   try clear c17
   try clear c18
   try clear c23
   try clear c30
   try clear c31
   try clear c38
   try clear c39
   try clear c40
   try clear c47
   try clear c48
   try clear c49
   try clear c50
   try clear c57
   try clear c58
   try clear c59
   try clear c60
   try clear c61
   try clear c68
   try clear c69
   try clear c70
   try clear c71
   try clear c72
   try clear c73
   try clear c80
   try clear c81
   try clear c82
   try clear c83
   try clear c84
   try clear c85
   try clear c86
   try clear c91
   try clear c92
   try clear c93
   try clear c94
   try clear c95
   try clear c96
   try clear c97
   try clear c98
   try clear c102
   try clear c102b0
   try clear c102b1
   try clear c103
   try clear c104
   try clear c104b0
   try clear c104b1
   try clear c105
   try clear c105b0
   try clear c105b1
   try clear c106
   try clear c106b0
   try clear c106b1
   try clear c107
   try clear c108
   try clear c109
   try clear c110
   try clear c111
   try clear c112
   try clear c113
   try clear c114
   try clear c116
   try clear hcz115_0
   try clear hcz115_1
   try clear hcz115_2
   try clear hcz20_0
   try clear hcz20_1
   try clear hcz20_2
   try clear hcz24_0
   try clear hcz24_1
   try clear hcz24_2
   try clear hcz27_0
   try clear hcz27_1
   try clear hcz27_2
   try clear hcz32_0
   try clear hcz32_1
   try clear hcz32_2
   try clear hcz35_0
   try clear hcz35_1
   try clear hcz35_2
   try clear hcz41_0
   try clear hcz41_1
   try clear hcz41_2
   try clear hcz44_0
   try clear hcz44_1
   try clear hcz44_2
   try clear hcz51_0
   try clear hcz51_1
   try clear hcz51_2
   try clear hcz54_0
   try clear hcz54_1
   try clear hcz54_2
   try clear hcz62_0
   try clear hcz62_1
   try clear hcz62_2
   try clear hcz65_0
   try clear hcz65_1
   try clear hcz65_2
   try clear hcz74_0
   try clear hcz74_1
   try clear hcz74_2
   try clear hcz77_0
   try clear hcz77_1
   try clear hcz77_2
   try clear hcz7_0
   try clear hcz7_1
   try clear hcz7_2
   try clear hcz87_0
   try clear hcz87_1
   try clear hcz87_2
   try clear hcz99_0
   try clear hcz99_1
   try clear hcz99_2
   try clear hfz115_0
   try clear hfz115_1
   try clear hfz115_2
   try clear hfz20_0
   try clear hfz20_1
   try clear hfz20_2
   try clear hfz24_0
   try clear hfz24_1
   try clear hfz24_2
   try clear hfz27_0
   try clear hfz27_1
   try clear hfz27_2
   try clear hfz32_0
   try clear hfz32_1
   try clear hfz32_2
   try clear hfz35_0
   try clear hfz35_1
   try clear hfz35_2
   try clear hfz41_0
   try clear hfz41_1
   try clear hfz41_2
   try clear hfz44_0
   try clear hfz44_1
   try clear hfz44_2
   try clear hfz51_0
   try clear hfz51_1
   try clear hfz51_2
   try clear hfz54_0
   try clear hfz54_1
   try clear hfz54_2
   try clear hfz62_0
   try clear hfz62_1
   try clear hfz62_2
   try clear hfz65_0
   try clear hfz65_1
   try clear hfz65_2
   try clear hfz74_0
   try clear hfz74_1
   try clear hfz74_2
   try clear hfz77_0
   try clear hfz77_1
   try clear hfz77_2
   try clear hfz7_0
   try clear hfz7_1
   try clear hfz7_2
   try clear hfz87_0
   try clear hfz87_1
   try clear hfz87_2
   try clear hfz99_0
   try clear hfz99_1
   try clear hfz99_2
   obtain ⟨kq, x122_17, rfl, HA, HJ17, HO_15, HO_18, HO_21, HO_24, HO_360002, HO_368002, HO_376002, HO_386002, HO_396002, HO_406002, HO_416002, HO_423002, BK352, BK359, BK367, BK375, BK385, BK395, BK405, BK415, BK422, HB⟩ := hcut
   cases kq with
   | zero => exact absurd HA.out (by simp [handshakerlaw18_SemaTells.j0])
   | succ kj17 =>
    have H := HA.out
    clear HA
    simp only [handshakerlaw18_SemaTells.j0] at H
    by_cases c117 : x122_17 = true
    ·subst c117
     have H1 : (none) = some r := by rw [if_pos rfl] at H; exact H
     clear H
     have H := H1
     clear H1
     exact absurd H (by simp)
    ·replace c117 := Bool.eq_false_iff.mpr c117
     subst c117
     have H1 : ((sema_Right.f kj17 a0_0 a0_1 l0_2).bind fun t424 => ((handshakerref18_Right.f kj17 t354 t355 t356).bind fun t425 => (if (t424 == t425) = true then ((handshakerlaw18_Ref.f kj17 t360 t361 t362).bind fun bt426 => ((handshakerref18_Same.f kj17 bt426.1 bt426.2.1 bt426.2.2 t368 t369 t370).bind fun t431 => (if t431 = true then (if (t365 == t373) = true then (if t366 = t374 then ((handshakerlaw18_Ref.f kj17 t376 t377 t378).bind fun bt432 => ((handshakerref18_Same.f kj17 bt432.1 bt432.2.1 bt432.2.2 t386 t387 t388).bind fun t437 => (if t437 = true then ((handshakerlaw18_Refs.f kj17 t381).bind fun t438 => ((handshakerref18_List.f kj17 t438 t391).bind fun t441 => (if t441 = true then (if t384 = t394 then ((handshakerlaw18_Ref.f kj17 t396 t397 t398).bind fun bt442 => ((handshakerref18_Same.f kj17 bt442.1 bt442.2.1 bt442.2.2 t406 t407 t408).bind fun t447 => (if t447 = true then ((handshakerlaw18_Refs.f kj17 t401).bind fun t448 => ((handshakerref18_List.f kj17 t448 t411).bind fun t451 => (if t451 = true then (if t404 = t414 then ((handshakerlaw18_awake.f kj17).bind fun t452 => (some t452)) else (none)) else (none)))) else (none)))) else (none)) else (none)))) else (none)))) else (none)) else (none)) else (none)))) else (none)))) = some r := by rw [if_neg (show ¬ (false = true) by decide)] at H; exact H
     clear H
     have H := H1
     clear H1
     replace H := Option.bind_eq_some_iff.mp H
     obtain ⟨t424, A1180, H⟩ := H
     try dsimp only at H
     have A118 := am A1180
     clear A1180
     replace H := Option.bind_eq_some_iff.mp H
     obtain ⟨t425, A1190, H⟩ := H
     try dsimp only at H
     have A119 := am A1190
     clear A1190
     by_cases c120 : (t424 == t425) = true
     ·rw [if_pos c120] at H
      have c120b0 : (t424 == t425) = true := c120
      (try (have c120b1 : decide (t424 = t425) = true := by simpa using c120))
      (try (have c120b2 : (t424 == t425) = true := by simpa using c120))
      clear c120
      replace H := Option.bind_eq_some_iff.mp H
      obtain ⟨⟨t426, t427, t428⟩, A1210, H⟩ := H
      try dsimp only at H
      have A121 := am A1210
      clear A1210
      replace H := Option.bind_eq_some_iff.mp H
      obtain ⟨t431, A1220, H⟩ := H
      try dsimp only at H
      have A122 := am A1220
      clear A1220
      by_cases c123 : t431 = true
      ·subst c123
       have H1 : (if (t365 == t373) = true then (if t366 = t374 then ((handshakerlaw18_Ref.f kj17 t376 t377 t378).bind fun bt432 => ((handshakerref18_Same.f kj17 bt432.1 bt432.2.1 bt432.2.2 t386 t387 t388).bind fun t437 => (if t437 = true then ((handshakerlaw18_Refs.f kj17 t381).bind fun t438 => ((handshakerref18_List.f kj17 t438 t391).bind fun t441 => (if t441 = true then (if t384 = t394 then ((handshakerlaw18_Ref.f kj17 t396 t397 t398).bind fun bt442 => ((handshakerref18_Same.f kj17 bt442.1 bt442.2.1 bt442.2.2 t406 t407 t408).bind fun t447 => (if t447 = true then ((handshakerlaw18_Refs.f kj17 t401).bind fun t448 => ((handshakerref18_List.f kj17 t448 t411).bind fun t451 => (if t451 = true then (if t404 = t414 then ((handshakerlaw18_awake.f kj17).bind fun t452 => (some t452)) else (none)) else (none)))) else (none)))) else (none)) else (none)))) else (none)))) else (none)) else (none)) = some r := by rw [if_pos rfl] at H; exact H
       clear H
       have H := H1
       clear H1
       by_cases c124 : (t365 == t373) = true
       ·rw [if_pos c124] at H
        have c124b0 : (t365 == t373) = true := c124
        (try (have c124b1 : decide (t365 = t373) = true := by simpa using c124))
        (try (have c124b2 : (t365 == t373) = true := by simpa using c124))
        clear c124
        by_cases c125 : t366 = t374
        ·rw [if_pos c125] at H
         have c125b0 : (t366 == t374) = true := beq_iff_eq.mpr c125
         have c125b1 : (t366 != t374) = false := bne_eq_false_iff_eq.mpr c125
         clear c125
         replace H := Option.bind_eq_some_iff.mp H
         obtain ⟨⟨t432, t433, t434⟩, A1260, H⟩ := H
         try dsimp only at H
         have A126 := am A1260
         clear A1260
         replace H := Option.bind_eq_some_iff.mp H
         obtain ⟨t437, A1270, H⟩ := H
         try dsimp only at H
         have A127 := am A1270
         clear A1270
         by_cases c128 : t437 = true
         ·subst c128
          have H1 : ((handshakerlaw18_Refs.f kj17 t381).bind fun t438 => ((handshakerref18_List.f kj17 t438 t391).bind fun t441 => (if t441 = true then (if t384 = t394 then ((handshakerlaw18_Ref.f kj17 t396 t397 t398).bind fun bt442 => ((handshakerref18_Same.f kj17 bt442.1 bt442.2.1 bt442.2.2 t406 t407 t408).bind fun t447 => (if t447 = true then ((handshakerlaw18_Refs.f kj17 t401).bind fun t448 => ((handshakerref18_List.f kj17 t448 t411).bind fun t451 => (if t451 = true then (if t404 = t414 then ((handshakerlaw18_awake.f kj17).bind fun t452 => (some t452)) else (none)) else (none)))) else (none)))) else (none)) else (none)))) = some r := by rw [if_pos rfl] at H; exact H
          clear H
          have H := H1
          clear H1
          replace H := Option.bind_eq_some_iff.mp H
          obtain ⟨t438, A1290, H⟩ := H
          try dsimp only at H
          have A129 := am A1290
          clear A1290
          replace H := Option.bind_eq_some_iff.mp H
          obtain ⟨t441, A1300, H⟩ := H
          try dsimp only at H
          have A130 := am A1300
          clear A1300
          by_cases c131 : t441 = true
          ·subst c131
           have H1 : (if t384 = t394 then ((handshakerlaw18_Ref.f kj17 t396 t397 t398).bind fun bt442 => ((handshakerref18_Same.f kj17 bt442.1 bt442.2.1 bt442.2.2 t406 t407 t408).bind fun t447 => (if t447 = true then ((handshakerlaw18_Refs.f kj17 t401).bind fun t448 => ((handshakerref18_List.f kj17 t448 t411).bind fun t451 => (if t451 = true then (if t404 = t414 then ((handshakerlaw18_awake.f kj17).bind fun t452 => (some t452)) else (none)) else (none)))) else (none)))) else (none)) = some r := by rw [if_pos rfl] at H; exact H
           clear H
           have H := H1
           clear H1
           by_cases c132 : t384 = t394
           ·rw [if_pos c132] at H
            have c132b0 : (t384 == t394) = true := beq_iff_eq.mpr c132
            have c132b1 : (t384 != t394) = false := bne_eq_false_iff_eq.mpr c132
            clear c132
            replace H := Option.bind_eq_some_iff.mp H
            obtain ⟨⟨t442, t443, t444⟩, A1330, H⟩ := H
            try dsimp only at H
            have A133 := am A1330
            clear A1330
            replace H := Option.bind_eq_some_iff.mp H
            obtain ⟨t447, A1340, H⟩ := H
            try dsimp only at H
            have A134 := am A1340
            clear A1340
            by_cases c135 : t447 = true
            ·subst c135
             have H1 : ((handshakerlaw18_Refs.f kj17 t401).bind fun t448 => ((handshakerref18_List.f kj17 t448 t411).bind fun t451 => (if t451 = true then (if t404 = t414 then ((handshakerlaw18_awake.f kj17).bind fun t452 => (some t452)) else (none)) else (none)))) = some r := by rw [if_pos rfl] at H; exact H
             clear H
             have H := H1
             clear H1
             replace H := Option.bind_eq_some_iff.mp H
             obtain ⟨t448, A1360, H⟩ := H
             try dsimp only at H
             have A136 := am A1360
             clear A1360
             replace H := Option.bind_eq_some_iff.mp H
             obtain ⟨t451, A1370, H⟩ := H
             try dsimp only at H
             have A137 := am A1370
             clear A1370
             by_cases c138 : t451 = true
             ·subst c138
              have H1 : (if t404 = t414 then ((handshakerlaw18_awake.f kj17).bind fun t452 => (some t452)) else (none)) = some r := by rw [if_pos rfl] at H; exact H
              clear H
              have H := H1
              clear H1
              by_cases c139 : t404 = t414
              ·rw [if_pos c139] at H
               have c139b0 : (t404 == t414) = true := beq_iff_eq.mpr c139
               have c139b1 : (t404 != t414) = false := bne_eq_false_iff_eq.mpr c139
               clear c139
               replace H := Option.bind_eq_some_iff.mp H
               obtain ⟨t452, A1400, H⟩ := H
               try dsimp only at H
               have A140 := am A1400
               clear A1400
               obtain rfl := Option.some.inj H
               try go_wp2
               replace HO_15 := am (Kd.R_drew HO_15.out)
               replace HO_18 := am (Kd.R_drew HO_18.out)
               replace HO_21 := am (Kd.R_drew HO_21.out)
               replace HO_24 := am (Kd.R_drew HO_24.out)
               replace HO_360002 := am (Kd.R_drew HO_360002.out)
               replace HO_368002 := am (Kd.V_drew HO_368002.out)
               replace HO_376002 := am (Kd.V_drew HO_376002.out)
               replace HO_386002 := am (Kd.V_drew HO_386002.out)
               replace HO_396002 := am (Kd.V_drew HO_396002.out)
               replace HO_406002 := am (Kd.V_drew HO_406002.out)
               replace HO_416002 := am (Kd.V_drew HO_416002.out)
               replace HO_423002 := am (Kd.R_drew HO_423002.out)
               replace BK352 := am (blk_drew BK352.out)
               replace BK359 := am (blk_drew BK359.out)
               replace BK367 := am (blk_drew BK367.out)
               replace BK375 := am (blk_drew BK375.out)
               replace BK385 := am (blk_drew BK385.out)
               replace BK395 := am (blk_drew BK395.out)
               replace BK405 := am (blk_drew BK405.out)
               replace BK415 := am (blk_drew BK415.out)
               replace BK422 := am (blk_drew BK422.out)
               replace HB := am (below_drew1 HB.out)
               refine start_ (n := 59) (S := fun w' => w'.cell? ⟨gb352, 0, none⟩ = some (.int .i64 a0_0) ∧ w'.cell? ⟨gb352, 1, none⟩ = some (.int .i64 a0_1) ∧ w'.cell? ⟨gb352, 2, none⟩ = some (.slice A0_2 l0_2.length c0_2) ∧ w'.cell? ⟨gb359, 0, none⟩ = some (.int .i64 t354) ∧ w'.cell? ⟨gb359, 1, none⟩ = some (.int .i64 t355) ∧ w'.cell? ⟨gb359, 2, none⟩ = some (.slice Ao25 t356.length co25) ∧ w'.cell? ⟨gb367, 0, none⟩ = some (.int .i64 t360) ∧ w'.cell? ⟨gb367, 1, none⟩ = some (.int .i64 t361) ∧ w'.cell? ⟨gb367, 2, none⟩ = some (.slice Ao33 t362.length co33) ∧ w'.cell? ⟨gb375, 0, none⟩ = some (.int .i64 t368) ∧ w'.cell? ⟨gb375, 1, none⟩ = some (.int .i64 t369) ∧ w'.cell? ⟨gb375, 2, none⟩ = some (.slice Ao42 t370.length co42) ∧ w'.cell? ⟨gb385, 0, none⟩ = some (.int .i64 t376) ∧ w'.cell? ⟨gb385, 1, none⟩ = some (.int .i64 t377) ∧ w'.cell? ⟨gb385, 2, none⟩ = some (.slice Ao52 t378.length co52) ∧ w'.cell? ⟨gb395, 0, none⟩ = some (.int .i64 t386) ∧ w'.cell? ⟨gb395, 1, none⟩ = some (.int .i64 t387) ∧ w'.cell? ⟨gb395, 2, none⟩ = some (.slice Ao63 t388.length co63) ∧ w'.cell? ⟨gb405, 0, none⟩ = some (.int .i64 t396) ∧ w'.cell? ⟨gb405, 1, none⟩ = some (.int .i64 t397) ∧ w'.cell? ⟨gb405, 2, none⟩ = some (.slice Ao75 t398.length co75) ∧ w'.cell? ⟨gb415, 0, none⟩ = some (.int .i64 t406) ∧ w'.cell? ⟨gb415, 1, none⟩ = some (.int .i64 t407) ∧ w'.cell? ⟨gb415, 2, none⟩ = some (.slice Ao88 t408.length co88)) (ds := []) #[false, false, false, false, false, false, false, false, false, false, false, false, false, false, false, false, false, false, false, false, false, false, false, false, false, false, false, false, false, false, false, false, false, false, false, false, false, false, false, false, false, false, false, false, false, false, false, false, false, false, false, false, false, false, false, false, false, false, false] (by kernel_rfl) rfl rfl ⟨(blk_cell BK352.out 0).trans rfl, (blk_cell BK352.out 1).trans rfl, (blk_cell BK352.out 2).trans rfl, (blk_cell BK359.out 0).trans rfl, (blk_cell BK359.out 1).trans rfl, (blk_cell BK359.out 2).trans rfl, (blk_cell BK367.out 0).trans rfl, (blk_cell BK367.out 1).trans rfl, (blk_cell BK367.out 2).trans rfl, (blk_cell BK375.out 0).trans rfl, (blk_cell BK375.out 1).trans rfl, (blk_cell BK375.out 2).trans rfl, (blk_cell BK385.out 0).trans rfl, (blk_cell BK385.out 1).trans rfl, (blk_cell BK385.out 2).trans rfl, (blk_cell BK395.out 0).trans rfl, (blk_cell BK395.out 1).trans rfl, (blk_cell BK395.out 2).trans rfl, (blk_cell BK405.out 0).trans rfl, (blk_cell BK405.out 1).trans rfl, (blk_cell BK405.out 2).trans rfl, (blk_cell BK415.out 0).trans rfl, (blk_cell BK415.out 1).trans rfl, (blk_cell BK415.out 2).trans rfl⟩ (fun hHeld => ?_); refine with_tabW handshakerlaw18_SemaTells.tab14 handshakerlaw18_SemaTells.bits14 (fun HT_ HW_ => ?_)
               generalize wc.drew = w141 at HO_15 HO_18 HO_21 HO_24 HO_360002 HO_368002 HO_376002 HO_386002 HO_396002 HO_406002 HO_416002 HO_423002 BK352 BK359 BK367 BK375 BK385 BK395 BK405 BK415 BK422 HB hHeld ⊢
               refine take_ (i := 0) (N := some 123) (v := ?_) (a' := ?_) #[true, false, false, false, false, false, false, false, false, false, false, false, false, false, false, false, false, false, false, false, false, false, false, false, false, false, false, false, false, false, false, false, false, false, false, false, false, false, false, false, false, false, false, false, false, false, false, false, false, false, false, false, false, false, false, false, false, false, false] rfl rfl (take_ofW HT_.out HW_.out (by kernel_rfl)) (fun _ _ _ h => h) (Or.inl ⟨by rfl, ?_⟩) hHeld ?_ ?_
               rotate_left
               ·rintro w' ⟨s0, s1, s2, s3, s4, s5, s6, s7, s8, s9, s10, s11, s12, s13, s14, s15, s16, s17, s18, s19, s20, s21, s22, s23⟩
                go_simp
                with_reducible rfl
               rotate_left
               ·simp only [Act.put, List.setIfInBounds_toArray, List.set_cons_zero, List.set_cons_succ, i64_w, i32_w]
                rfl
               refine take_ (i := 2) (N := some 125) (v := ?_) (a' := ?_) #[true, false, true, false, false, false, false, false, false, false, false, false, false, false, false, false, false, false, false, false, false, false, false, false, false, false, false, false, false, false, false, false, false, false, false, false, false, false, false, false, false, false, false, false, false, false, false, false, false, false, false, false, false, false, false, false, false, false, false] rfl rfl (take_ofW HT_.out HW_.out (by kernel_rfl)) (fun _ _ _ h => h) (Or.inl ⟨by rfl, ?_⟩) hHeld ?_ ?_
               rotate_left
               ·rintro w' ⟨s0, s1, s2, s3, s4, s5, s6, s7, s8, s9, s10, s11, s12, s13, s14, s15, s16, s17, s18, s19, s20, s21, s22, s23⟩
                go_simp
                with_reducible rfl
               rotate_left
               ·simp only [Act.put, List.setIfInBounds_toArray, List.set_cons_zero, List.set_cons_succ, i64_w, i32_w]
                rfl
               refine one_ (i := 1) (N := some 124) #[true, true, true, false, false, false, false, false, false, false, false, false, false, false, false, false, false, false, false, false, false, false, false, false, false, false, false, false, false, false, false, false, false, false, false, false, false, false, false, false, false, false, false, false, false, false, false, false, false, false, false, false, false, false, false, false, false, false, false] rfl rfl (one_of HT_.out (by kernel_rfl)) (by decide) (fun K hK => ?_)
               refine goes_ Try.func19 (by kernel_rfl) rfl #[.agg #[.int .i64 a0_0, .int .i64 a0_1, .slice A0_2 l0_2.length c0_2]] (by rfl) rfl rfl zm ?_
               with_reducible refine (sema_Right.calls kj17 a0_0 a0_1 _ _ l0_2 t424 _ ?side1 ?side2 A118.out).mono ?_
               (case side1 => repeat (first | exact (Kd.C_below HR0_2.out HB.out) | (with_reducible refine Kd.C_alloc ?_ _) | (with_reducible refine Kd.C_drewN ?_ _) | (with_reducible refine Kd.C_drew ?_)))
               (case side2 => exact HC0_2.out)
               rintro e w142 ⟨rfl, hb⟩
               refine ⟨_, rfl, ?_⟩
               replace HO_15 := zRb HO_15 hb
               replace HO_18 := zRb HO_18 hb
               replace HO_21 := zRb HO_21 hb
               replace HO_24 := zRb HO_24 hb
               replace HO_360002 := zRb HO_360002 hb
               replace HO_368002 := zVb HO_368002 hb
               replace HO_376002 := zVb HO_376002 hb
               replace HO_386002 := zVb HO_386002 hb
               replace HO_396002 := zVb HO_396002 hb
               replace HO_406002 := zVb HO_406002 hb
               replace HO_416002 := zVb HO_416002 hb
               replace HO_423002 := zRb HO_423002 hb
               replace BK352 := zbb BK352 hb
               replace BK359 := zbb BK359 hb
               replace BK367 := zbb BK367 hb
               replace BK375 := zbb BK375 hb
               replace BK385 := zbb BK385 hb
               replace BK395 := zbb BK395 hb
               replace BK405 := zbb BK405 hb
               replace BK415 := zbb BK415 hb
               replace BK422 := zbb BK422 hb
               replace HB := am (below_step (by repeat (first | (with_reducible first | exact HB.out | apply below_alloc | apply pw_below_drewN | apply below_drew1 | refine below_set ?_ GE352.out | refine below_set ?_ GE359.out | refine below_set ?_ GE367.out | refine below_set ?_ GE375.out | refine below_set ?_ GE385.out | refine below_set ?_ GE395.out | refine below_set ?_ GE405.out | refine below_set ?_ GE415.out | refine below_set ?_ GE422.out) | exact HB.out)) hb)
               (try clear hb)
               (try clear hb2)
               (try clear hk)
               (try clear hi)
               refine hK.out _ _ ⟨(blk_cell BK352.out 0).trans rfl, (blk_cell BK352.out 1).trans rfl, (blk_cell BK352.out 2).trans rfl, (blk_cell BK359.out 0).trans rfl, (blk_cell BK359.out 1).trans rfl, (blk_cell BK359.out 2).trans rfl, (blk_cell BK367.out 0).trans rfl, (blk_cell BK367.out 1).trans rfl, (blk_cell BK367.out 2).trans rfl, (blk_cell BK375.out 0).trans rfl, (blk_cell BK375.out 1).trans rfl, (blk_cell BK375.out 2).trans rfl, (blk_cell BK385.out 0).trans rfl, (blk_cell BK385.out 1).trans rfl, (blk_cell BK385.out 2).trans rfl, (blk_cell BK395.out 0).trans rfl, (blk_cell BK395.out 1).trans rfl, (blk_cell BK395.out 2).trans rfl, (blk_cell BK405.out 0).trans rfl, (blk_cell BK405.out 1).trans rfl, (blk_cell BK405.out 2).trans rfl, (blk_cell BK415.out 0).trans rfl, (blk_cell BK415.out 1).trans rfl, (blk_cell BK415.out 2).trans rfl⟩ (fun hHeld => ?_)
               clear hK K
               refine norm_ (a' := ?_) ?_ ?_
               rotate_left
               ·show Act.put _ (some 124) _ = _
                simp only [Act.put, List.setIfInBounds_toArray, List.set_cons_zero, List.set_cons_succ, i64_w, i32_w]
                rfl
               refine one_ (i := 3) (N := some 126) #[true, true, true, true, false, false, false, false, false, false, false, false, false, false, false, false, false, false, false, false, false, false, false, false, false, false, false, false, false, false, false, false, false, false, false, false, false, false, false, false, false, false, false, false, false, false, false, false, false, false, false, false, false, false, false, false, false, false, false] rfl rfl (one_of HT_.out (by kernel_rfl)) (by decide) (fun K hK => ?_)
               refine goes_ Try.func18 (by kernel_rfl) rfl #[.agg #[.int .i64 t354, .int .i64 t355, .slice Ao25 t356.length co25]] (by rfl) rfl rfl zm ?_
               with_reducible refine (handshakerref18_Right.calls kj17 t354 t355 _ _ t356 t425 _ ?side1 ?side2 A119.out).mono ?_
               (case side1 => repeat (first | exact (Kd.R_reads' HO_360002.out).2.2 | (with_reducible refine Kd.C_alloc ?_ _) | (with_reducible refine Kd.C_drewN ?_ _) | (with_reducible refine Kd.C_drew ?_)))
               (case side2 => exact (Kd.R_reads' HO_360002.out).2.1)
               rintro e w143 ⟨rfl, hb⟩
               refine ⟨_, rfl, ?_⟩
               replace HO_15 := zRb HO_15 hb
               replace HO_18 := zRb HO_18 hb
               replace HO_21 := zRb HO_21 hb
               replace HO_24 := zRb HO_24 hb
               replace HO_360002 := zRb HO_360002 hb
               replace HO_368002 := zVb HO_368002 hb
               replace HO_376002 := zVb HO_376002 hb
               replace HO_386002 := zVb HO_386002 hb
               replace HO_396002 := zVb HO_396002 hb
               replace HO_406002 := zVb HO_406002 hb
               replace HO_416002 := zVb HO_416002 hb
               replace HO_423002 := zRb HO_423002 hb
               replace BK352 := zbb BK352 hb
               replace BK359 := zbb BK359 hb
               replace BK367 := zbb BK367 hb
               replace BK375 := zbb BK375 hb
               replace BK385 := zbb BK385 hb
               replace BK395 := zbb BK395 hb
               replace BK405 := zbb BK405 hb
               replace BK415 := zbb BK415 hb
               replace BK422 := zbb BK422 hb
               replace HB := am (below_step (by repeat (first | (with_reducible first | exact HB.out | apply below_alloc | apply pw_below_drewN | apply below_drew1 | refine below_set ?_ GE352.out | refine below_set ?_ GE359.out | refine below_set ?_ GE367.out | refine below_set ?_ GE375.out | refine below_set ?_ GE385.out | refine below_set ?_ GE395.out | refine below_set ?_ GE405.out | refine below_set ?_ GE415.out | refine below_set ?_ GE422.out) | exact HB.out)) hb)
               (try clear hb)
               (try clear hb2)
               (try clear hk)
               (try clear hi)
               refine hK.out _ _ ⟨(blk_cell BK352.out 0).trans rfl, (blk_cell BK352.out 1).trans rfl, (blk_cell BK352.out 2).trans rfl, (blk_cell BK359.out 0).trans rfl, (blk_cell BK359.out 1).trans rfl, (blk_cell BK359.out 2).trans rfl, (blk_cell BK367.out 0).trans rfl, (blk_cell BK367.out 1).trans rfl, (blk_cell BK367.out 2).trans rfl, (blk_cell BK375.out 0).trans rfl, (blk_cell BK375.out 1).trans rfl, (blk_cell BK375.out 2).trans rfl, (blk_cell BK385.out 0).trans rfl, (blk_cell BK385.out 1).trans rfl, (blk_cell BK385.out 2).trans rfl, (blk_cell BK395.out 0).trans rfl, (blk_cell BK395.out 1).trans rfl, (blk_cell BK395.out 2).trans rfl, (blk_cell BK405.out 0).trans rfl, (blk_cell BK405.out 1).trans rfl, (blk_cell BK405.out 2).trans rfl, (blk_cell BK415.out 0).trans rfl, (blk_cell BK415.out 1).trans rfl, (blk_cell BK415.out 2).trans rfl⟩ (fun hHeld => ?_)
               clear hK K
               refine norm_ (a' := ?_) ?_ ?_
               rotate_left
               ·show Act.put _ (some 126) _ = _
                simp only [Act.put, List.setIfInBounds_toArray, List.set_cons_zero, List.set_cons_succ, i64_w, i32_w]
                rfl
               refine pure_ (i := 4) (N := some 127) (v := ?_) (a' := ?_) #[true, true, true, true, true, false, false, false, false, false, false, false, false, false, false, false, false, false, false, false, false, false, false, false, false, false, false, false, false, false, false, false, false, false, false, false, false, false, false, false, false, false, false, false, false, false, false, false, false, false, false, false, false, false, false, false, false, false, false] rfl rfl (any_of HT_.out (by kernel_rfl)) (fun _ _ _ h => h) (Or.inl ⟨by rfl, ?_⟩) ?_ ?_
               rotate_left
               ·intro w'
                go_simp
                with_reducible rfl
               rotate_left
               ·simp only [Act.put, List.setIfInBounds_toArray, List.set_cons_zero, List.set_cons_succ, i64_w, i32_w]
                rfl
               refine pure_ (i := 5) (N := some 128) (v := ?_) (a' := ?_) #[true, true, true, true, true, true, false, false, false, false, false, false, false, false, false, false, false, false, false, false, false, false, false, false, false, false, false, false, false, false, false, false, false, false, false, false, false, false, false, false, false, false, false, false, false, false, false, false, false, false, false, false, false, false, false, false, false, false, false] rfl rfl (any_of HT_.out (by kernel_rfl)) (fun _ _ _ h => h) (Or.inl ⟨by rfl, ?_⟩) ?_ ?_
               rotate_left
               ·intro w'
                go_simp
                with_reducible rfl
               rotate_left
               ·simp only [Act.put, List.setIfInBounds_toArray, List.set_cons_zero, List.set_cons_succ, i64_w, i32_w]
                rfl
               refine take_ (i := 6) (N := some 129) (v := ?_) (a' := ?_) #[true, true, true, true, true, true, true, false, false, false, false, false, false, false, false, false, false, false, false, false, false, false, false, false, false, false, false, false, false, false, false, false, false, false, false, false, false, false, false, false, false, false, false, false, false, false, false, false, false, false, false, false, false, false, false, false, false, false, false] rfl rfl (take_ofW HT_.out HW_.out (by kernel_rfl)) (fun _ _ _ h => h) (Or.inl ⟨by rfl, ?_⟩) hHeld ?_ ?_
               rotate_left
               ·rintro w' ⟨s0, s1, s2, s3, s4, s5, s6, s7, s8, s9, s10, s11, s12, s13, s14, s15, s16, s17, s18, s19, s20, s21, s22, s23⟩
                go_simp
                with_reducible rfl
               rotate_left
               ·simp only [Act.put, List.setIfInBounds_toArray, List.set_cons_zero, List.set_cons_succ, i64_w, i32_w]
                rfl
               refine take_ (i := 8) (N := some 131) (v := ?_) (a' := ?_) #[true, true, true, true, true, true, true, false, true, false, false, false, false, false, false, false, false, false, false, false, false, false, false, false, false, false, false, false, false, false, false, false, false, false, false, false, false, false, false, false, false, false, false, false, false, false, false, false, false, false, false, false, false, false, false, false, false, false, false] rfl rfl (take_ofW HT_.out HW_.out (by kernel_rfl)) (fun _ _ _ h => h) (Or.inl ⟨by rfl, ?_⟩) hHeld ?_ ?_
               rotate_left
               ·rintro w' ⟨s0, s1, s2, s3, s4, s5, s6, s7, s8, s9, s10, s11, s12, s13, s14, s15, s16, s17, s18, s19, s20, s21, s22, s23⟩
                go_simp
                with_reducible rfl
               rotate_left
               ·simp only [Act.put, List.setIfInBounds_toArray, List.set_cons_zero, List.set_cons_succ, i64_w, i32_w]
                rfl
               refine one_ (i := 7) (N := some 130) #[true, true, true, true, true, true, true, true, true, false, false, false, false, false, false, false, false, false, false, false, false, false, false, false, false, false, false, false, false, false, false, false, false, false, false, false, false, false, false, false, false, false, false, false, false, false, false, false, false, false, false, false, false, false, false, false, false, false, false] rfl rfl (one_of HT_.out (by kernel_rfl)) (by decide) (fun K hK => ?_)
               refine goes_ Try.func10 (by kernel_rfl) rfl #[.agg #[.int .i64 t360, .int .i64 t361, .slice Ao33 t362.length co33]] (by rfl) rfl rfl zm ?_
               with_reducible refine (handshakerlaw18_Ref.calls kj17 t360 t361 _ _ t362 t426 t427 t428 _ ?side1 ?side2 A121.out).mono ?_
               (case side1 => repeat (first | exact (Kd.V_reads' HO_368002.out).2.2 | (with_reducible refine Kd.C_alloc ?_ _) | (with_reducible refine Kd.C_drewN ?_ _) | (with_reducible refine Kd.C_drew ?_)))
               (case side2 => exact (Kd.V_reads' HO_368002.out).2.1)
               rintro e w144 ⟨v429, rfl, ho0, hb⟩
               refine ⟨_, rfl, ?_⟩
               replace HO_15 := zRb HO_15 hb
               replace HO_21 := zRb HO_21 hb
               replace HO_368002 := am (Kd.V_elder' (zV HO_368002) (Kd.R_base ho0) hb)
               replace HO_376002 := am (Kd.V_elder' (zV HO_376002) (Kd.R_base ho0) hb)
               replace HO_386002 := am (Kd.V_elder' (zV HO_386002) (Kd.R_base ho0) hb)
               replace HO_396002 := am (Kd.V_elder' (zV HO_396002) (Kd.R_base ho0) hb)
               replace HO_406002 := am (Kd.V_elder' (zV HO_406002) (Kd.R_base ho0) hb)
               replace HO_416002 := am (Kd.V_elder' (zV HO_416002) (Kd.R_base ho0) hb)
               replace HO_423002 := zRb HO_423002 hb
               have HO430 := am (Kd.R_lower (Kd.R_new' (Kd.R_new' (Kd.R_new' ho0 (Kd.R_lt (zR HO_18))) (Kd.R_lt (zR HO_24))) (Kd.R_lt (zR HO_360002))) (below_size (by repeat (first | (with_reducible first | exact HB.out | apply below_alloc | apply pw_below_drewN | apply below_drew1 | refine below_set ?_ GE352.out | refine below_set ?_ GE359.out | refine below_set ?_ GE367.out | refine below_set ?_ GE375.out | refine below_set ?_ GE385.out | refine below_set ?_ GE395.out | refine below_set ?_ GE405.out | refine below_set ?_ GE415.out | refine below_set ?_ GE422.out) | exact HB.out))))
               replace HO_18 := am (Kd.R_elder' (zR HO_18) (Kd.R_base ho0) hb)
               replace HO_24 := am (Kd.R_elder' (zR HO_24) (Kd.R_base ho0) hb)
               replace HO_360002 := am (Kd.R_elder' (zR HO_360002) (Kd.R_base ho0) hb)
               replace BK352 := zbb BK352 hb
               replace BK359 := zbb BK359 hb
               replace BK367 := zbb BK367 hb
               replace BK375 := zbb BK375 hb
               replace BK385 := zbb BK385 hb
               replace BK395 := zbb BK395 hb
               replace BK405 := zbb BK405 hb
               replace BK415 := zbb BK415 hb
               replace BK422 := zbb BK422 hb
               replace HB := am (below_step (by repeat (first | (with_reducible first | exact HB.out | apply below_alloc | apply pw_below_drewN | apply below_drew1 | refine below_set ?_ GE352.out | refine below_set ?_ GE359.out | refine below_set ?_ GE367.out | refine below_set ?_ GE375.out | refine below_set ?_ GE385.out | refine below_set ?_ GE395.out | refine below_set ?_ GE405.out | refine below_set ?_ GE415.out | refine below_set ?_ GE422.out) | exact HB.out)) hb)
               (try clear hb)
               (try clear hb2)
               (try clear hk)
               (try clear hi)
               (try clear ho0)
               obtain ⟨Ao145, co145, eo145⟩ := Kd.R_slice HO430.out
               (first | subst eo145 | (injection eo145 with f1_ f2_ f3_; have f4_ := f1_.symm; have f5_ := f3_.symm; clear f1_ f2_ f3_; subst f4_; subst f5_))
               refine hK.out _ _ ⟨(blk_cell BK352.out 0).trans rfl, (blk_cell BK352.out 1).trans rfl, (blk_cell BK352.out 2).trans rfl, (blk_cell BK359.out 0).trans rfl, (blk_cell BK359.out 1).trans rfl, (blk_cell BK359.out 2).trans rfl, (blk_cell BK367.out 0).trans rfl, (blk_cell BK367.out 1).trans rfl, (blk_cell BK367.out 2).trans rfl, (blk_cell BK375.out 0).trans rfl, (blk_cell BK375.out 1).trans rfl, (blk_cell BK375.out 2).trans rfl, (blk_cell BK385.out 0).trans rfl, (blk_cell BK385.out 1).trans rfl, (blk_cell BK385.out 2).trans rfl, (blk_cell BK395.out 0).trans rfl, (blk_cell BK395.out 1).trans rfl, (blk_cell BK395.out 2).trans rfl, (blk_cell BK405.out 0).trans rfl, (blk_cell BK405.out 1).trans rfl, (blk_cell BK405.out 2).trans rfl, (blk_cell BK415.out 0).trans rfl, (blk_cell BK415.out 1).trans rfl, (blk_cell BK415.out 2).trans rfl⟩ (fun hHeld => ?_)
               clear hK K
               refine norm_ (a' := ?_) ?_ ?_
               rotate_left
               ·show Act.put _ (some 130) _ = _
                simp only [Act.put, List.setIfInBounds_toArray, List.set_cons_zero, List.set_cons_succ, i64_w, i32_w]
                rfl
               refine one_ (i := 9) (N := some 132) #[true, true, true, true, true, true, true, true, true, true, false, false, false, false, false, false, false, false, false, false, false, false, false, false, false, false, false, false, false, false, false, false, false, false, false, false, false, false, false, false, false, false, false, false, false, false, false, false, false, false, false, false, false, false, false, false, false, false, false] rfl rfl (one_of HT_.out (by kernel_rfl)) (by decide) (fun K hK => ?_)
               refine goes_ Try.func20 (by kernel_rfl) rfl #[.agg #[.int .i64 t426, .int .i64 t427, .slice Ao145 t428.length co145], .agg #[.int .i64 t368, .int .i64 t369, .slice Ao42 t370.length co42]] (by rfl) rfl rfl zm ?_
               with_reducible refine (handshakerref18_Same.calls kj17 t426 t427 _ _ t428 t368 t369 _ _ t370 true _ ?side1 ?side2 ?side3 ?side4 A122.out).mono ?_
               (case side1 => repeat (first | exact (Kd.R_reads' HO430.out).2.2 | (with_reducible refine Kd.C_alloc ?_ _) | (with_reducible refine Kd.C_drewN ?_ _) | (with_reducible refine Kd.C_drew ?_)))
               (case side2 => exact (Kd.R_reads' HO430.out).2.1)
               (case side3 => repeat (first | exact (Kd.V_reads' HO_376002.out).2.2 | (with_reducible refine Kd.C_alloc ?_ _) | (with_reducible refine Kd.C_drewN ?_ _) | (with_reducible refine Kd.C_drew ?_)))
               (case side4 => exact (Kd.V_reads' HO_376002.out).2.1)
               rintro e w146 ⟨rfl, hb⟩
               refine ⟨_, rfl, ?_⟩
               replace HO_15 := zRb HO_15 hb
               replace HO_18 := zRb HO_18 hb
               replace HO_21 := zRb HO_21 hb
               replace HO_24 := zRb HO_24 hb
               replace HO_360002 := zRb HO_360002 hb
               replace HO_368002 := zVb HO_368002 hb
               replace HO_376002 := zVb HO_376002 hb
               replace HO_386002 := zVb HO_386002 hb
               replace HO_396002 := zVb HO_396002 hb
               replace HO_406002 := zVb HO_406002 hb
               replace HO_416002 := zVb HO_416002 hb
               replace HO_423002 := zRb HO_423002 hb
               replace HO430 := zRb HO430 hb
               replace BK352 := zbb BK352 hb
               replace BK359 := zbb BK359 hb
               replace BK367 := zbb BK367 hb
               replace BK375 := zbb BK375 hb
               replace BK385 := zbb BK385 hb
               replace BK395 := zbb BK395 hb
               replace BK405 := zbb BK405 hb
               replace BK415 := zbb BK415 hb
               replace BK422 := zbb BK422 hb
               replace HB := am (below_step (by repeat (first | (with_reducible first | exact HB.out | apply below_alloc | apply pw_below_drewN | apply below_drew1 | refine below_set ?_ GE352.out | refine below_set ?_ GE359.out | refine below_set ?_ GE367.out | refine below_set ?_ GE375.out | refine below_set ?_ GE385.out | refine below_set ?_ GE395.out | refine below_set ?_ GE405.out | refine below_set ?_ GE415.out | refine below_set ?_ GE422.out) | exact HB.out)) hb)
               (try clear hb)
               (try clear hb2)
               (try clear hk)
               (try clear hi)
               refine hK.out _ _ ⟨(blk_cell BK352.out 0).trans rfl, (blk_cell BK352.out 1).trans rfl, (blk_cell BK352.out 2).trans rfl, (blk_cell BK359.out 0).trans rfl, (blk_cell BK359.out 1).trans rfl, (blk_cell BK359.out 2).trans rfl, (blk_cell BK367.out 0).trans rfl, (blk_cell BK367.out 1).trans rfl, (blk_cell BK367.out 2).trans rfl, (blk_cell BK375.out 0).trans rfl, (blk_cell BK375.out 1).trans rfl, (blk_cell BK375.out 2).trans rfl, (blk_cell BK385.out 0).trans rfl, (blk_cell BK385.out 1).trans rfl, (blk_cell BK385.out 2).trans rfl, (blk_cell BK395.out 0).trans rfl, (blk_cell BK395.out 1).trans rfl, (blk_cell BK395.out 2).trans rfl, (blk_cell BK405.out 0).trans rfl, (blk_cell BK405.out 1).trans rfl, (blk_cell BK405.out 2).trans rfl, (blk_cell BK415.out 0).trans rfl, (blk_cell BK415.out 1).trans rfl, (blk_cell BK415.out 2).trans rfl⟩ (fun hHeld => ?_)
               clear hK K
               refine norm_ (a' := ?_) ?_ ?_
               rotate_left
               ·show Act.put _ (some 132) _ = _
                simp only [Act.put, List.setIfInBounds_toArray, List.set_cons_zero, List.set_cons_succ, i64_w, i32_w]
                rfl
               refine pure_ (i := 10) (N := some 133) (v := ?_) (a' := ?_) #[true, true, true, true, true, true, true, true, true, true, true, false, false, false, false, false, false, false, false, false, false, false, false, false, false, false, false, false, false, false, false, false, false, false, false, false, false, false, false, false, false, false, false, false, false, false, false, false, false, false, false, false, false, false, false, false, false, false, false] rfl rfl (any_of HT_.out (by kernel_rfl)) (fun _ _ _ h => h) (Or.inl ⟨by rfl, ?_⟩) ?_ ?_
               rotate_left
               ·intro w'
                go_simp
                with_reducible rfl
               rotate_left
               ·simp only [Act.put, List.setIfInBounds_toArray, List.set_cons_zero, List.set_cons_succ, i64_w, i32_w]
                rfl
               refine pure_ (i := 11) (N := some 134) (v := ?_) (a' := ?_) #[true, true, true, true, true, true, true, true, true, true, true, true, false, false, false, false, false, false, false, false, false, false, false, false, false, false, false, false, false, false, false, false, false, false, false, false, false, false, false, false, false, false, false, false, false, false, false, false, false, false, false, false, false, false, false, false, false, false, false] rfl rfl (any_of HT_.out (by kernel_rfl)) (fun _ _ _ h => h) (Or.inl ⟨by rfl, ?_⟩) ?_ ?_
               rotate_left
               ·intro w'
                go_simp
                with_reducible rfl
               rotate_left
               ·simp only [Act.put, List.setIfInBounds_toArray, List.set_cons_zero, List.set_cons_succ, i64_w, i32_w]
                rfl
               refine pure_ (i := 12) (N := some 135) (v := ?_) (a' := ?_) #[true, true, true, true, true, true, true, true, true, true, true, true, true, false, false, false, false, false, false, false, false, false, false, false, false, false, false, false, false, false, false, false, false, false, false, false, false, false, false, false, false, false, false, false, false, false, false, false, false, false, false, false, false, false, false, false, false, false, false] rfl rfl (any_of HT_.out (by kernel_rfl)) (fun _ _ _ h => h) (Or.inl ⟨by rfl, ?_⟩) ?_ ?_
               rotate_left
               ·intro w'
                go_simp
                with_reducible rfl
               rotate_left
               ·simp only [Act.put, List.setIfInBounds_toArray, List.set_cons_zero, List.set_cons_succ, i64_w, i32_w]
                rfl
               refine pure_ (i := 13) (N := some 136) (v := ?_) (a' := ?_) #[true, true, true, true, true, true, true, true, true, true, true, true, true, true, false, false, false, false, false, false, false, false, false, false, false, false, false, false, false, false, false, false, false, false, false, false, false, false, false, false, false, false, false, false, false, false, false, false, false, false, false, false, false, false, false, false, false, false, false] rfl rfl (any_of HT_.out (by kernel_rfl)) (fun _ _ _ h => h) (Or.inl ⟨by rfl, ?_⟩) ?_ ?_
               rotate_left
               ·intro w'
                go_simp
                with_reducible rfl
               rotate_left
               ·simp only [Act.put, List.setIfInBounds_toArray, List.set_cons_zero, List.set_cons_succ, i64_w, i32_w]
                rfl
               refine pure_ (i := 14) (N := some 137) (v := ?_) (a' := ?_) #[true, true, true, true, true, true, true, true, true, true, true, true, true, true, true, false, false, false, false, false, false, false, false, false, false, false, false, false, false, false, false, false, false, false, false, false, false, false, false, false, false, false, false, false, false, false, false, false, false, false, false, false, false, false, false, false, false, false, false] rfl rfl (any_of HT_.out (by kernel_rfl)) (fun _ _ _ h => h) (Or.inl ⟨by rfl, ?_⟩) ?_ ?_
               rotate_left
               ·intro w'
                go_simp
                with_reducible rfl
               rotate_left
               ·simp only [Act.put, List.setIfInBounds_toArray, List.set_cons_zero, List.set_cons_succ, i64_w, i32_w]
                rfl
               refine pure_ (i := 15) (N := some 138) (v := ?_) (a' := ?_) #[true, true, true, true, true, true, true, true, true, true, true, true, true, true, true, true, false, false, false, false, false, false, false, false, false, false, false, false, false, false, false, false, false, false, false, false, false, false, false, false, false, false, false, false, false, false, false, false, false, false, false, false, false, false, false, false, false, false, false] rfl rfl (any_of HT_.out (by kernel_rfl)) (fun _ _ _ h => h) (Or.inl ⟨by rfl, ?_⟩) ?_ ?_
               rotate_left
               ·intro w'
                go_simp
                with_reducible rfl
               rotate_left
               ·simp only [Act.put, List.setIfInBounds_toArray, List.set_cons_zero, List.set_cons_succ, i64_w, i32_w]
                rfl
               refine pure_ (i := 16) (N := some 139) (v := ?_) (a' := ?_) #[true, true, true, true, true, true, true, true, true, true, true, true, true, true, true, true, true, false, false, false, false, false, false, false, false, false, false, false, false, false, false, false, false, false, false, false, false, false, false, false, false, false, false, false, false, false, false, false, false, false, false, false, false, false, false, false, false, false, false] rfl rfl (any_of HT_.out (by kernel_rfl)) (fun _ _ _ h => h) (Or.inl ⟨by rfl, ?_⟩) ?_ ?_
               rotate_left
               ·intro w'
                go_simp
                with_reducible rfl
               rotate_left
               ·simp only [Act.put, List.setIfInBounds_toArray, List.set_cons_zero, List.set_cons_succ, i64_w, i32_w]
                rfl
               refine pure_ (i := 17) (N := some 140) (v := ?_) (a' := ?_) #[true, true, true, true, true, true, true, true, true, true, true, true, true, true, true, true, true, true, false, false, false, false, false, false, false, false, false, false, false, false, false, false, false, false, false, false, false, false, false, false, false, false, false, false, false, false, false, false, false, false, false, false, false, false, false, false, false, false, false] rfl rfl (any_of HT_.out (by kernel_rfl)) (fun _ _ _ h => h) (Or.inl ⟨by rfl, ?_⟩) ?_ ?_
               rotate_left
               ·intro w'
                go_simp
                with_reducible rfl
               rotate_left
               ·simp only [Act.put, List.setIfInBounds_toArray, List.set_cons_zero, List.set_cons_succ, i64_w, i32_w]
                rfl
               refine pure_ (i := 18) (N := some 141) (v := ?_) (a' := ?_) #[true, true, true, true, true, true, true, true, true, true, true, true, true, true, true, true, true, true, true, false, false, false, false, false, false, false, false, false, false, false, false, false, false, false, false, false, false, false, false, false, false, false, false, false, false, false, false, false, false, false, false, false, false, false, false, false, false, false, false] rfl rfl (any_of HT_.out (by kernel_rfl)) (fun _ _ _ h => h) (Or.inl ⟨by rfl, ?_⟩) ?_ ?_
               rotate_left
               ·intro w'
                go_simp
                with_reducible rfl
               rotate_left
               ·simp only [Act.put, List.setIfInBounds_toArray, List.set_cons_zero, List.set_cons_succ, i64_w, i32_w]
                rfl
               refine pure_ (i := 19) (N := some 142) (v := ?_) (a' := ?_) #[true, true, true, true, true, true, true, true, true, true, true, true, true, true, true, true, true, true, true, true, false, false, false, false, false, false, false, false, false, false, false, false, false, false, false, false, false, false, false, false, false, false, false, false, false, false, false, false, false, false, false, false, false, false, false, false, false, false, false] rfl rfl (any_of HT_.out (by kernel_rfl)) (fun _ _ _ h => h) (Or.inl ⟨by rfl, ?_⟩) ?_ ?_
               rotate_left
               ·intro w'
                go_simp
                with_reducible rfl
               rotate_left
               ·simp only [Act.put, List.setIfInBounds_toArray, List.set_cons_zero, List.set_cons_succ, i64_w, i32_w]
                rfl
               refine pure_ (i := 20) (N := some 143) (v := ?_) (a' := ?_) #[true, true, true, true, true, true, true, true, true, true, true, true, true, true, true, true, true, true, true, true, true, false, false, false, false, false, false, false, false, false, false, false, false, false, false, false, false, false, false, false, false, false, false, false, false, false, false, false, false, false, false, false, false, false, false, false, false, false, false] rfl rfl (any_of HT_.out (by kernel_rfl)) (fun _ _ _ h => h) (Or.inl ⟨by rfl, ?_⟩) ?_ ?_
               rotate_left
               ·intro w'
                go_simp
                with_reducible rfl
               rotate_left
               ·simp only [Act.put, List.setIfInBounds_toArray, List.set_cons_zero, List.set_cons_succ, i64_w, i32_w]
                rfl
               refine pure_ (i := 21) (N := some 144) (v := ?_) (a' := ?_) #[true, true, true, true, true, true, true, true, true, true, true, true, true, true, true, true, true, true, true, true, true, true, false, false, false, false, false, false, false, false, false, false, false, false, false, false, false, false, false, false, false, false, false, false, false, false, false, false, false, false, false, false, false, false, false, false, false, false, false] rfl rfl (any_of HT_.out (by kernel_rfl)) (fun _ _ _ h => h) (Or.inl ⟨by rfl, ?_⟩) ?_ ?_
               rotate_left
               ·intro w'
                go_simp
                with_reducible rfl
               rotate_left
               ·simp only [Act.put, List.setIfInBounds_toArray, List.set_cons_zero, List.set_cons_succ, i64_w, i32_w]
                rfl
               refine take_ (i := 22) (N := some 145) (v := ?_) (a' := ?_) #[true, true, true, true, true, true, true, true, true, true, true, true, true, true, true, true, true, true, true, true, true, true, true, false, false, false, false, false, false, false, false, false, false, false, false, false, false, false, false, false, false, false, false, false, false, false, false, false, false, false, false, false, false, false, false, false, false, false, false] rfl rfl (take_ofW HT_.out HW_.out (by kernel_rfl)) (fun _ _ _ h => h) (Or.inl ⟨by rfl, ?_⟩) hHeld ?_ ?_
               rotate_left
               ·rintro w' ⟨s0, s1, s2, s3, s4, s5, s6, s7, s8, s9, s10, s11, s12, s13, s14, s15, s16, s17, s18, s19, s20, s21, s22, s23⟩
                go_simp
                with_reducible rfl
               rotate_left
               ·simp only [Act.put, List.setIfInBounds_toArray, List.set_cons_zero, List.set_cons_succ, i64_w, i32_w]
                rfl
               refine take_ (i := 24) (N := some 147) (v := ?_) (a' := ?_) #[true, true, true, true, true, true, true, true, true, true, true, true, true, true, true, true, true, true, true, true, true, true, true, false, true, false, false, false, false, false, false, false, false, false, false, false, false, false, false, false, false, false, false, false, false, false, false, false, false, false, false, false, false, false, false, false, false, false, false] rfl rfl (take_ofW HT_.out HW_.out (by kernel_rfl)) (fun _ _ _ h => h) (Or.inl ⟨by rfl, ?_⟩) hHeld ?_ ?_
               rotate_left
               ·rintro w' ⟨s0, s1, s2, s3, s4, s5, s6, s7, s8, s9, s10, s11, s12, s13, s14, s15, s16, s17, s18, s19, s20, s21, s22, s23⟩
                go_simp
                with_reducible rfl
               rotate_left
               ·simp only [Act.put, List.setIfInBounds_toArray, List.set_cons_zero, List.set_cons_succ, i64_w, i32_w]
                rfl
               refine one_ (i := 23) (N := some 146) #[true, true, true, true, true, true, true, true, true, true, true, true, true, true, true, true, true, true, true, true, true, true, true, true, true, false, false, false, false, false, false, false, false, false, false, false, false, false, false, false, false, false, false, false, false, false, false, false, false, false, false, false, false, false, false, false, false, false, false] rfl rfl (one_of HT_.out (by kernel_rfl)) (by decide) (fun K hK => ?_)
               refine goes_ Try.func10 (by kernel_rfl) rfl #[.agg #[.int .i64 t376, .int .i64 t377, .slice Ao52 t378.length co52]] (by rfl) rfl rfl zm ?_
               with_reducible refine (handshakerlaw18_Ref.calls kj17 t376 t377 _ _ t378 t432 t433 t434 _ ?side1 ?side2 A126.out).mono ?_
               (case side1 => repeat (first | exact (Kd.V_reads' HO_386002.out).2.2 | (with_reducible refine Kd.C_alloc ?_ _) | (with_reducible refine Kd.C_drewN ?_ _) | (with_reducible refine Kd.C_drew ?_)))
               (case side2 => exact (Kd.V_reads' HO_386002.out).2.1)
               rintro e w147 ⟨v435, rfl, ho0, hb⟩
               refine ⟨_, rfl, ?_⟩
               replace HO_15 := zRb HO_15 hb
               replace HO_21 := zRb HO_21 hb
               replace HO_368002 := am (Kd.V_elder' (zV HO_368002) (Kd.R_base ho0) hb)
               replace HO_376002 := am (Kd.V_elder' (zV HO_376002) (Kd.R_base ho0) hb)
               replace HO_386002 := am (Kd.V_elder' (zV HO_386002) (Kd.R_base ho0) hb)
               replace HO_396002 := am (Kd.V_elder' (zV HO_396002) (Kd.R_base ho0) hb)
               replace HO_406002 := am (Kd.V_elder' (zV HO_406002) (Kd.R_base ho0) hb)
               replace HO_416002 := am (Kd.V_elder' (zV HO_416002) (Kd.R_base ho0) hb)
               replace HO_423002 := zRb HO_423002 hb
               have HO436 := am (Kd.R_lower (Kd.R_new' (Kd.R_new' (Kd.R_new' (Kd.R_new' ho0 (Kd.R_lt (zR HO_18))) (Kd.R_lt (zR HO_24))) (Kd.R_lt (zR HO_360002))) (Kd.R_lt (zR HO430))) (below_size (by repeat (first | (with_reducible first | exact HB.out | apply below_alloc | apply pw_below_drewN | apply below_drew1 | refine below_set ?_ GE352.out | refine below_set ?_ GE359.out | refine below_set ?_ GE367.out | refine below_set ?_ GE375.out | refine below_set ?_ GE385.out | refine below_set ?_ GE395.out | refine below_set ?_ GE405.out | refine below_set ?_ GE415.out | refine below_set ?_ GE422.out) | exact HB.out))))
               replace HO_18 := am (Kd.R_elder' (zR HO_18) (Kd.R_base ho0) hb)
               replace HO_24 := am (Kd.R_elder' (zR HO_24) (Kd.R_base ho0) hb)
               replace HO_360002 := am (Kd.R_elder' (zR HO_360002) (Kd.R_base ho0) hb)
               replace HO430 := am (Kd.R_elder' (zR HO430) (Kd.R_base ho0) hb)
               replace BK352 := zbb BK352 hb
               replace BK359 := zbb BK359 hb
               replace BK367 := zbb BK367 hb
               replace BK375 := zbb BK375 hb
               replace BK385 := zbb BK385 hb
               replace BK395 := zbb BK395 hb
               replace BK405 := zbb BK405 hb
               replace BK415 := zbb BK415 hb
               replace BK422 := zbb BK422 hb
               replace HB := am (below_step (by repeat (first | (with_reducible first | exact HB.out | apply below_alloc | apply pw_below_drewN | apply below_drew1 | refine below_set ?_ GE352.out | refine below_set ?_ GE359.out | refine below_set ?_ GE367.out | refine below_set ?_ GE375.out | refine below_set ?_ GE385.out | refine below_set ?_ GE395.out | refine below_set ?_ GE405.out | refine below_set ?_ GE415.out | refine below_set ?_ GE422.out) | exact HB.out)) hb)
               (try clear hb)
               (try clear hb2)
               (try clear hk)
               (try clear hi)
               (try clear ho0)
               obtain ⟨Ao148, co148, eo148⟩ := Kd.R_slice HO436.out
               (first | subst eo148 | (injection eo148 with f1_ f2_ f3_; have f4_ := f1_.symm; have f5_ := f3_.symm; clear f1_ f2_ f3_; subst f4_; subst f5_))
               refine hK.out _ _ ⟨(blk_cell BK352.out 0).trans rfl, (blk_cell BK352.out 1).trans rfl, (blk_cell BK352.out 2).trans rfl, (blk_cell BK359.out 0).trans rfl, (blk_cell BK359.out 1).trans rfl, (blk_cell BK359.out 2).trans rfl, (blk_cell BK367.out 0).trans rfl, (blk_cell BK367.out 1).trans rfl, (blk_cell BK367.out 2).trans rfl, (blk_cell BK375.out 0).trans rfl, (blk_cell BK375.out 1).trans rfl, (blk_cell BK375.out 2).trans rfl, (blk_cell BK385.out 0).trans rfl, (blk_cell BK385.out 1).trans rfl, (blk_cell BK385.out 2).trans rfl, (blk_cell BK395.out 0).trans rfl, (blk_cell BK395.out 1).trans rfl, (blk_cell BK395.out 2).trans rfl, (blk_cell BK405.out 0).trans rfl, (blk_cell BK405.out 1).trans rfl, (blk_cell BK405.out 2).trans rfl, (blk_cell BK415.out 0).trans rfl, (blk_cell BK415.out 1).trans rfl, (blk_cell BK415.out 2).trans rfl⟩ (fun hHeld => ?_)
               clear hK K
               refine norm_ (a' := ?_) ?_ ?_
               rotate_left
               ·show Act.put _ (some 146) _ = _
                simp only [Act.put, List.setIfInBounds_toArray, List.set_cons_zero, List.set_cons_succ, i64_w, i32_w]
                rfl
               refine one_ (i := 25) (N := some 148) #[true, true, true, true, true, true, true, true, true, true, true, true, true, true, true, true, true, true, true, true, true, true, true, true, true, true, false, false, false, false, false, false, false, false, false, false, false, false, false, false, false, false, false, false, false, false, false, false, false, false, false, false, false, false, false, false, false, false, false] rfl rfl (one_of HT_.out (by kernel_rfl)) (by decide) (fun K hK => ?_)
               refine goes_ Try.func20 (by kernel_rfl) rfl #[.agg #[.int .i64 t432, .int .i64 t433, .slice Ao148 t434.length co148], .agg #[.int .i64 t386, .int .i64 t387, .slice Ao63 t388.length co63]] (by rfl) rfl rfl zm ?_
               with_reducible refine (handshakerref18_Same.calls kj17 t432 t433 _ _ t434 t386 t387 _ _ t388 true _ ?side1 ?side2 ?side3 ?side4 A127.out).mono ?_
               (case side1 => repeat (first | exact (Kd.R_reads' HO436.out).2.2 | (with_reducible refine Kd.C_alloc ?_ _) | (with_reducible refine Kd.C_drewN ?_ _) | (with_reducible refine Kd.C_drew ?_)))
               (case side2 => exact (Kd.R_reads' HO436.out).2.1)
               (case side3 => repeat (first | exact (Kd.V_reads' HO_396002.out).2.2 | (with_reducible refine Kd.C_alloc ?_ _) | (with_reducible refine Kd.C_drewN ?_ _) | (with_reducible refine Kd.C_drew ?_)))
               (case side4 => exact (Kd.V_reads' HO_396002.out).2.1)
               rintro e w149 ⟨rfl, hb⟩
               refine ⟨_, rfl, ?_⟩
               replace HO_15 := zRb HO_15 hb
               replace HO_18 := zRb HO_18 hb
               replace HO_21 := zRb HO_21 hb
               replace HO_24 := zRb HO_24 hb
               replace HO_360002 := zRb HO_360002 hb
               replace HO_368002 := zVb HO_368002 hb
               replace HO_376002 := zVb HO_376002 hb
               replace HO_386002 := zVb HO_386002 hb
               replace HO_396002 := zVb HO_396002 hb
               replace HO_406002 := zVb HO_406002 hb
               replace HO_416002 := zVb HO_416002 hb
               replace HO_423002 := zRb HO_423002 hb
               replace HO430 := zRb HO430 hb
               replace HO436 := zRb HO436 hb
               replace BK352 := zbb BK352 hb
               replace BK359 := zbb BK359 hb
               replace BK367 := zbb BK367 hb
               replace BK375 := zbb BK375 hb
               replace BK385 := zbb BK385 hb
               replace BK395 := zbb BK395 hb
               replace BK405 := zbb BK405 hb
               replace BK415 := zbb BK415 hb
               replace BK422 := zbb BK422 hb
               replace HB := am (below_step (by repeat (first | (with_reducible first | exact HB.out | apply below_alloc | apply pw_below_drewN | apply below_drew1 | refine below_set ?_ GE352.out | refine below_set ?_ GE359.out | refine below_set ?_ GE367.out | refine below_set ?_ GE375.out | refine below_set ?_ GE385.out | refine below_set ?_ GE395.out | refine below_set ?_ GE405.out | refine below_set ?_ GE415.out | refine below_set ?_ GE422.out) | exact HB.out)) hb)
               (try clear hb)
               (try clear hb2)
               (try clear hk)
               (try clear hi)
               obtain ⟨Ao150, co150, eo150⟩ := Kd.R_slice HO_15.out
               (first | subst eo150 | (injection eo150 with f1_ f2_ f3_; have f4_ := f1_.symm; have f5_ := f3_.symm; clear f1_ f2_ f3_; subst f4_; subst f5_))
               refine hK.out _ _ ⟨(blk_cell BK352.out 0).trans rfl, (blk_cell BK352.out 1).trans rfl, (blk_cell BK352.out 2).trans rfl, (blk_cell BK359.out 0).trans rfl, (blk_cell BK359.out 1).trans rfl, (blk_cell BK359.out 2).trans rfl, (blk_cell BK367.out 0).trans rfl, (blk_cell BK367.out 1).trans rfl, (blk_cell BK367.out 2).trans rfl, (blk_cell BK375.out 0).trans rfl, (blk_cell BK375.out 1).trans rfl, (blk_cell BK375.out 2).trans rfl, (blk_cell BK385.out 0).trans rfl, (blk_cell BK385.out 1).trans rfl, (blk_cell BK385.out 2).trans rfl, (blk_cell BK395.out 0).trans rfl, (blk_cell BK395.out 1).trans rfl, (blk_cell BK395.out 2).trans rfl, (blk_cell BK405.out 0).trans rfl, (blk_cell BK405.out 1).trans rfl, (blk_cell BK405.out 2).trans rfl, (blk_cell BK415.out 0).trans rfl, (blk_cell BK415.out 1).trans rfl, (blk_cell BK415.out 2).trans rfl⟩ (fun hHeld => ?_)
               clear hK K
               refine norm_ (a' := ?_) ?_ ?_
               rotate_left
               ·show Act.put _ (some 148) _ = _
                simp only [Act.put, List.setIfInBounds_toArray, List.set_cons_zero, List.set_cons_succ, i64_w, i32_w]
                rfl
               refine pure_ (i := 26) (N := some 149) (v := ?_) (a' := ?_) #[true, true, true, true, true, true, true, true, true, true, true, true, true, true, true, true, true, true, true, true, true, true, true, true, true, true, true, false, false, false, false, false, false, false, false, false, false, false, false, false, false, false, false, false, false, false, false, false, false, false, false, false, false, false, false, false, false, false, false] rfl rfl (any_of HT_.out (by kernel_rfl)) (fun _ _ _ h => h) (Or.inl ⟨by rfl, ?_⟩) ?_ ?_
               rotate_left
               ·intro w'
                go_simp
                with_reducible rfl
               rotate_left
               ·simp only [Act.put, List.setIfInBounds_toArray, List.set_cons_zero, List.set_cons_succ, i64_w, i32_w]
                rfl
               refine pure_ (i := 27) (N := some 150) (v := ?_) (a' := ?_) #[true, true, true, true, true, true, true, true, true, true, true, true, true, true, true, true, true, true, true, true, true, true, true, true, true, true, true, true, false, false, false, false, false, false, false, false, false, false, false, false, false, false, false, false, false, false, false, false, false, false, false, false, false, false, false, false, false, false, false] rfl rfl (any_of HT_.out (by kernel_rfl)) (fun _ _ _ h => h) (Or.inl ⟨by rfl, ?_⟩) ?_ ?_
               rotate_left
               ·intro w'
                go_simp
                with_reducible rfl
               rotate_left
               ·simp only [Act.put, List.setIfInBounds_toArray, List.set_cons_zero, List.set_cons_succ, i64_w, i32_w]
                rfl
               refine pure_ (i := 28) (N := some 151) (v := ?_) (a' := ?_) #[true, true, true, true, true, true, true, true, true, true, true, true, true, true, true, true, true, true, true, true, true, true, true, true, true, true, true, true, true, false, false, false, false, false, false, false, false, false, false, false, false, false, false, false, false, false, false, false, false, false, false, false, false, false, false, false, false, false, false] rfl rfl (any_of HT_.out (by kernel_rfl)) (fun _ _ _ h => h) (Or.inl ⟨by rfl, ?_⟩) ?_ ?_
               rotate_left
               ·intro w'
                go_simp
                with_reducible rfl
               rotate_left
               ·simp only [Act.put, List.setIfInBounds_toArray, List.set_cons_zero, List.set_cons_succ, i64_w, i32_w]
                rfl
               refine pure_ (i := 30) (N := some 153) (v := ?_) (a' := ?_) #[true, true, true, true, true, true, true, true, true, true, true, true, true, true, true, true, true, true, true, true, true, true, true, true, true, true, true, true, true, false, true, false, false, false, false, false, false, false, false, false, false, false, false, false, false, false, false, false, false, false, false, false, false, false, false, false, false, false, false] rfl rfl (any_of HT_.out (by kernel_rfl)) (fun _ _ _ h => h) (Or.inl ⟨by rfl, ?_⟩) ?_ ?_
               rotate_left
               ·intro w'
                go_simp
                with_reducible rfl
               rotate_left
               ·simp only [Act.put, List.setIfInBounds_toArray, List.set_cons_zero, List.set_cons_succ, i64_w, i32_w]
                rfl
               refine one_ (i := 29) (N := some 152) #[true, true, true, true, true, true, true, true, true, true, true, true, true, true, true, true, true, true, true, true, true, true, true, true, true, true, true, true, true, true, true, false, false, false, false, false, false, false, false, false, false, false, false, false, false, false, false, false, false, false, false, false, false, false, false, false, false, false, false] rfl rfl (one_of HT_.out (by kernel_rfl)) (by decide) (fun K hK => ?_)
               refine goes_ Try.func22 (by kernel_rfl) rfl #[.slice Ao150 t381.length co150] (by rfl) rfl rfl zm ?_
               with_reducible refine (handshakerlaw18_Refs.calls kj17 _ _ t381 t438 _ ?side1 ?side2 A129.out).mono ?_
               (case side1 => repeat (first | exact (Kd.R_reads' HO_15.out).2.2 | (with_reducible refine Kd.C_alloc ?_ _) | (with_reducible refine Kd.C_drewN ?_ _) | (with_reducible refine Kd.C_drew ?_)))
               (case side2 => exact (Kd.R_reads' HO_15.out).2.1)
               rintro e w151 ⟨v439, rfl, ho0, hb⟩
               refine ⟨_, rfl, ?_⟩
               replace HO_15 := zRb HO_15 hb
               replace HO_21 := zRb HO_21 hb
               replace HO_368002 := am (Kd.V_elder' (zV HO_368002) (Kd.R_base ho0) hb)
               replace HO_376002 := am (Kd.V_elder' (zV HO_376002) (Kd.R_base ho0) hb)
               replace HO_386002 := am (Kd.V_elder' (zV HO_386002) (Kd.R_base ho0) hb)
               replace HO_396002 := am (Kd.V_elder' (zV HO_396002) (Kd.R_base ho0) hb)
               replace HO_406002 := am (Kd.V_elder' (zV HO_406002) (Kd.R_base ho0) hb)
               replace HO_416002 := am (Kd.V_elder' (zV HO_416002) (Kd.R_base ho0) hb)
               replace HO_423002 := zRb HO_423002 hb
               have HO440 := am (Kd.R_lower (Kd.R_new' (Kd.R_new' (Kd.R_new' (Kd.R_new' (Kd.R_new' ho0 (Kd.R_lt (zR HO_18))) (Kd.R_lt (zR HO_24))) (Kd.R_lt (zR HO_360002))) (Kd.R_lt (zR HO430))) (Kd.R_lt (zR HO436))) (below_size (by repeat (first | (with_reducible first | exact HB.out | apply below_alloc | apply pw_below_drewN | apply below_drew1 | refine below_set ?_ GE352.out | refine below_set ?_ GE359.out | refine below_set ?_ GE367.out | refine below_set ?_ GE375.out | refine below_set ?_ GE385.out | refine below_set ?_ GE395.out | refine below_set ?_ GE405.out | refine below_set ?_ GE415.out | refine below_set ?_ GE422.out) | exact HB.out))))
               replace HO_18 := am (Kd.R_elder' (zR HO_18) (Kd.R_base ho0) hb)
               replace HO_24 := am (Kd.R_elder' (zR HO_24) (Kd.R_base ho0) hb)
               replace HO_360002 := am (Kd.R_elder' (zR HO_360002) (Kd.R_base ho0) hb)
               replace HO430 := am (Kd.R_elder' (zR HO430) (Kd.R_base ho0) hb)
               replace HO436 := am (Kd.R_elder' (zR HO436) (Kd.R_base ho0) hb)
               replace BK352 := zbb BK352 hb
               replace BK359 := zbb BK359 hb
               replace BK367 := zbb BK367 hb
               replace BK375 := zbb BK375 hb
               replace BK385 := zbb BK385 hb
               replace BK395 := zbb BK395 hb
               replace BK405 := zbb BK405 hb
               replace BK415 := zbb BK415 hb
               replace BK422 := zbb BK422 hb
               replace HB := am (below_step (by repeat (first | (with_reducible first | exact HB.out | apply below_alloc | apply pw_below_drewN | apply below_drew1 | refine below_set ?_ GE352.out | refine below_set ?_ GE359.out | refine below_set ?_ GE367.out | refine below_set ?_ GE375.out | refine below_set ?_ GE385.out | refine below_set ?_ GE395.out | refine below_set ?_ GE405.out | refine below_set ?_ GE415.out | refine below_set ?_ GE422.out) | exact HB.out)) hb)
               (try clear hb)
               (try clear hb2)
               (try clear hk)
               (try clear hi)
               (try clear ho0)
               obtain ⟨Ao152, co152, eo152⟩ := Kd.R_slice HO440.out
               (first | subst eo152 | (injection eo152 with f1_ f2_ f3_; have f4_ := f1_.symm; have f5_ := f3_.symm; clear f1_ f2_ f3_; subst f4_; subst f5_))
               obtain ⟨Ao153, co153, eo153⟩ := Kd.R_slice HO_18.out
               (first | subst eo153 | (injection eo153 with f1_ f2_ f3_; have f4_ := f1_.symm; have f5_ := f3_.symm; clear f1_ f2_ f3_; subst f4_; subst f5_))
               refine hK.out _ _ ⟨(blk_cell BK352.out 0).trans rfl, (blk_cell BK352.out 1).trans rfl, (blk_cell BK352.out 2).trans rfl, (blk_cell BK359.out 0).trans rfl, (blk_cell BK359.out 1).trans rfl, (blk_cell BK359.out 2).trans rfl, (blk_cell BK367.out 0).trans rfl, (blk_cell BK367.out 1).trans rfl, (blk_cell BK367.out 2).trans rfl, (blk_cell BK375.out 0).trans rfl, (blk_cell BK375.out 1).trans rfl, (blk_cell BK375.out 2).trans rfl, (blk_cell BK385.out 0).trans rfl, (blk_cell BK385.out 1).trans rfl, (blk_cell BK385.out 2).trans rfl, (blk_cell BK395.out 0).trans rfl, (blk_cell BK395.out 1).trans rfl, (blk_cell BK395.out 2).trans rfl, (blk_cell BK405.out 0).trans rfl, (blk_cell BK405.out 1).trans rfl, (blk_cell BK405.out 2).trans rfl, (blk_cell BK415.out 0).trans rfl, (blk_cell BK415.out 1).trans rfl, (blk_cell BK415.out 2).trans rfl⟩ (fun hHeld => ?_)
               clear hK K
               refine norm_ (a' := ?_) ?_ ?_
               rotate_left
               ·show Act.put _ (some 152) _ = _
                simp only [Act.put, List.setIfInBounds_toArray, List.set_cons_zero, List.set_cons_succ, i64_w, i32_w]
                rfl
               refine one_ (i := 31) (N := some 154) #[true, true, true, true, true, true, true, true, true, true, true, true, true, true, true, true, true, true, true, true, true, true, true, true, true, true, true, true, true, true, true, true, false, false, false, false, false, false, false, false, false, false, false, false, false, false, false, false, false, false, false, false, false, false, false, false, false, false, false] rfl rfl (one_of HT_.out (by kernel_rfl)) (by decide) (fun K hK => ?_)
               refine goes_ Try.func21 (by kernel_rfl) rfl #[.slice Ao152 t438.length co152, .slice Ao153 t391.length co153] (by rfl) rfl rfl zm ?_
               with_reducible refine (handshakerref18_List.calls kj17 _ _ t438 _ _ t391 true _ ?side1 ?side2 ?side3 ?side4 A130.out).mono ?_
               (case side1 => repeat (first | exact (Kd.R_reads' HO440.out).2.2 | (with_reducible refine Kd.C_alloc ?_ _) | (with_reducible refine Kd.C_drewN ?_ _) | (with_reducible refine Kd.C_drew ?_)))
               (case side2 => exact (Kd.R_reads' HO440.out).2.1)
               (case side3 => repeat (first | exact (Kd.R_reads' HO_18.out).2.2 | (with_reducible refine Kd.C_alloc ?_ _) | (with_reducible refine Kd.C_drewN ?_ _) | (with_reducible refine Kd.C_drew ?_)))
               (case side4 => exact (Kd.R_reads' HO_18.out).2.1)
               rintro e w' ⟨rfl, ⟨nd, rfl⟩⟩
               refine ⟨_, rfl, ?_⟩
               refine hK.out _ _ ⟨(blk_cell BK352.out 0).trans rfl, (blk_cell BK352.out 1).trans rfl, (blk_cell BK352.out 2).trans rfl, (blk_cell BK359.out 0).trans rfl, (blk_cell BK359.out 1).trans rfl, (blk_cell BK359.out 2).trans rfl, (blk_cell BK367.out 0).trans rfl, (blk_cell BK367.out 1).trans rfl, (blk_cell BK367.out 2).trans rfl, (blk_cell BK375.out 0).trans rfl, (blk_cell BK375.out 1).trans rfl, (blk_cell BK375.out 2).trans rfl, (blk_cell BK385.out 0).trans rfl, (blk_cell BK385.out 1).trans rfl, (blk_cell BK385.out 2).trans rfl, (blk_cell BK395.out 0).trans rfl, (blk_cell BK395.out 1).trans rfl, (blk_cell BK395.out 2).trans rfl, (blk_cell BK405.out 0).trans rfl, (blk_cell BK405.out 1).trans rfl, (blk_cell BK405.out 2).trans rfl, (blk_cell BK415.out 0).trans rfl, (blk_cell BK415.out 1).trans rfl, (blk_cell BK415.out 2).trans rfl⟩ (fun hHeld => ?_)
               clear hK K
               refine norm_ (a' := ?_) ?_ ?_
               rotate_left
               ·show Act.put _ (some 154) _ = _
                simp only [Act.put, List.setIfInBounds_toArray, List.set_cons_zero, List.set_cons_succ, i64_w, i32_w]
                rfl
               refine pure_ (i := 32) (N := some 155) (v := ?_) (a' := ?_) #[true, true, true, true, true, true, true, true, true, true, true, true, true, true, true, true, true, true, true, true, true, true, true, true, true, true, true, true, true, true, true, true, true, false, false, false, false, false, false, false, false, false, false, false, false, false, false, false, false, false, false, false, false, false, false, false, false, false, false] rfl rfl (any_of HT_.out (by kernel_rfl)) (fun _ _ _ h => h) (Or.inl ⟨by rfl, ?_⟩) ?_ ?_
               rotate_left
               ·intro w'
                go_simp
                with_reducible rfl
               rotate_left
               ·simp only [Act.put, List.setIfInBounds_toArray, List.set_cons_zero, List.set_cons_succ, i64_w, i32_w]
                rfl
               refine pure_ (i := 33) (N := some 156) (v := ?_) (a' := ?_) #[true, true, true, true, true, true, true, true, true, true, true, true, true, true, true, true, true, true, true, true, true, true, true, true, true, true, true, true, true, true, true, true, true, true, false, false, false, false, false, false, false, false, false, false, false, false, false, false, false, false, false, false, false, false, false, false, false, false, false] rfl rfl (any_of HT_.out (by kernel_rfl)) (fun _ _ _ h => h) (Or.inl ⟨by rfl, ?_⟩) ?_ ?_
               rotate_left
               ·intro w'
                go_simp
                with_reducible rfl
               rotate_left
               ·simp only [Act.put, List.setIfInBounds_toArray, List.set_cons_zero, List.set_cons_succ, i64_w, i32_w]
                rfl
               refine pure_ (i := 34) (N := some 157) (v := ?_) (a' := ?_) #[true, true, true, true, true, true, true, true, true, true, true, true, true, true, true, true, true, true, true, true, true, true, true, true, true, true, true, true, true, true, true, true, true, true, true, false, false, false, false, false, false, false, false, false, false, false, false, false, false, false, false, false, false, false, false, false, false, false, false] rfl rfl (any_of HT_.out (by kernel_rfl)) (fun _ _ _ h => h) (Or.inl ⟨by rfl, ?_⟩) ?_ ?_
               rotate_left
               ·intro w'
                go_simp
                with_reducible rfl
               rotate_left
               ·simp only [Act.put, List.setIfInBounds_toArray, List.set_cons_zero, List.set_cons_succ, i64_w, i32_w]
                rfl
               refine pure_ (i := 35) (N := some 158) (v := ?_) (a' := ?_) #[true, true, true, true, true, true, true, true, true, true, true, true, true, true, true, true, true, true, true, true, true, true, true, true, true, true, true, true, true, true, true, true, true, true, true, true, false, false, false, false, false, false, false, false, false, false, false, false, false, false, false, false, false, false, false, false, false, false, false] rfl rfl (any_of HT_.out (by kernel_rfl)) (fun _ _ _ h => h) (Or.inl ⟨by rfl, ?_⟩) ?_ ?_
               rotate_left
               ·intro w'
                go_simp
                with_reducible rfl
               rotate_left
               ·simp only [Act.put, List.setIfInBounds_toArray, List.set_cons_zero, List.set_cons_succ, i64_w, i32_w]
                rfl
               refine pure_ (i := 36) (N := some 159) (v := ?_) (a' := ?_) #[true, true, true, true, true, true, true, true, true, true, true, true, true, true, true, true, true, true, true, true, true, true, true, true, true, true, true, true, true, true, true, true, true, true, true, true, true, false, false, false, false, false, false, false, false, false, false, false, false, false, false, false, false, false, false, false, false, false, false] rfl rfl (any_of HT_.out (by kernel_rfl)) (fun _ _ _ h => h) (Or.inl ⟨by rfl, ?_⟩) ?_ ?_
               rotate_left
               ·intro w'
                go_simp
                with_reducible rfl
               rotate_left
               ·simp only [Act.put, List.setIfInBounds_toArray, List.set_cons_zero, List.set_cons_succ, i64_w, i32_w]
                rfl
               refine pure_ (i := 37) (N := some 160) (v := ?_) (a' := ?_) #[true, true, true, true, true, true, true, true, true, true, true, true, true, true, true, true, true, true, true, true, true, true, true, true, true, true, true, true, true, true, true, true, true, true, true, true, true, true, false, false, false, false, false, false, false, false, false, false, false, false, false, false, false, false, false, false, false, false, false] rfl rfl (any_of HT_.out (by kernel_rfl)) (fun _ _ _ h => h) (Or.inl ⟨by rfl, ?_⟩) ?_ ?_
               rotate_left
               ·intro w'
                go_simp
                with_reducible rfl
               rotate_left
               ·simp only [Act.put, List.setIfInBounds_toArray, List.set_cons_zero, List.set_cons_succ, i64_w, i32_w]
                rfl
               refine pure_ (i := 38) (N := some 161) (v := ?_) (a' := ?_) #[true, true, true, true, true, true, true, true, true, true, true, true, true, true, true, true, true, true, true, true, true, true, true, true, true, true, true, true, true, true, true, true, true, true, true, true, true, true, true, false, false, false, false, false, false, false, false, false, false, false, false, false, false, false, false, false, false, false, false] rfl rfl (any_of HT_.out (by kernel_rfl)) (fun _ _ _ h => h) (Or.inl ⟨by rfl, ?_⟩) ?_ ?_
               rotate_left
               ·intro w'
                go_simp
                with_reducible rfl
               rotate_left
               ·simp only [Act.put, List.setIfInBounds_toArray, List.set_cons_zero, List.set_cons_succ, i64_w, i32_w]
                rfl
               refine take_ (i := 39) (N := some 162) (v := ?_) (a' := ?_) #[true, true, true, true, true, true, true, true, true, true, true, true, true, true, true, true, true, true, true, true, true, true, true, true, true, true, true, true, true, true, true, true, true, true, true, true, true, true, true, true, false, false, false, false, false, false, false, false, false, false, false, false, false, false, false, false, false, false, false] rfl rfl (take_ofW HT_.out HW_.out (by kernel_rfl)) (fun _ _ _ h => h) (Or.inl ⟨by rfl, ?_⟩) hHeld ?_ ?_
               rotate_left
               ·rintro w' ⟨s0, s1, s2, s3, s4, s5, s6, s7, s8, s9, s10, s11, s12, s13, s14, s15, s16, s17, s18, s19, s20, s21, s22, s23⟩
                go_simp
                with_reducible rfl
               rotate_left
               ·simp only [Act.put, List.setIfInBounds_toArray, List.set_cons_zero, List.set_cons_succ, i64_w, i32_w]
                rfl
               refine take_ (i := 41) (N := some 164) (v := ?_) (a' := ?_) #[true, true, true, true, true, true, true, true, true, true, true, true, true, true, true, true, true, true, true, true, true, true, true, true, true, true, true, true, true, true, true, true, true, true, true, true, true, true, true, true, false, true, false, false, false, false, false, false, false, false, false, false, false, false, false, false, false, false, false] rfl rfl (take_ofW HT_.out HW_.out (by kernel_rfl)) (fun _ _ _ h => h) (Or.inl ⟨by rfl, ?_⟩) hHeld ?_ ?_
               rotate_left
               ·rintro w' ⟨s0, s1, s2, s3, s4, s5, s6, s7, s8, s9, s10, s11, s12, s13, s14, s15, s16, s17, s18, s19, s20, s21, s22, s23⟩
                go_simp
                with_reducible rfl
               rotate_left
               ·simp only [Act.put, List.setIfInBounds_toArray, List.set_cons_zero, List.set_cons_succ, i64_w, i32_w]
                rfl
               refine one_ (i := 40) (N := some 163) #[true, true, true, true, true, true, true, true, true, true, true, true, true, true, true, true, true, true, true, true, true, true, true, true, true, true, true, true, true, true, true, true, true, true, true, true, true, true, true, true, true, true, false, false, false, false, false, false, false, false, false, false, false, false, false, false, false, false, false] rfl rfl (one_of HT_.out (by kernel_rfl)) (by decide) (fun K hK => ?_)
               refine goes_ Try.func10 (by kernel_rfl) rfl #[.agg #[.int .i64 t396, .int .i64 t397, .slice Ao75 t398.length co75]] (by rfl) rfl rfl zm ?_
               with_reducible refine (handshakerlaw18_Ref.calls kj17 t396 t397 _ _ t398 t442 t443 t444 _ ?side1 ?side2 A133.out).mono ?_
               (case side1 => repeat (first | exact (Kd.V_reads' HO_406002.out).2.2 | (with_reducible refine Kd.C_alloc ?_ _) | (with_reducible refine Kd.C_drewN ?_ _) | (with_reducible refine Kd.C_drew ?_)))
               (case side2 => exact (Kd.V_reads' HO_406002.out).2.1)
               rintro e w154 ⟨v445, rfl, ho0, hb⟩
               refine ⟨_, rfl, ?_⟩
               replace HO_15 := zRb HO_15 hb
               replace HO_21 := zRb HO_21 hb
               replace HO_368002 := am (Kd.V_elder' (zV HO_368002) (Kd.R_base ho0) hb)
               replace HO_376002 := am (Kd.V_elder' (zV HO_376002) (Kd.R_base ho0) hb)
               replace HO_386002 := am (Kd.V_elder' (zV HO_386002) (Kd.R_base ho0) hb)
               replace HO_396002 := am (Kd.V_elder' (zV HO_396002) (Kd.R_base ho0) hb)
               replace HO_406002 := am (Kd.V_elder' (zV HO_406002) (Kd.R_base ho0) hb)
               replace HO_416002 := am (Kd.V_elder' (zV HO_416002) (Kd.R_base ho0) hb)
               replace HO_423002 := zRb HO_423002 hb
               have HO446 := am (Kd.R_lower (Kd.R_new' (Kd.R_new' (Kd.R_new' (Kd.R_new' (Kd.R_new' (Kd.R_new' ho0 (Kd.R_lt (zR HO_18))) (Kd.R_lt (zR HO_24))) (Kd.R_lt (zR HO_360002))) (Kd.R_lt (zR HO430))) (Kd.R_lt (zR HO436))) (Kd.R_lt (zR HO440))) (below_size (by repeat (first | (with_reducible first | exact HB.out | apply below_alloc | apply pw_below_drewN | apply below_drew1 | refine below_set ?_ GE352.out | refine below_set ?_ GE359.out | refine below_set ?_ GE367.out | refine below_set ?_ GE375.out | refine below_set ?_ GE385.out | refine below_set ?_ GE395.out | refine below_set ?_ GE405.out | refine below_set ?_ GE415.out | refine below_set ?_ GE422.out) | exact HB.out))))
               replace HO_18 := am (Kd.R_elder' (zR HO_18) (Kd.R_base ho0) hb)
               replace HO_24 := am (Kd.R_elder' (zR HO_24) (Kd.R_base ho0) hb)
               replace HO_360002 := am (Kd.R_elder' (zR HO_360002) (Kd.R_base ho0) hb)
               replace HO430 := am (Kd.R_elder' (zR HO430) (Kd.R_base ho0) hb)
               replace HO436 := am (Kd.R_elder' (zR HO436) (Kd.R_base ho0) hb)
               replace HO440 := am (Kd.R_elder' (zR HO440) (Kd.R_base ho0) hb)
               replace BK352 := zbb BK352 hb
               replace BK359 := zbb BK359 hb
               replace BK367 := zbb BK367 hb
               replace BK375 := zbb BK375 hb
               replace BK385 := zbb BK385 hb
               replace BK395 := zbb BK395 hb
               replace BK405 := zbb BK405 hb
               replace BK415 := zbb BK415 hb
               replace BK422 := zbb BK422 hb
               replace HB := am (below_step (by repeat (first | (with_reducible first | exact HB.out | apply below_alloc | apply pw_below_drewN | apply below_drew1 | refine below_set ?_ GE352.out | refine below_set ?_ GE359.out | refine below_set ?_ GE367.out | refine below_set ?_ GE375.out | refine below_set ?_ GE385.out | refine below_set ?_ GE395.out | refine below_set ?_ GE405.out | refine below_set ?_ GE415.out | refine below_set ?_ GE422.out) | exact HB.out)) hb)
               (try clear hb)
               (try clear hb2)
               (try clear hk)
               (try clear hi)
               (try clear ho0)
               obtain ⟨Ao155, co155, eo155⟩ := Kd.R_slice HO446.out
               (first | subst eo155 | (injection eo155 with f1_ f2_ f3_; have f4_ := f1_.symm; have f5_ := f3_.symm; clear f1_ f2_ f3_; subst f4_; subst f5_))
               refine hK.out _ _ ⟨(blk_cell BK352.out 0).trans rfl, (blk_cell BK352.out 1).trans rfl, (blk_cell BK352.out 2).trans rfl, (blk_cell BK359.out 0).trans rfl, (blk_cell BK359.out 1).trans rfl, (blk_cell BK359.out 2).trans rfl, (blk_cell BK367.out 0).trans rfl, (blk_cell BK367.out 1).trans rfl, (blk_cell BK367.out 2).trans rfl, (blk_cell BK375.out 0).trans rfl, (blk_cell BK375.out 1).trans rfl, (blk_cell BK375.out 2).trans rfl, (blk_cell BK385.out 0).trans rfl, (blk_cell BK385.out 1).trans rfl, (blk_cell BK385.out 2).trans rfl, (blk_cell BK395.out 0).trans rfl, (blk_cell BK395.out 1).trans rfl, (blk_cell BK395.out 2).trans rfl, (blk_cell BK405.out 0).trans rfl, (blk_cell BK405.out 1).trans rfl, (blk_cell BK405.out 2).trans rfl, (blk_cell BK415.out 0).trans rfl, (blk_cell BK415.out 1).trans rfl, (blk_cell BK415.out 2).trans rfl⟩ (fun hHeld => ?_)
               clear hK K
               refine norm_ (a' := ?_) ?_ ?_
               rotate_left
               ·show Act.put _ (some 163) _ = _
                simp only [Act.put, List.setIfInBounds_toArray, List.set_cons_zero, List.set_cons_succ, i64_w, i32_w]
                rfl
               refine one_ (i := 42) (N := some 165) #[true, true, true, true, true, true, true, true, true, true, true, true, true, true, true, true, true, true, true, true, true, true, true, true, true, true, true, true, true, true, true, true, true, true, true, true, true, true, true, true, true, true, true, false, false, false, false, false, false, false, false, false, false, false, false, false, false, false, false] rfl rfl (one_of HT_.out (by kernel_rfl)) (by decide) (fun K hK => ?_)
               refine goes_ Try.func20 (by kernel_rfl) rfl #[.agg #[.int .i64 t442, .int .i64 t443, .slice Ao155 t444.length co155], .agg #[.int .i64 t406, .int .i64 t407, .slice Ao88 t408.length co88]] (by rfl) rfl rfl zm ?_
               with_reducible refine (handshakerref18_Same.calls kj17 t442 t443 _ _ t444 t406 t407 _ _ t408 true _ ?side1 ?side2 ?side3 ?side4 A134.out).mono ?_
               (case side1 => repeat (first | exact (Kd.R_reads' HO446.out).2.2 | (with_reducible refine Kd.C_alloc ?_ _) | (with_reducible refine Kd.C_drewN ?_ _) | (with_reducible refine Kd.C_drew ?_)))
               (case side2 => exact (Kd.R_reads' HO446.out).2.1)
               (case side3 => repeat (first | exact (Kd.V_reads' HO_416002.out).2.2 | (with_reducible refine Kd.C_alloc ?_ _) | (with_reducible refine Kd.C_drewN ?_ _) | (with_reducible refine Kd.C_drew ?_)))
               (case side4 => exact (Kd.V_reads' HO_416002.out).2.1)
               rintro e w156 ⟨rfl, hb⟩
               refine ⟨_, rfl, ?_⟩
               replace HO_15 := zRb HO_15 hb
               replace HO_18 := zRb HO_18 hb
               replace HO_21 := zRb HO_21 hb
               replace HO_24 := zRb HO_24 hb
               replace HO_360002 := zRb HO_360002 hb
               replace HO_368002 := zVb HO_368002 hb
               replace HO_376002 := zVb HO_376002 hb
               replace HO_386002 := zVb HO_386002 hb
               replace HO_396002 := zVb HO_396002 hb
               replace HO_406002 := zVb HO_406002 hb
               replace HO_416002 := zVb HO_416002 hb
               replace HO_423002 := zRb HO_423002 hb
               replace HO430 := zRb HO430 hb
               replace HO436 := zRb HO436 hb
               replace HO440 := zRb HO440 hb
               replace HO446 := zRb HO446 hb
               replace BK352 := zbb BK352 hb
               replace BK359 := zbb BK359 hb
               replace BK367 := zbb BK367 hb
               replace BK375 := zbb BK375 hb
               replace BK385 := zbb BK385 hb
               replace BK395 := zbb BK395 hb
               replace BK405 := zbb BK405 hb
               replace BK415 := zbb BK415 hb
               replace BK422 := zbb BK422 hb
               replace HB := am (below_step (by repeat (first | (with_reducible first | exact HB.out | apply below_alloc | apply pw_below_drewN | apply below_drew1 | refine below_set ?_ GE352.out | refine below_set ?_ GE359.out | refine below_set ?_ GE367.out | refine below_set ?_ GE375.out | refine below_set ?_ GE385.out | refine below_set ?_ GE395.out | refine below_set ?_ GE405.out | refine below_set ?_ GE415.out | refine below_set ?_ GE422.out) | exact HB.out)) hb)
               (try clear hb)
               (try clear hb2)
               (try clear hk)
               (try clear hi)
               obtain ⟨Ao157, co157, eo157⟩ := Kd.R_slice HO_21.out
               (first | subst eo157 | (injection eo157 with f1_ f2_ f3_; have f4_ := f1_.symm; have f5_ := f3_.symm; clear f1_ f2_ f3_; subst f4_; subst f5_))
               refine hK.out _ _ ⟨(blk_cell BK352.out 0).trans rfl, (blk_cell BK352.out 1).trans rfl, (blk_cell BK352.out 2).trans rfl, (blk_cell BK359.out 0).trans rfl, (blk_cell BK359.out 1).trans rfl, (blk_cell BK359.out 2).trans rfl, (blk_cell BK367.out 0).trans rfl, (blk_cell BK367.out 1).trans rfl, (blk_cell BK367.out 2).trans rfl, (blk_cell BK375.out 0).trans rfl, (blk_cell BK375.out 1).trans rfl, (blk_cell BK375.out 2).trans rfl, (blk_cell BK385.out 0).trans rfl, (blk_cell BK385.out 1).trans rfl, (blk_cell BK385.out 2).trans rfl, (blk_cell BK395.out 0).trans rfl, (blk_cell BK395.out 1).trans rfl, (blk_cell BK395.out 2).trans rfl, (blk_cell BK405.out 0).trans rfl, (blk_cell BK405.out 1).trans rfl, (blk_cell BK405.out 2).trans rfl, (blk_cell BK415.out 0).trans rfl, (blk_cell BK415.out 1).trans rfl, (blk_cell BK415.out 2).trans rfl⟩ (fun hHeld => ?_)
               clear hK K
               refine norm_ (a' := ?_) ?_ ?_
               rotate_left
               ·show Act.put _ (some 165) _ = _
                simp only [Act.put, List.setIfInBounds_toArray, List.set_cons_zero, List.set_cons_succ, i64_w, i32_w]
                rfl
               refine pure_ (i := 43) (N := some 166) (v := ?_) (a' := ?_) #[true, true, true, true, true, true, true, true, true, true, true, true, true, true, true, true, true, true, true, true, true, true, true, true, true, true, true, true, true, true, true, true, true, true, true, true, true, true, true, true, true, true, true, true, false, false, false, false, false, false, false, false, false, false, false, false, false, false, false] rfl rfl (any_of HT_.out (by kernel_rfl)) (fun _ _ _ h => h) (Or.inl ⟨by rfl, ?_⟩) ?_ ?_
               rotate_left
               ·intro w'
                go_simp
                with_reducible rfl
               rotate_left
               ·simp only [Act.put, List.setIfInBounds_toArray, List.set_cons_zero, List.set_cons_succ, i64_w, i32_w]
                rfl
               refine pure_ (i := 44) (N := some 167) (v := ?_) (a' := ?_) #[true, true, true, true, true, true, true, true, true, true, true, true, true, true, true, true, true, true, true, true, true, true, true, true, true, true, true, true, true, true, true, true, true, true, true, true, true, true, true, true, true, true, true, true, true, false, false, false, false, false, false, false, false, false, false, false, false, false, false] rfl rfl (any_of HT_.out (by kernel_rfl)) (fun _ _ _ h => h) (Or.inl ⟨by rfl, ?_⟩) ?_ ?_
               rotate_left
               ·intro w'
                go_simp
                with_reducible rfl
               rotate_left
               ·simp only [Act.put, List.setIfInBounds_toArray, List.set_cons_zero, List.set_cons_succ, i64_w, i32_w]
                rfl
               refine pure_ (i := 45) (N := some 168) (v := ?_) (a' := ?_) #[true, true, true, true, true, true, true, true, true, true, true, true, true, true, true, true, true, true, true, true, true, true, true, true, true, true, true, true, true, true, true, true, true, true, true, true, true, true, true, true, true, true, true, true, true, true, false, false, false, false, false, false, false, false, false, false, false, false, false] rfl rfl (any_of HT_.out (by kernel_rfl)) (fun _ _ _ h => h) (Or.inl ⟨by rfl, ?_⟩) ?_ ?_
               rotate_left
               ·intro w'
                go_simp
                with_reducible rfl
               rotate_left
               ·simp only [Act.put, List.setIfInBounds_toArray, List.set_cons_zero, List.set_cons_succ, i64_w, i32_w]
                rfl
               refine pure_ (i := 47) (N := some 170) (v := ?_) (a' := ?_) #[true, true, true, true, true, true, true, true, true, true, true, true, true, true, true, true, true, true, true, true, true, true, true, true, true, true, true, true, true, true, true, true, true, true, true, true, true, true, true, true, true, true, true, true, true, true, false, true, false, false, false, false, false, false, false, false, false, false, false] rfl rfl (any_of HT_.out (by kernel_rfl)) (fun _ _ _ h => h) (Or.inl ⟨by rfl, ?_⟩) ?_ ?_
               rotate_left
               ·intro w'
                go_simp
                with_reducible rfl
               rotate_left
               ·simp only [Act.put, List.setIfInBounds_toArray, List.set_cons_zero, List.set_cons_succ, i64_w, i32_w]
                rfl
               refine one_ (i := 46) (N := some 169) #[true, true, true, true, true, true, true, true, true, true, true, true, true, true, true, true, true, true, true, true, true, true, true, true, true, true, true, true, true, true, true, true, true, true, true, true, true, true, true, true, true, true, true, true, true, true, true, true, false, false, false, false, false, false, false, false, false, false, false] rfl rfl (one_of HT_.out (by kernel_rfl)) (by decide) (fun K hK => ?_)
               refine goes_ Try.func22 (by kernel_rfl) rfl #[.slice Ao157 t401.length co157] (by rfl) rfl rfl zm ?_
               with_reducible refine (handshakerlaw18_Refs.calls kj17 _ _ t401 t448 _ ?side1 ?side2 A136.out).mono ?_
               (case side1 => repeat (first | exact (Kd.R_reads' HO_21.out).2.2 | (with_reducible refine Kd.C_alloc ?_ _) | (with_reducible refine Kd.C_drewN ?_ _) | (with_reducible refine Kd.C_drew ?_)))
               (case side2 => exact (Kd.R_reads' HO_21.out).2.1)
               rintro e w158 ⟨v449, rfl, ho0, hb⟩
               refine ⟨_, rfl, ?_⟩
               replace HO_15 := zRb HO_15 hb
               replace HO_21 := zRb HO_21 hb
               replace HO_368002 := am (Kd.V_elder' (zV HO_368002) (Kd.R_base ho0) hb)
               replace HO_376002 := am (Kd.V_elder' (zV HO_376002) (Kd.R_base ho0) hb)
               replace HO_386002 := am (Kd.V_elder' (zV HO_386002) (Kd.R_base ho0) hb)
               replace HO_396002 := am (Kd.V_elder' (zV HO_396002) (Kd.R_base ho0) hb)
               replace HO_406002 := am (Kd.V_elder' (zV HO_406002) (Kd.R_base ho0) hb)
               replace HO_416002 := am (Kd.V_elder' (zV HO_416002) (Kd.R_base ho0) hb)
               replace HO_423002 := zRb HO_423002 hb
               have HO450 := am (Kd.R_lower (Kd.R_new' (Kd.R_new' (Kd.R_new' (Kd.R_new' (Kd.R_new' (Kd.R_new' (Kd.R_new' ho0 (Kd.R_lt (zR HO_18))) (Kd.R_lt (zR HO_24))) (Kd.R_lt (zR HO_360002))) (Kd.R_lt (zR HO430))) (Kd.R_lt (zR HO436))) (Kd.R_lt (zR HO440))) (Kd.R_lt (zR HO446))) (below_size (by repeat (first | (with_reducible first | exact HB.out | apply below_alloc | apply pw_below_drewN | apply below_drew1 | refine below_set ?_ GE352.out | refine below_set ?_ GE359.out | refine below_set ?_ GE367.out | refine below_set ?_ GE375.out | refine below_set ?_ GE385.out | refine below_set ?_ GE395.out | refine below_set ?_ GE405.out | refine below_set ?_ GE415.out | refine below_set ?_ GE422.out) | exact HB.out))))
               replace HO_18 := am (Kd.R_elder' (zR HO_18) (Kd.R_base ho0) hb)
               replace HO_24 := am (Kd.R_elder' (zR HO_24) (Kd.R_base ho0) hb)
               replace HO_360002 := am (Kd.R_elder' (zR HO_360002) (Kd.R_base ho0) hb)
               replace HO430 := am (Kd.R_elder' (zR HO430) (Kd.R_base ho0) hb)
               replace HO436 := am (Kd.R_elder' (zR HO436) (Kd.R_base ho0) hb)
               replace HO440 := am (Kd.R_elder' (zR HO440) (Kd.R_base ho0) hb)
               replace HO446 := am (Kd.R_elder' (zR HO446) (Kd.R_base ho0) hb)
               replace BK352 := zbb BK352 hb
               replace BK359 := zbb BK359 hb
               replace BK367 := zbb BK367 hb
               replace BK375 := zbb BK375 hb
               replace BK385 := zbb BK385 hb
               replace BK395 := zbb BK395 hb
               replace BK405 := zbb BK405 hb
               replace BK415 := zbb BK415 hb
               replace BK422 := zbb BK422 hb
               replace HB := am (below_step (by repeat (first | (with_reducible first | exact HB.out | apply below_alloc | apply pw_below_drewN | apply below_drew1 | refine below_set ?_ GE352.out | refine below_set ?_ GE359.out | refine below_set ?_ GE367.out | refine below_set ?_ GE375.out | refine below_set ?_ GE385.out | refine below_set ?_ GE395.out | refine below_set ?_ GE405.out | refine below_set ?_ GE415.out | refine below_set ?_ GE422.out) | exact HB.out)) hb)
               (try clear hb)
               (try clear hb2)
               (try clear hk)
               (try clear hi)
               (try clear ho0)
               obtain ⟨Ao159, co159, eo159⟩ := Kd.R_slice HO450.out
               (first | subst eo159 | (injection eo159 with f1_ f2_ f3_; have f4_ := f1_.symm; have f5_ := f3_.symm; clear f1_ f2_ f3_; subst f4_; subst f5_))
               obtain ⟨Ao160, co160, eo160⟩ := Kd.R_slice HO_24.out
               (first | subst eo160 | (injection eo160 with f1_ f2_ f3_; have f4_ := f1_.symm; have f5_ := f3_.symm; clear f1_ f2_ f3_; subst f4_; subst f5_))
               refine hK.out _ _ ⟨(blk_cell BK352.out 0).trans rfl, (blk_cell BK352.out 1).trans rfl, (blk_cell BK352.out 2).trans rfl, (blk_cell BK359.out 0).trans rfl, (blk_cell BK359.out 1).trans rfl, (blk_cell BK359.out 2).trans rfl, (blk_cell BK367.out 0).trans rfl, (blk_cell BK367.out 1).trans rfl, (blk_cell BK367.out 2).trans rfl, (blk_cell BK375.out 0).trans rfl, (blk_cell BK375.out 1).trans rfl, (blk_cell BK375.out 2).trans rfl, (blk_cell BK385.out 0).trans rfl, (blk_cell BK385.out 1).trans rfl, (blk_cell BK385.out 2).trans rfl, (blk_cell BK395.out 0).trans rfl, (blk_cell BK395.out 1).trans rfl, (blk_cell BK395.out 2).trans rfl, (blk_cell BK405.out 0).trans rfl, (blk_cell BK405.out 1).trans rfl, (blk_cell BK405.out 2).trans rfl, (blk_cell BK415.out 0).trans rfl, (blk_cell BK415.out 1).trans rfl, (blk_cell BK415.out 2).trans rfl⟩ (fun hHeld => ?_)
               clear hK K
               refine norm_ (a' := ?_) ?_ ?_
               rotate_left
               ·show Act.put _ (some 169) _ = _
                simp only [Act.put, List.setIfInBounds_toArray, List.set_cons_zero, List.set_cons_succ, i64_w, i32_w]
                rfl
               refine one_ (i := 48) (N := some 171) #[true, true, true, true, true, true, true, true, true, true, true, true, true, true, true, true, true, true, true, true, true, true, true, true, true, true, true, true, true, true, true, true, true, true, true, true, true, true, true, true, true, true, true, true, true, true, true, true, true, false, false, false, false, false, false, false, false, false, false] rfl rfl (one_of HT_.out (by kernel_rfl)) (by decide) (fun K hK => ?_)
               refine goes_ Try.func21 (by kernel_rfl) rfl #[.slice Ao159 t448.length co159, .slice Ao160 t411.length co160] (by rfl) rfl rfl zm ?_
               with_reducible refine (handshakerref18_List.calls kj17 _ _ t448 _ _ t411 true _ ?side1 ?side2 ?side3 ?side4 A137.out).mono ?_
               (case side1 => repeat (first | exact (Kd.R_reads' HO450.out).2.2 | (with_reducible refine Kd.C_alloc ?_ _) | (with_reducible refine Kd.C_drewN ?_ _) | (with_reducible refine Kd.C_drew ?_)))
               (case side2 => exact (Kd.R_reads' HO450.out).2.1)
               (case side3 => repeat (first | exact (Kd.R_reads' HO_24.out).2.2 | (with_reducible refine Kd.C_alloc ?_ _) | (with_reducible refine Kd.C_drewN ?_ _) | (with_reducible refine Kd.C_drew ?_)))
               (case side4 => exact (Kd.R_reads' HO_24.out).2.1)
               rintro e w' ⟨rfl, ⟨nd, rfl⟩⟩
               refine ⟨_, rfl, ?_⟩
               refine hK.out _ _ ⟨(blk_cell BK352.out 0).trans rfl, (blk_cell BK352.out 1).trans rfl, (blk_cell BK352.out 2).trans rfl, (blk_cell BK359.out 0).trans rfl, (blk_cell BK359.out 1).trans rfl, (blk_cell BK359.out 2).trans rfl, (blk_cell BK367.out 0).trans rfl, (blk_cell BK367.out 1).trans rfl, (blk_cell BK367.out 2).trans rfl, (blk_cell BK375.out 0).trans rfl, (blk_cell BK375.out 1).trans rfl, (blk_cell BK375.out 2).trans rfl, (blk_cell BK385.out 0).trans rfl, (blk_cell BK385.out 1).trans rfl, (blk_cell BK385.out 2).trans rfl, (blk_cell BK395.out 0).trans rfl, (blk_cell BK395.out 1).trans rfl, (blk_cell BK395.out 2).trans rfl, (blk_cell BK405.out 0).trans rfl, (blk_cell BK405.out 1).trans rfl, (blk_cell BK405.out 2).trans rfl, (blk_cell BK415.out 0).trans rfl, (blk_cell BK415.out 1).trans rfl, (blk_cell BK415.out 2).trans rfl⟩ (fun hHeld => ?_)
               clear hK K
               refine norm_ (a' := ?_) ?_ ?_
               rotate_left
               ·show Act.put _ (some 171) _ = _
                simp only [Act.put, List.setIfInBounds_toArray, List.set_cons_zero, List.set_cons_succ, i64_w, i32_w]
                rfl
               refine pure_ (i := 49) (N := some 172) (v := ?_) (a' := ?_) #[true, true, true, true, true, true, true, true, true, true, true, true, true, true, true, true, true, true, true, true, true, true, true, true, true, true, true, true, true, true, true, true, true, true, true, true, true, true, true, true, true, true, true, true, true, true, true, true, true, true, false, false, false, false, false, false, false, false, false] rfl rfl (any_of HT_.out (by kernel_rfl)) (fun _ _ _ h => h) (Or.inl ⟨by rfl, ?_⟩) ?_ ?_
               rotate_left
               ·intro w'
                go_simp
                with_reducible rfl
               rotate_left
               ·simp only [Act.put, List.setIfInBounds_toArray, List.set_cons_zero, List.set_cons_succ, i64_w, i32_w]
                rfl
               refine pure_ (i := 50) (N := some 173) (v := ?_) (a' := ?_) #[true, true, true, true, true, true, true, true, true, true, true, true, true, true, true, true, true, true, true, true, true, true, true, true, true, true, true, true, true, true, true, true, true, true, true, true, true, true, true, true, true, true, true, true, true, true, true, true, true, true, true, false, false, false, false, false, false, false, false] rfl rfl (any_of HT_.out (by kernel_rfl)) (fun _ _ _ h => h) (Or.inl ⟨by rfl, ?_⟩) ?_ ?_
               rotate_left
               ·intro w'
                go_simp
                with_reducible rfl
               rotate_left
               ·simp only [Act.put, List.setIfInBounds_toArray, List.set_cons_zero, List.set_cons_succ, i64_w, i32_w]
                rfl
               refine pure_ (i := 51) (N := some 174) (v := ?_) (a' := ?_) #[true, true, true, true, true, true, true, true, true, true, true, true, true, true, true, true, true, true, true, true, true, true, true, true, true, true, true, true, true, true, true, true, true, true, true, true, true, true, true, true, true, true, true, true, true, true, true, true, true, true, true, true, false, false, false, false, false, false, false] rfl rfl (any_of HT_.out (by kernel_rfl)) (fun _ _ _ h => h) (Or.inl ⟨by rfl, ?_⟩) ?_ ?_
               rotate_left
               ·intro w'
                go_simp
                with_reducible rfl
               rotate_left
               ·simp only [Act.put, List.setIfInBounds_toArray, List.set_cons_zero, List.set_cons_succ, i64_w, i32_w]
                rfl
               refine pure_ (i := 52) (N := some 175) (v := ?_) (a' := ?_) #[true, true, true, true, true, true, true, true, true, true, true, true, true, true, true, true, true, true, true, true, true, true, true, true, true, true, true, true, true, true, true, true, true, true, true, true, true, true, true, true, true, true, true, true, true, true, true, true, true, true, true, true, true, false, false, false, false, false, false] rfl rfl (any_of HT_.out (by kernel_rfl)) (fun _ _ _ h => h) (Or.inl ⟨by rfl, ?_⟩) ?_ ?_
               rotate_left
               ·intro w'
                go_simp
                with_reducible rfl
               rotate_left
               ·simp only [Act.put, List.setIfInBounds_toArray, List.set_cons_zero, List.set_cons_succ, i64_w, i32_w]
                rfl
               refine pure_ (i := 53) (N := some 176) (v := ?_) (a' := ?_) #[true, true, true, true, true, true, true, true, true, true, true, true, true, true, true, true, true, true, true, true, true, true, true, true, true, true, true, true, true, true, true, true, true, true, true, true, true, true, true, true, true, true, true, true, true, true, true, true, true, true, true, true, true, true, false, false, false, false, false] rfl rfl (any_of HT_.out (by kernel_rfl)) (fun _ _ _ h => h) (Or.inl ⟨by rfl, ?_⟩) ?_ ?_
               rotate_left
               ·intro w'
                go_simp
                with_reducible rfl
               rotate_left
               ·simp only [Act.put, List.setIfInBounds_toArray, List.set_cons_zero, List.set_cons_succ, i64_w, i32_w]
                rfl
               refine pure_ (i := 54) (N := some 177) (v := ?_) (a' := ?_) #[true, true, true, true, true, true, true, true, true, true, true, true, true, true, true, true, true, true, true, true, true, true, true, true, true, true, true, true, true, true, true, true, true, true, true, true, true, true, true, true, true, true, true, true, true, true, true, true, true, true, true, true, true, true, true, false, false, false, false] rfl rfl (any_of HT_.out (by kernel_rfl)) (fun _ _ _ h => h) (Or.inl ⟨by rfl, ?_⟩) ?_ ?_
               rotate_left
               ·intro w'
                go_simp
                with_reducible rfl
               rotate_left
               ·simp only [Act.put, List.setIfInBounds_toArray, List.set_cons_zero, List.set_cons_succ, i64_w, i32_w]
                rfl
               refine pure_ (i := 55) (N := some 178) (v := ?_) (a' := ?_) #[true, true, true, true, true, true, true, true, true, true, true, true, true, true, true, true, true, true, true, true, true, true, true, true, true, true, true, true, true, true, true, true, true, true, true, true, true, true, true, true, true, true, true, true, true, true, true, true, true, true, true, true, true, true, true, true, false, false, false] rfl rfl (any_of HT_.out (by kernel_rfl)) (fun _ _ _ h => h) (Or.inl ⟨by rfl, ?_⟩) ?_ ?_
               rotate_left
               ·intro w'
                go_simp
                with_reducible rfl
               rotate_left
               ·simp only [Act.put, List.setIfInBounds_toArray, List.set_cons_zero, List.set_cons_succ, i64_w, i32_w]
                rfl
               refine one_ (i := 56) (N := some 179) #[true, true, true, true, true, true, true, true, true, true, true, true, true, true, true, true, true, true, true, true, true, true, true, true, true, true, true, true, true, true, true, true, true, true, true, true, true, true, true, true, true, true, true, true, true, true, true, true, true, true, true, true, true, true, true, true, true, false, false] rfl rfl (one_of HT_.out (by kernel_rfl)) (by decide) (fun K hK => ?_)
               refine goes_ Try.func9 (by kernel_rfl) rfl #[] (by rfl) rfl rfl zm ?_
               with_reducible refine (handshakerlaw18_awake.calls kj17  t452 _ A140.out).mono ?_
               rintro e w161 ⟨rfl, hb⟩
               refine ⟨_, rfl, ?_⟩
               replace HO_15 := zRb HO_15 hb
               replace HO_18 := zRb HO_18 hb
               replace HO_21 := zRb HO_21 hb
               replace HO_24 := zRb HO_24 hb
               replace HO_360002 := zRb HO_360002 hb
               replace HO_368002 := zVb HO_368002 hb
               replace HO_376002 := zVb HO_376002 hb
               replace HO_386002 := zVb HO_386002 hb
               replace HO_396002 := zVb HO_396002 hb
               replace HO_406002 := zVb HO_406002 hb
               replace HO_416002 := zVb HO_416002 hb
               replace HO_423002 := zRb HO_423002 hb
               replace HO430 := zRb HO430 hb
               replace HO436 := zRb HO436 hb
               replace HO440 := zRb HO440 hb
               replace HO446 := zRb HO446 hb
               replace HO450 := zRb HO450 hb
               replace BK352 := zbb BK352 hb
               replace BK359 := zbb BK359 hb
               replace BK367 := zbb BK367 hb
               replace BK375 := zbb BK375 hb
               replace BK385 := zbb BK385 hb
               replace BK395 := zbb BK395 hb
               replace BK405 := zbb BK405 hb
               replace BK415 := zbb BK415 hb
               replace BK422 := zbb BK422 hb
               replace HB := am (below_step (by repeat (first | (with_reducible first | exact HB.out | apply below_alloc | apply pw_below_drewN | apply below_drew1 | refine below_set ?_ GE352.out | refine below_set ?_ GE359.out | refine below_set ?_ GE367.out | refine below_set ?_ GE375.out | refine below_set ?_ GE385.out | refine below_set ?_ GE395.out | refine below_set ?_ GE405.out | refine below_set ?_ GE415.out | refine below_set ?_ GE422.out) | exact HB.out)) hb)
               (try clear hb)
               (try clear hb2)
               (try clear hk)
               (try clear hi)
               refine hK.out _ _ ⟨(blk_cell BK352.out 0).trans rfl, (blk_cell BK352.out 1).trans rfl, (blk_cell BK352.out 2).trans rfl, (blk_cell BK359.out 0).trans rfl, (blk_cell BK359.out 1).trans rfl, (blk_cell BK359.out 2).trans rfl, (blk_cell BK367.out 0).trans rfl, (blk_cell BK367.out 1).trans rfl, (blk_cell BK367.out 2).trans rfl, (blk_cell BK375.out 0).trans rfl, (blk_cell BK375.out 1).trans rfl, (blk_cell BK375.out 2).trans rfl, (blk_cell BK385.out 0).trans rfl, (blk_cell BK385.out 1).trans rfl, (blk_cell BK385.out 2).trans rfl, (blk_cell BK395.out 0).trans rfl, (blk_cell BK395.out 1).trans rfl, (blk_cell BK395.out 2).trans rfl, (blk_cell BK405.out 0).trans rfl, (blk_cell BK405.out 1).trans rfl, (blk_cell BK405.out 2).trans rfl, (blk_cell BK415.out 0).trans rfl, (blk_cell BK415.out 1).trans rfl, (blk_cell BK415.out 2).trans rfl⟩ (fun hHeld => ?_)
               clear hK K
               refine norm_ (a' := ?_) ?_ ?_
               rotate_left
               ·show Act.put _ (some 179) _ = _
                simp only [Act.put, List.setIfInBounds_toArray, List.set_cons_zero, List.set_cons_succ, i64_w, i32_w]
                rfl
               refine pure_ (i := 57) (N := some 180) (v := ?_) (a' := ?_) #[true, true, true, true, true, true, true, true, true, true, true, true, true, true, true, true, true, true, true, true, true, true, true, true, true, true, true, true, true, true, true, true, true, true, true, true, true, true, true, true, true, true, true, true, true, true, true, true, true, true, true, true, true, true, true, true, true, true, false] rfl rfl (any_of HT_.out (by kernel_rfl)) (fun _ _ _ h => h) (Or.inl ⟨by rfl, ?_⟩) ?_ ?_
               rotate_left
               ·intro w'
                go_simp
                with_reducible rfl
               rotate_left
               ·simp only [Act.put, List.setIfInBounds_toArray, List.set_cons_zero, List.set_cons_succ, i64_w, i32_w]
                rfl
               refine pure_ (i := 58) (N := some 6) (v := ?_) (a' := ?_) #[true, true, true, true, true, true, true, true, true, true, true, true, true, true, true, true, true, true, true, true, true, true, true, true, true, true, true, true, true, true, true, true, true, true, true, true, true, true, true, true, true, true, true, true, true, true, true, true, true, true, true, true, true, true, true, true, true, true, true] rfl rfl (any_of HT_.out (by kernel_rfl)) (fun _ _ _ h => h) (Or.inl ⟨by rfl, ?_⟩) ?_ ?_
               rotate_left
               ·intro w'
                go_simp
                with_reducible rfl
               rotate_left
               ·simp only [Act.put, List.setIfInBounds_toArray, List.set_cons_zero, List.set_cons_succ, i64_w, i32_w]
                rfl
               refine done_ (done_of HT_.out (by kernel_rfl)) ?_
               try go_wp2
               go_ret
               exact ⟨by first | rfl | (simp [errW_none, errW_some] <;> rfl) | (simp [*, errW_none, errW_some] <;> rfl), by repeat (first | (with_reducible first | exact HB.out | apply below_alloc | apply pw_below_drewN | apply below_drew1 | refine below_set ?_ GE352.out | refine below_set ?_ GE359.out | refine below_set ?_ GE367.out | refine below_set ?_ GE375.out | refine below_set ?_ GE385.out | refine below_set ?_ GE395.out | refine below_set ?_ GE405.out | refine below_set ?_ GE415.out | refine below_set ?_ GE422.out) | exact HB.out)⟩
              ·rw [if_neg c139] at H
               exact absurd H (by simp)
             ·replace c138 := Bool.eq_false_iff.mpr c138
              subst c138
              have H1 : (none) = some r := by rw [if_neg (show ¬ (false = true) by decide)] at H; exact H
              clear H
              have H := H1
              clear H1
              exact absurd H (by simp)
            ·replace c135 := Bool.eq_false_iff.mpr c135
             subst c135
             have H1 : (none) = some r := by rw [if_neg (show ¬ (false = true) by decide)] at H; exact H
             clear H
             have H := H1
             clear H1
             exact absurd H (by simp)
           ·rw [if_neg c132] at H
            exact absurd H (by simp)
          ·replace c131 := Bool.eq_false_iff.mpr c131
           subst c131
           have H1 : (none) = some r := by rw [if_neg (show ¬ (false = true) by decide)] at H; exact H
           clear H
           have H := H1
           clear H1
           exact absurd H (by simp)
         ·replace c128 := Bool.eq_false_iff.mpr c128
          subst c128
          have H1 : (none) = some r := by rw [if_neg (show ¬ (false = true) by decide)] at H; exact H
          clear H
          have H := H1
          clear H1
          exact absurd H (by simp)
        ·rw [if_neg c125] at H
         exact absurd H (by simp)
       ·rw [if_neg c124] at H
        exact absurd H (by simp)
      ·replace c123 := Bool.eq_false_iff.mpr c123
       subst c123
       have H1 : (none) = some r := by rw [if_neg (show ¬ (false = true) by decide)] at H; exact H
       clear H
       have H := H1
       clear H1
       exact absurd H (by simp)
     ·rw [if_neg c120] at H
      exact absurd H (by simp)

end Go.Proofs.Ythbcajkphkdnmaa.PSemaTells
